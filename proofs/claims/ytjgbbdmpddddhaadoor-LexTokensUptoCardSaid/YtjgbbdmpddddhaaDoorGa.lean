/- Chapter 03: the library, the code, the example. No condition. -/
import Derived.Shelf.Strings.Builder1
import Derived.Shelf.Strings.OnBuilder
import Derived.Shelf.Strings.Search2
import Derived.Shelf.Strings.Fields
import Derived.Shelf.Strings.Count
import Derived.Shelf.Small.Strs
import Derived.Test.YtjgbbdmpddddhaaDoorChecked
import Derived.Test.YtjgbbdmpddddhaaDoorEd
import Derived.Lib.Walk
import Derived.WalkKit
import Derived.BigCall
import Derived.BigGuard
import Derived.Test.YtjgbbdmpddddhaaDoorEg
import Derived.KernelRfl
set_option linter.unusedVariables false
set_option linter.unusedSimpArgs false
namespace Go.Proofs
open Go.Shelf
def Tryd.lays156_ren : Go.Shelf.Ren := ⟨fun | 156 => 22 | 165 => 34 | 166 => 35 | 169 => 36 | 240 => 51 | 241 => 52 | 276 => 61 | 277 => 62 | n => n, fun | 31 => 48 | 9 => 9 | 3 => 3 | 4 => 4 | 0 => 0 | 20 => 20 | 72 => 60 | 76 => 64 | 70 => 57 | 37 => 58 | 75 => 63 | 127 => 75 | 164 => 85 | 5 => 5 | 80 => 66 | n => n, fun | n => n⟩
theorem Tryd.lays156 : Go.Proofs.Lays.n156 Tryd.prog Tryd.lays156_ren := {
  mixed := by kernel_rfl
  f156 := Tryd.func22.trans (congrArg some (by kernel_rfl))
  f165 := Tryd.func34.trans (congrArg some (by kernel_rfl))
  f166 := Tryd.func35.trans (congrArg some (by kernel_rfl))
  f169 := Tryd.func36.trans (congrArg some (by kernel_rfl))
  f240 := Tryd.func51.trans (congrArg some (by kernel_rfl))
  f241 := Tryd.func52.trans (congrArg some (by kernel_rfl))
  f276 := Tryd.func61.trans (congrArg some (by kernel_rfl))
  f277 := Tryd.func62.trans (congrArg some (by kernel_rfl))
  t0 := Tryd.underlying0
  a0 := Tryd.isAgg0
  z0 := Tryd.sizeOf0
  v0 := Tryd.zeroValue0
  t3 := Tryd.underlying3
  a3 := Tryd.isAgg3
  z3 := Tryd.sizeOf3
  v3 := Tryd.zeroValue3
  t4 := Tryd.underlying4
  a4 := Tryd.isAgg4
  z4 := Tryd.sizeOf4
  v4 := Tryd.zeroValue4
  t9 := Tryd.underlying9
  a9 := Tryd.isAgg9
  z9 := Tryd.sizeOf9
  v9 := Tryd.zeroValue9
  t20 := Tryd.underlying20
  a20 := Tryd.isAgg20
  z20 := Tryd.sizeOf20
  v20 := Tryd.zeroValue20
  t31 := Tryd.underlying48
  a31 := Tryd.isAgg48
  z31 := Tryd.sizeOf48
  v31 := Tryd.zeroValue48
  t37 := Tryd.underlying58
  a37 := Tryd.isAgg58
  z37 := Tryd.sizeOf58
  v37 := Tryd.zeroValue58
  t70 := Tryd.underlying57
  a70 := Tryd.isAgg57
  z70 := Tryd.sizeOf57
  v70 := Tryd.zeroValue57
  t72 := Tryd.underlying60
  a72 := Tryd.isAgg60
  z72 := Tryd.sizeOf60
  v72 := Tryd.zeroValue60
  t75 := Tryd.underlying63
  a75 := Tryd.isAgg63
  z75 := Tryd.sizeOf63
  v75 := Tryd.zeroValue63
  t76 := Tryd.underlying64
  a76 := Tryd.isAgg64
  z76 := Tryd.sizeOf64
  v76 := Tryd.zeroValue64
  t127 := Tryd.underlying75
  a127 := Tryd.isAgg75
  z127 := Tryd.sizeOf75
  v127 := Tryd.zeroValue75
  t164 := Tryd.underlying85
  a164 := Tryd.isAgg85
  z164 := Tryd.sizeOf85
  v164 := Tryd.zeroValue85 }
theorem Tryd.bx156 : Builder.Extra Tryd.prog Tryd.lays156_ren := {
  sizeBuilder := by kernel_rfl
  liesBuilder := by kernel_rfl
  t5 := Tryd.underlying5
  a5 := Tryd.isAgg5
  z5 := Tryd.sizeOf5
  v5 := Tryd.zeroValue5
  infoByte := by kernel_rfl
  cellsByte := by kernel_rfl
  sizeByte := by kernel_rfl
  neB5 := by decide }
def Tryd.lays157_ren : Go.Shelf.Ren := ⟨fun | 157 => 33 | 229 => 49 | 199 => 50 | 261 => 60 | 311 => 69 | 312 => 70 | n => n, fun | 9 => 9 | 31 => 48 | 3 => 3 | 5 => 5 | 4 => 4 | 119 => 72 | 0 => 0 | 40 => 74 | 152 => 79 | 21 => 21 | 154 => 81 | 51 => 82 | 141 => 84 | 196 => 98 | 193 => 95 | 198 => 101 | 49 => 99 | 194 => 96 | 201 => 104 | 226 => 109 | 46 => 78 | 227 => 110 | n => n, fun | 0 => 1 | 6 => 2 | n => n⟩
theorem Tryd.lays157 : Go.Proofs.Lays.n157 Tryd.prog Tryd.lays157_ren := {
  mixed := by kernel_rfl
  f157 := Tryd.func33.trans (congrArg some (by kernel_rfl))
  f199 := Tryd.func50.trans (congrArg some (by kernel_rfl))
  f229 := Tryd.func49.trans (congrArg some (by kernel_rfl))
  f261 := Tryd.func60.trans (congrArg some (by kernel_rfl))
  f311 := Tryd.func69.trans (congrArg some (by kernel_rfl))
  f312 := Tryd.func70.trans (congrArg some (by kernel_rfl))
  t0 := Tryd.underlying0
  a0 := Tryd.isAgg0
  z0 := Tryd.sizeOf0
  v0 := Tryd.zeroValue0
  t3 := Tryd.underlying3
  a3 := Tryd.isAgg3
  z3 := Tryd.sizeOf3
  v3 := Tryd.zeroValue3
  t4 := Tryd.underlying4
  a4 := Tryd.isAgg4
  z4 := Tryd.sizeOf4
  v4 := Tryd.zeroValue4
  t5 := Tryd.underlying5
  a5 := Tryd.isAgg5
  z5 := Tryd.sizeOf5
  v5 := Tryd.zeroValue5
  t9 := Tryd.underlying9
  a9 := Tryd.isAgg9
  z9 := Tryd.sizeOf9
  v9 := Tryd.zeroValue9
  t21 := Tryd.underlying21
  a21 := Tryd.isAgg21
  z21 := Tryd.sizeOf21
  v21 := Tryd.zeroValue21
  t31 := Tryd.underlying48
  a31 := Tryd.isAgg48
  z31 := Tryd.sizeOf48
  v31 := Tryd.zeroValue48
  t40 := Tryd.underlying74
  a40 := Tryd.isAgg74
  z40 := Tryd.sizeOf74
  v40 := Tryd.zeroValue74
  t46 := Tryd.underlying78
  a46 := Tryd.isAgg78
  z46 := Tryd.sizeOf78
  v46 := Tryd.zeroValue78
  t49 := Tryd.underlying99
  a49 := Tryd.isAgg99
  z49 := Tryd.sizeOf99
  v49 := Tryd.zeroValue99
  t51 := Tryd.underlying82
  a51 := Tryd.isAgg82
  z51 := Tryd.sizeOf82
  v51 := Tryd.zeroValue82
  t119 := Tryd.underlying72
  a119 := Tryd.isAgg72
  z119 := Tryd.sizeOf72
  t141 := Tryd.underlying84
  a141 := Tryd.isAgg84
  z141 := Tryd.sizeOf84
  v141 := Tryd.zeroValue84
  t152 := Tryd.underlying79
  a152 := Tryd.isAgg79
  z152 := Tryd.sizeOf79
  v152 := Tryd.zeroValue79
  t154 := Tryd.underlying81
  a154 := Tryd.isAgg81
  z154 := Tryd.sizeOf81
  v154 := Tryd.zeroValue81
  t193 := Tryd.underlying95
  a193 := Tryd.isAgg95
  z193 := Tryd.sizeOf95
  v193 := Tryd.zeroValue95
  t194 := Tryd.underlying96
  a194 := Tryd.isAgg96
  z194 := Tryd.sizeOf96
  v194 := Tryd.zeroValue96
  t196 := Tryd.underlying98
  a196 := Tryd.isAgg98
  z196 := Tryd.sizeOf98
  v196 := Tryd.zeroValue98
  t198 := Tryd.underlying101
  a198 := Tryd.isAgg101
  z198 := Tryd.sizeOf101
  v198 := Tryd.zeroValue101
  t201 := Tryd.underlying104
  a201 := Tryd.isAgg104
  z201 := Tryd.sizeOf104
  v201 := Tryd.zeroValue104
  t226 := Tryd.underlying109
  a226 := Tryd.isAgg109
  z226 := Tryd.sizeOf109
  v226 := Tryd.zeroValue109
  t227 := Tryd.underlying110
  a227 := Tryd.isAgg110
  z227 := Tryd.sizeOf110
  v227 := Tryd.zeroValue110
  g0 := by kernel_rfl
  g6 := by kernel_rfl }
def Tryd.lays137_ren : Go.Shelf.Ren := ⟨fun | 137 => 55 | 217 => 56 | 266 => 67 | n => n, fun | 9 => 9 | 5 => 5 | 3 => 3 | n => n, fun | n => n⟩
theorem Tryd.lays137 : Go.Proofs.Lays.n137 Tryd.prog Tryd.lays137_ren := {
  mixed := by kernel_rfl
  f137 := Tryd.func55.trans (congrArg some (by kernel_rfl))
  f217 := Tryd.func56.trans (congrArg some (by kernel_rfl))
  f266 := Tryd.func67.trans (congrArg some (by kernel_rfl))
  t3 := Tryd.underlying3
  a3 := Tryd.isAgg3
  z3 := Tryd.sizeOf3
  v3 := Tryd.zeroValue3
  t5 := Tryd.underlying5
  a5 := Tryd.isAgg5
  z5 := Tryd.sizeOf5
  v5 := Tryd.zeroValue5
  t9 := Tryd.underlying9
  a9 := Tryd.isAgg9
  z9 := Tryd.sizeOf9
  v9 := Tryd.zeroValue9 }
def Tryd.lays138_ren : Go.Shelf.Ren := ⟨fun | 138 => 19 | 195 => 29 | 218 => 30 | 143 => 31 | 219 => 48 | 217 => 56 | 225 => 57 | 224 => 58 | 267 => 59 | 266 => 67 | 314 => 68 | n => n, fun | 9 => 9 | 3 => 3 | 4 => 4 | 5 => 5 | 0 => 0 | 46 => 78 | 146 => 93 | 51 => 82 | n => n, fun | 1 => 0 | n => n⟩
theorem Tryd.lays138 : Go.Proofs.Lays.n138 Tryd.prog Tryd.lays138_ren := {
  mixed := by kernel_rfl
  f138 := Tryd.func19.trans (congrArg some (by kernel_rfl))
  f143 := Tryd.func31.trans (congrArg some (by kernel_rfl))
  f195 := Tryd.func29.trans (congrArg some (by kernel_rfl))
  f217 := Tryd.func56.trans (congrArg some (by kernel_rfl))
  f218 := Tryd.func30.trans (congrArg some (by kernel_rfl))
  f219 := Tryd.func48.trans (congrArg some (by kernel_rfl))
  f224 := Tryd.func58.trans (congrArg some (by kernel_rfl))
  f225 := Tryd.func57.trans (congrArg some (by kernel_rfl))
  f266 := Tryd.func67.trans (congrArg some (by kernel_rfl))
  f267 := Tryd.func59.trans (congrArg some (by kernel_rfl))
  f314 := Tryd.func68.trans (congrArg some (by kernel_rfl))
  t0 := Tryd.underlying0
  a0 := Tryd.isAgg0
  z0 := Tryd.sizeOf0
  v0 := Tryd.zeroValue0
  t3 := Tryd.underlying3
  a3 := Tryd.isAgg3
  z3 := Tryd.sizeOf3
  v3 := Tryd.zeroValue3
  t4 := Tryd.underlying4
  a4 := Tryd.isAgg4
  z4 := Tryd.sizeOf4
  v4 := Tryd.zeroValue4
  t5 := Tryd.underlying5
  a5 := Tryd.isAgg5
  z5 := Tryd.sizeOf5
  v5 := Tryd.zeroValue5
  t9 := Tryd.underlying9
  a9 := Tryd.isAgg9
  z9 := Tryd.sizeOf9
  v9 := Tryd.zeroValue9
  t46 := Tryd.underlying78
  a46 := Tryd.isAgg78
  z46 := Tryd.sizeOf78
  v46 := Tryd.zeroValue78
  t51 := Tryd.underlying82
  a51 := Tryd.isAgg82
  z51 := Tryd.sizeOf82
  v51 := Tryd.zeroValue82
  t146 := Tryd.underlying93
  a146 := Tryd.isAgg93
  z146 := Tryd.sizeOf93
  v146 := Tryd.zeroValue93
  g1 := by kernel_rfl }
def Tryd.lays219_ren : Go.Shelf.Ren := ⟨fun | 219 => 48 | 217 => 56 | 225 => 57 | 224 => 58 | 267 => 59 | 266 => 67 | 314 => 68 | n => n, fun | 9 => 9 | 3 => 3 | 4 => 4 | 5 => 5 | 46 => 78 | 146 => 93 | 51 => 82 | n => n, fun | 1 => 0 | n => n⟩
theorem Tryd.lays219 : Go.Proofs.Lays.n219 Tryd.prog Tryd.lays219_ren := {
  mixed := by kernel_rfl
  f217 := Tryd.func56.trans (congrArg some (by kernel_rfl))
  f219 := Tryd.func48.trans (congrArg some (by kernel_rfl))
  f224 := Tryd.func58.trans (congrArg some (by kernel_rfl))
  f225 := Tryd.func57.trans (congrArg some (by kernel_rfl))
  f266 := Tryd.func67.trans (congrArg some (by kernel_rfl))
  f267 := Tryd.func59.trans (congrArg some (by kernel_rfl))
  f314 := Tryd.func68.trans (congrArg some (by kernel_rfl))
  t3 := Tryd.underlying3
  a3 := Tryd.isAgg3
  z3 := Tryd.sizeOf3
  v3 := Tryd.zeroValue3
  t4 := Tryd.underlying4
  a4 := Tryd.isAgg4
  z4 := Tryd.sizeOf4
  v4 := Tryd.zeroValue4
  t5 := Tryd.underlying5
  a5 := Tryd.isAgg5
  z5 := Tryd.sizeOf5
  v5 := Tryd.zeroValue5
  t9 := Tryd.underlying9
  a9 := Tryd.isAgg9
  z9 := Tryd.sizeOf9
  v9 := Tryd.zeroValue9
  t46 := Tryd.underlying78
  a46 := Tryd.isAgg78
  z46 := Tryd.sizeOf78
  v46 := Tryd.zeroValue78
  t51 := Tryd.underlying82
  a51 := Tryd.isAgg82
  z51 := Tryd.sizeOf82
  v51 := Tryd.zeroValue82
  t146 := Tryd.underlying93
  a146 := Tryd.isAgg93
  z146 := Tryd.sizeOf93
  v146 := Tryd.zeroValue93
  g1 := by kernel_rfl }
end Go.Proofs

namespace Go.Proofs.YtjgbbdmpddddhaaDoor
open Go Go.Shelf Go.RowKit Go.Sort Go.Lib Ai

def indexOneA : List AV → Option AV
  | [.str s, .str [c]] => some (.int .i64 (Lib.indexByte s c))
  | _ => none
theorem index_ok {P : Program} {gl : List (Nat × AV)} {B : World → Prop} {f : FuncId} (he : ∀ args w, (callFunc f args).run P w = .ok (.enter f args) w)
    (C : ∀ (s : ByteArray) (c : UInt8) (w : World), Calls P f #[.string s, .string ⟨#[c]⟩] w fun e w' => e = .returned (.int .i64 (Lib.indexByte s.data.toList c)) ∧ w' = w) :
    PureOk P gl B f indexOneA := by
  intro avs v hv K J base st w args hS hG hR
  unfold indexOneA at hv
  split at hv
  · rename_i s c
    cases hv
    simp only [Reps, Rep] at hR
    obtain ⟨y, ys, e1, ⟨ba, rfl, hba⟩, y2, ys2, e2, ⟨bc, rfl, hbc⟩, rfl⟩ := hR
    subst e2
    obtain rfl : args = #[.string ba, .string bc] := by apply Array.toList_inj.1; simpa using e1
    obtain rfl : bc = ⟨#[c]⟩ := by
      cases bc with
      | mk d => simp only at hbc; congr 1; apply Array.toList_inj.1; simpa using hbc
    refine ⟨he _ _, (C ba c w).mono fun e w' ⟨h1, h2⟩ => ⟨_, h1, ?_, h2 ▸ Kept.refl w⟩⟩
    simp only [Rep]; rw [hba]
  · cases hv


def indexByteA : List AV → Option AV
  | [.str s, .int .u8 c] => if 0 ≤ c ∧ c < 256 then some (.int .i64 (Lib.indexByte s (UInt8.ofNat c.toNat))) else none
  | _ => none
theorem indexByte_ok {P : Program} {gl : List (Nat × AV)} {B : World → Prop} {f : FuncId} (he : ∀ args w, (callFunc f args).run P w = .ok (.enter f args) w)
    (C : ∀ (s : ByteArray) (c : Int) (w : World), Calls P f #[.string s, .int .u8 c] w fun e w' => e = .returned (.int .i64 (Lib.indexByte s.data.toList c.toNat.toUInt8)) ∧ w' = w) :
    PureOk P gl B f indexByteA := by
  intro avs v hv K J base st w args hS hG hR
  unfold indexByteA at hv
  split at hv
  · rename_i s c
    split at hv
    · cases hv
      simp only [Reps, Rep] at hR
      obtain ⟨y, ys, e1, ⟨ba, rfl, hba⟩, y2, ys2, e2, rfl, rfl⟩ := hR
      subst e2
      obtain rfl : args = #[.string ba, .int .u8 c] := by apply Array.toList_inj.1; simpa using e1
      refine ⟨he _ _, (C ba c w).mono fun e w' ⟨h1, h2⟩ => ⟨_, h1, ?_, h2 ▸ Kept.refl w⟩⟩
      simp only [Rep]; rw [hba]
    · cases hv
  · cases hv
def countA : List AV → Option AV
  | [.str s, .str [c]] => some (.int .i64 (Lib.countByte s c))
  | _ => none
theorem count_ok {P : Program} {gl : List (Nat × AV)} {B : World → Prop} {f : FuncId} (he : ∀ args w, (callFunc f args).run P w = .ok (.enter f args) w)
    (C : ∀ (s : ByteArray) (c : UInt8) (w : World), Calls P f #[.string s, .string ⟨#[c]⟩] w fun e w' => e = .returned (.int .i64 (Lib.countByte s.data.toList c)) ∧ w' = w) :
    PureOk P gl B f countA := by
  intro avs v hv K J base st w args hS hG hR
  unfold countA at hv
  split at hv
  · rename_i s c
    cases hv
    simp only [Reps, Rep] at hR
    obtain ⟨y, ys, e1, ⟨ba, rfl, hba⟩, y2, ys2, e2, ⟨bc, rfl, hbc⟩, rfl⟩ := hR
    subst e2
    obtain rfl : args = #[.string ba, .string bc] := by apply Array.toList_inj.1; simpa using e1
    obtain rfl : bc = ⟨#[c]⟩ := by
      cases bc with
      | mk d => simp only at hbc; congr 1; apply Array.toList_inj.1; simpa using hbc
    refine ⟨he _ _, (C ba c w).mono fun e w' ⟨h1, h2⟩ => ⟨_, h1, ?_, h2 ▸ Kept.refl w⟩⟩
    simp only [Rep]; rw [hba]
  · cases hv

theorem enters22 : ∀ args w, (callFunc 22 args).run Tryd.prog w = .ok (.enter 22 args) w := enters_of Tryd.func22 (by kernel_rfl) rfl
theorem enters33 : ∀ args w, (callFunc 33 args).run Tryd.prog w = .ok (.enter 33 args) w := enters_of Tryd.func33 (by kernel_rfl) rfl
theorem enters48 : ∀ args w, (callFunc 48 args).run Tryd.prog w = .ok (.enter 48 args) w := enters_of Tryd.func48 (by kernel_rfl) rfl
theorem enters55 : ∀ args w, (callFunc 55 args).run Tryd.prog w = .ok (.enter 55 args) w := enters_of Tryd.func55 (by kernel_rfl) rfl
theorem enters19 : ∀ args w, (callFunc 19 args).run Tryd.prog w = .ok (.enter 19 args) w := enters_of Tryd.func19 (by kernel_rfl) rfl
theorem join22 {gl : List (Nat × AV)} {B : World → Prop} : PureOk Tryd.prog gl B 22 joinA :=
  join_ok enters22 (fun a c sep w => Any.strings_Join_none (P := Tryd.prog) (ρ := Tryd.lays156_ren) Tryd.lays156 Tryd.bx156 a c sep w)
    (fun bk o c xs sep w h1 h2 h3 h4 h5 => Any.strings_Join (P := Tryd.prog) (ρ := Tryd.lays156_ren) Tryd.lays156 Tryd.bx156 bk o c xs sep w h1 h2 h3 h4 h5)
theorem index48 {gl : List (Nat × AV)} {B : World → Prop} : PureOk Tryd.prog gl B 48 indexOneA :=
  index_ok enters48 (fun s c w => Any.stringslite_Index_one (P := Tryd.prog) (ρ := Tryd.lays219_ren) Tryd.lays219 s c w)
theorem indexByte55 {gl : List (Nat × AV)} {B : World → Prop} : PureOk Tryd.prog gl B 55 indexByteA :=
  indexByte_ok enters55 (fun s c w => Any.strings_IndexByte (P := Tryd.prog) (ρ := Tryd.lays137_ren) Tryd.lays137 s c w)
theorem count19 {gl : List (Nat × AV)} {B : World → Prop} : PureOk Tryd.prog gl B 19 countA :=
  count_ok enters19 (fun s c w => Any.strings_Count_one (P := Tryd.prog) (ρ := Tryd.lays138_ren) Tryd.lays138 s c w)
theorem fields33 (s : ByteArray) (w : World) (h1 : s.size < 4294967281) (h2 : ∀ (j : Nat) b, s.data.toList[j]? = some b → b.toNat < 128) (h3 : Lib.TabIs Tryd.prog w "strings.asciiSpace" .u8 Lib.asciiSpaceTab) :
    Calls Tryd.prog 33 #[.string s] w fun e w' => e = .returned (.slice (some ⟨w.heap.size, 0, none⟩) (Lib.fields s.data.toList).length (Lib.fields s.data.toList).length) ∧ w' = w.alloc (.cells ((Lib.fields s.data.toList).map fun l => Value.string ⟨l.toArray⟩).toArray 9) :=
  Any.strings_Fields (P := Tryd.prog) (ρ := Tryd.lays157_ren) Tryd.lays157 (by kernel_rfl) (by kernel_rfl) s w h1 h2 h3
end Go.Proofs.YtjgbbdmpddddhaaDoor

namespace Go.Proofs.YtjgbbdmpddddhaaDoor
open Go Ai

def a2 : AFunc := ⟨1, [],
 (.reg [⟨(some 0), .call (.k (.func (.func 1) [] [])) [], none⟩]),
 [], false⟩

def a3 : AFunc := ⟨27, [.tmp 2],
 (.seq (.reg [⟨(some 2), .mov (.k (.bool false)), none⟩])
 (.seq (.seq (.reg [⟨(some 7), .call (.k (.func (.func 8) [] [])) [], none⟩,
 ⟨(some 8), .un .not (.t 7), none⟩])
 (.cond (.t 8) (.seq (.reg [⟨(some 2), .mov (.k (.bool false)), none⟩])
 .ret)
 .skip))
 (.seq (.reg [⟨(some 10), .mov (.t 0), none⟩,
 ⟨(some 11), .call (.k (.func (.func 9) [] [])) [(.t 10)], none⟩,
 ⟨(some 9), .mov (.t 11), none⟩,
 ⟨(some 12), .extract (.t 9) 0, none⟩,
 ⟨(some 13), .extract (.t 9) 1, none⟩,
 ⟨(some 4), .new (.agg [(.int .i64 0), (.int .i64 0)]) true none, none⟩,
 ⟨(some 3), .mov (.t 12), none⟩,
 ⟨none, .store 2 (.t 4) (.t 13), none⟩])
 (.seq (.reg [⟨(some 15), .mov (.t 0), none⟩,
 ⟨(some 16), .call (.k (.func (.func 10) [] [])) [(.t 15)], none⟩,
 ⟨(some 14), .mov (.t 16), none⟩,
 ⟨(some 17), .extract (.t 14) 0, none⟩,
 ⟨(some 18), .extract (.t 14) 1, none⟩,
 ⟨(some 6), .new (.agg [(.int .i64 0), (.int .i64 0)]) true none, none⟩,
 ⟨(some 5), .mov (.t 17), none⟩,
 ⟨none, .store 2 (.t 6) (.t 18), none⟩])
 (.seq (.reg [⟨(some 19), .load 2 true (.t 4), none⟩,
 ⟨(some 20), .load 2 true (.t 6), none⟩,
 ⟨(some 21), .eqAgg [0, 0] false (.t 19) (.t 20), none⟩,
 ⟨(some 22), .mov (.t 21), none⟩,
 ⟨(some 23), .mov (.t 3), some (22, true)⟩,
 ⟨(some 24), .mov (.t 5), some (22, true)⟩,
 ⟨(some 25), .call (.k (.func (.func 11) [] [])) [(.t 23), (.t 24)], some (22, true)⟩,
 ⟨(some 26), .pick (.t 22) (.t 25) (.k (.bool false)), none⟩,
 ⟨(some 2), .mov (.t 26), none⟩])
 .ret))))),
 [], false⟩

def a4_0 : ACode := (.seq (.seq (.reg [⟨(some 68), .mov (.t 11), none⟩,
 ⟨(some 69), .mov (.t 9), none⟩,
 ⟨(some 70), .lenSl (.t 69), none⟩,
 ⟨(some 71), .bin .lss (.t 68) (.t 70), none⟩])
 (.cond (.t 71) .skip
 (.exit 0)))
 (.seq (.block 1 (.seq (.seq (.reg [⟨(some 74), .mov (.t 11), none⟩,
 ⟨(some 75), .mov (.t 5), none⟩,
 ⟨(some 76), .lenSl (.t 75), none⟩,
 ⟨(some 77), .bin .sub (.t 76) (.k (.int .i64 1)), none⟩,
 ⟨(some 78), .bin .lss (.t 74) (.t 77), none⟩])
 (.cond (.t 78) (.seq (.seq (.plan [⟨0, ⟨(some 79), .mov (.t 9), none⟩, []⟩,
 ⟨1, ⟨(some 80), .mov (.t 11), none⟩, []⟩,
 ⟨2, ⟨(some 81), .indexAddr 4 true none (.t 79) (.t 80), none⟩, []⟩,
 ⟨3, ⟨(some 82), .load 4 true (.t 81), none⟩, []⟩,
 ⟨4, ⟨(some 83), .mov (.t 5), none⟩, []⟩,
 ⟨5, ⟨(some 84), .mov (.t 11), none⟩, []⟩,
 ⟨6, ⟨(some 85), .indexAddr 4 true none (.t 83) (.t 84), none⟩, []⟩,
 ⟨7, ⟨(some 86), .load 4 true (.t 85), none⟩, []⟩,
 ⟨8, ⟨(some 87), .eqAgg [0, 1, 0, 0] true (.t 82) (.t 86), none⟩, []⟩])
 (.cond (.t 87) (.seq (.reg [⟨(some 4), .mov (.k (.bool false)), none⟩])
 .ret)
 .skip))
 (.exit 1))
 .skip))
 (.seq (.reg [⟨(some 88), .mov (.t 7), none⟩,
 ⟨(some 89), .mov (.t 11), none⟩,
 ⟨(some 90), .mov (.t 5), none⟩,
 ⟨(some 91), .lenSl (.t 90), none⟩,
 ⟨(some 92), .bin .sub (.t 89) (.t 91), none⟩,
 ⟨(some 93), .bin .add (.t 92) (.k (.int .i64 1)), none⟩,
 ⟨(some 94), .indexAddr 4 true none (.t 88) (.t 93), none⟩,
 ⟨(some 95), .load 4 true (.t 94), none⟩,
 ⟨(some 12), .new (.agg [(.int .i64 0), (.str []), (.int .i64 0), (.int .i64 0)]) true none, none⟩,
 ⟨none, .store 4 (.t 12) (.t 95), none⟩])
 (.seq (.reg [⟨(some 96), .fieldAddr 3 1 false (.t 12), none⟩,
 ⟨(some 97), .load 1 false (.t 96), none⟩,
 ⟨(some 98), .mov (.t 0), none⟩,
 ⟨(some 99), .lenStr (.t 98), none⟩,
 ⟨(some 100), .bin .add (.t 97) (.t 99), none⟩,
 ⟨(some 101), .bin .add (.t 100) (.k (.int .i64 1)), none⟩,
 ⟨(some 102), .fieldAddr 3 1 false (.t 12), none⟩,
 ⟨none, .store 1 (.t 102) (.t 101), none⟩])
 (.seq (.plan [⟨0, ⟨(some 103), .mov (.t 9), none⟩, []⟩,
 ⟨1, ⟨(some 104), .mov (.t 11), none⟩, []⟩,
 ⟨2, ⟨(some 105), .indexAddr 4 true none (.t 103) (.t 104), none⟩, []⟩,
 ⟨3, ⟨(some 106), .load 4 true (.t 105), none⟩, []⟩,
 ⟨4, ⟨(some 107), .load 4 true (.t 12), none⟩, []⟩,
 ⟨5, ⟨(some 108), .eqAgg [0, 1, 0, 0] true (.t 106) (.t 107), none⟩, []⟩])
 (.cond (.t 108) (.seq (.reg [⟨(some 4), .mov (.k (.bool false)), none⟩])
 .ret)
 .skip))))))
 (.reg [⟨(some 72), .mov (.t 11), none⟩,
 ⟨(some 73), .bin .add (.t 72) (.k (.int .i64 1)), none⟩,
 ⟨(some 11), .mov (.t 73), none⟩])))

def a4 : AFunc := ⟨109, [.tmp 4],
 (.seq (.reg [⟨(some 4), .mov (.k (.bool false)), none⟩])
 (.seq (.seq (.reg [⟨(some 13), .call (.k (.func (.func 8) [] [])) [], none⟩,
 ⟨(some 14), .un .not (.t 13), none⟩])
 (.cond (.t 14) (.seq (.reg [⟨(some 4), .mov (.k (.bool false)), none⟩])
 .ret)
 .skip))
 (.seq (.seq (.reg [⟨(some 15), .mov (.t 0), none⟩,
 ⟨(some 16), .lenStr (.t 15), none⟩,
 ⟨(some 17), .bin .gtr (.t 16) (.k (.int .i64 3000)), none⟩,
 ⟨(some 18), .mov (.t 17), none⟩,
 ⟨(some 19), .mov (.t 1), some (18, false)⟩,
 ⟨(some 20), .lenStr (.t 19), some (18, false)⟩,
 ⟨(some 21), .bin .gtr (.t 20) (.k (.int .i64 3000)), some (18, false)⟩,
 ⟨(some 22), .pick (.t 18) (.k (.bool true)) (.t 21), none⟩])
 (.cond (.t 22) (.seq (.reg [⟨(some 4), .mov (.k (.bool true)), none⟩])
 .ret)
 .skip))
 (.seq (.reg [⟨(some 24), .mov (.t 0), none⟩,
 ⟨(some 25), .call (.k (.func (.func 9) [] [])) [(.t 24)], none⟩,
 ⟨(some 23), .mov (.t 25), none⟩,
 ⟨(some 26), .extract (.t 23) 0, none⟩,
 ⟨(some 27), .extract (.t 23) 1, none⟩,
 ⟨(some 6), .new (.agg [(.int .i64 0), (.int .i64 0)]) true none, none⟩,
 ⟨(some 5), .mov (.t 26), none⟩,
 ⟨none, .store 2 (.t 6) (.t 27), none⟩])
 (.seq (.reg [⟨(some 29), .mov (.t 1), none⟩,
 ⟨(some 30), .call (.k (.func (.func 9) [] [])) [(.t 29)], none⟩,
 ⟨(some 28), .mov (.t 30), none⟩,
 ⟨(some 31), .extract (.t 28) 0, none⟩,
 ⟨(some 32), .extract (.t 28) 1, none⟩,
 ⟨(some 8), .new (.agg [(.int .i64 0), (.int .i64 0)]) true none, none⟩,
 ⟨(some 7), .mov (.t 31), none⟩,
 ⟨none, .store 2 (.t 8) (.t 32), none⟩])
 (.seq (.seq (.reg [⟨(some 33), .fieldAddr 0 1 false (.t 6), none⟩,
 ⟨(some 34), .load 1 false (.t 33), none⟩,
 ⟨(some 35), .bin .neq (.t 34) (.k (.int .i64 0)), none⟩,
 ⟨(some 36), .mov (.t 35), none⟩,
 ⟨(some 37), .fieldAddr 0 1 false (.t 8), some (36, false)⟩,
 ⟨(some 38), .load 1 false (.t 37), some (36, false)⟩,
 ⟨(some 39), .bin .neq (.t 38) (.k (.int .i64 0)), some (36, false)⟩,
 ⟨(some 40), .pick (.t 36) (.k (.bool true)) (.t 39), none⟩])
 (.cond (.t 40) (.seq (.reg [⟨(some 4), .mov (.k (.bool true)), none⟩])
 .ret)
 .skip))
 (.seq (.reg [⟨(some 42), .mov (.t 0), none⟩,
 ⟨(some 43), .bin .add (.t 42) (.k (.str [10])), none⟩,
 ⟨(some 44), .mov (.t 1), none⟩,
 ⟨(some 45), .bin .add (.t 43) (.t 44), none⟩,
 ⟨(some 46), .call (.k (.func (.func 9) [] [])) [(.t 45)], none⟩,
 ⟨(some 41), .mov (.t 46), none⟩,
 ⟨(some 47), .extract (.t 41) 0, none⟩,
 ⟨(some 48), .extract (.t 41) 1, none⟩,
 ⟨(some 10), .new (.agg [(.int .i64 0), (.int .i64 0)]) true none, none⟩,
 ⟨(some 9), .mov (.t 47), none⟩,
 ⟨none, .store 2 (.t 10) (.t 48), none⟩])
 (.seq (.seq (.reg [⟨(some 49), .fieldAddr 0 1 false (.t 10), none⟩,
 ⟨(some 50), .load 1 false (.t 49), none⟩,
 ⟨(some 51), .bin .neq (.t 50) (.k (.int .i64 0)), none⟩,
 ⟨(some 52), .mov (.t 51), none⟩,
 ⟨(some 53), .mov (.t 5), some (52, false)⟩,
 ⟨(some 54), .lenSl (.t 53), some (52, false)⟩,
 ⟨(some 55), .bin .lss (.t 54) (.k (.int .i64 1)), some (52, false)⟩,
 ⟨(some 56), .pick (.t 52) (.k (.bool true)) (.t 55), none⟩,
 ⟨(some 57), .mov (.t 56), none⟩,
 ⟨(some 58), .mov (.t 9), some (57, false)⟩,
 ⟨(some 59), .lenSl (.t 58), some (57, false)⟩,
 ⟨(some 60), .mov (.t 5), some (57, false)⟩,
 ⟨(some 61), .lenSl (.t 60), some (57, false)⟩,
 ⟨(some 62), .mov (.t 7), some (57, false)⟩,
 ⟨(some 63), .lenSl (.t 62), some (57, false)⟩,
 ⟨(some 64), .bin .add (.t 61) (.t 63), some (57, false)⟩,
 ⟨(some 65), .bin .sub (.t 64) (.k (.int .i64 1)), some (57, false)⟩,
 ⟨(some 66), .bin .neq (.t 59) (.t 65), some (57, false)⟩,
 ⟨(some 67), .pick (.t 57) (.k (.bool true)) (.t 66), none⟩])
 (.cond (.t 67) (.seq (.reg [⟨(some 4), .mov (.k (.bool false)), none⟩])
 .ret)
 .skip))
 (.seq (.seq (.reg [⟨(some 11), .mov (.k (.int .i64 0)), none⟩])
 (.block 0 (.loop a4_0)))
 (.seq (.reg [⟨(some 4), .mov (.k (.bool true)), none⟩])
 .ret)))))))))),
 [], false⟩

def a5 : AFunc := ⟨46, [.tmp 2],
 (.seq (.reg [⟨(some 2), .mov (.k (.bool false)), none⟩])
 (.seq (.seq (.reg [⟨(some 7), .call (.k (.func (.func 8) [] [])) [], none⟩,
 ⟨(some 8), .un .not (.t 7), none⟩])
 (.cond (.t 8) (.seq (.reg [⟨(some 2), .mov (.k (.bool false)), none⟩])
 .ret)
 .skip))
 (.seq (.seq (.reg [⟨(some 9), .mov (.t 0), none⟩,
 ⟨(some 10), .lenStr (.t 9), none⟩,
 ⟨(some 11), .bin .gtr (.t 10) (.k (.int .i64 3000)), none⟩])
 (.cond (.t 11) (.seq (.reg [⟨(some 2), .mov (.k (.bool true)), none⟩])
 .ret)
 .skip))
 (.seq (.reg [⟨(some 13), .mov (.t 0), none⟩,
 ⟨(some 14), .call (.k (.func (.func 9) [] [])) [(.t 13)], none⟩,
 ⟨(some 12), .mov (.t 14), none⟩,
 ⟨(some 15), .extract (.t 12) 0, none⟩,
 ⟨(some 16), .extract (.t 12) 1, none⟩,
 ⟨(some 4), .new (.agg [(.int .i64 0), (.int .i64 0)]) true none, none⟩,
 ⟨(some 3), .mov (.t 15), none⟩,
 ⟨none, .store 2 (.t 4) (.t 16), none⟩])
 (.seq (.seq (.reg [⟨(some 17), .fieldAddr 0 1 false (.t 4), none⟩,
 ⟨(some 18), .load 1 false (.t 17), none⟩,
 ⟨(some 19), .bin .neq (.t 18) (.k (.int .i64 1)), none⟩])
 (.cond (.t 19) (.seq (.reg [⟨(some 20), .fieldAddr 0 1 false (.t 4), none⟩,
 ⟨(some 21), .load 1 false (.t 20), none⟩,
 ⟨(some 22), .bin .eql (.t 21) (.k (.int .i64 0)), none⟩,
 ⟨(some 2), .mov (.t 22), none⟩])
 .ret)
 .skip))
 (.seq (.reg [⟨(some 24), .mov (.t 0), none⟩,
 ⟨(some 25), .fieldAddr 1 1 false (.t 4), none⟩,
 ⟨(some 26), .load 1 false (.t 25), none⟩,
 ⟨(some 27), .sliceStr (.t 24) none (some (.t 26)), none⟩,
 ⟨(some 28), .call (.k (.func (.func 9) [] [])) [(.t 27)], none⟩,
 ⟨(some 23), .mov (.t 28), none⟩,
 ⟨(some 29), .extract (.t 23) 0, none⟩,
 ⟨(some 30), .extract (.t 23) 1, none⟩,
 ⟨(some 6), .new (.agg [(.int .i64 0), (.int .i64 0)]) true none, none⟩,
 ⟨(some 5), .mov (.t 29), none⟩,
 ⟨none, .store 2 (.t 6) (.t 30), none⟩])
 (.seq (.reg [⟨(some 31), .fieldAddr 0 1 false (.t 6), none⟩,
 ⟨(some 32), .load 1 false (.t 31), none⟩,
 ⟨(some 33), .bin .eql (.t 32) (.k (.int .i64 0)), none⟩,
 ⟨(some 34), .mov (.t 33), none⟩,
 ⟨(some 35), .mov (.t 5), some (34, true)⟩,
 ⟨(some 36), .lenSl (.t 35), some (34, true)⟩,
 ⟨(some 37), .bin .gtr (.t 36) (.k (.int .i64 0)), some (34, true)⟩,
 ⟨(some 38), .pick (.t 34) (.t 37) (.k (.bool false)), none⟩,
 ⟨(some 39), .mov (.t 38), none⟩,
 ⟨(some 40), .fieldAddr 1 1 false (.t 4), some (39, true)⟩,
 ⟨(some 41), .load 1 false (.t 40), some (39, true)⟩,
 ⟨(some 42), .mov (.t 0), some (39, true)⟩,
 ⟨(some 43), .lenStr (.t 42), some (39, true)⟩,
 ⟨(some 44), .bin .lss (.t 41) (.t 43), some (39, true)⟩,
 ⟨(some 45), .pick (.t 39) (.t 44) (.k (.bool false)), none⟩,
 ⟨(some 2), .mov (.t 45), none⟩])
 .ret))))))),
 [], false⟩

def a6_0 : ACode := (.seq (.seq (.reg [⟨(some 25), .mov (.t 8), none⟩,
 ⟨(some 26), .mov (.t 5), none⟩,
 ⟨(some 27), .bin .lss (.t 25) (.t 26), none⟩])
 (.cond (.t 27) .skip
 (.exit 0)))
 (.seq (.block 1 (.seq (.reg [⟨(some 30), .mov (.t 7), none⟩,
 ⟨(some 31), .bin .add (.t 30) (.k (.int .i64 1)), none⟩,
 ⟨(some 7), .mov (.t 31), none⟩])
 (.seq (.reg [⟨(some 32), .mov (.t 0), none⟩,
 ⟨(some 33), .mov (.t 8), none⟩,
 ⟨(some 34), .indexStr (.t 32) (.t 33), none⟩,
 ⟨(some 35), .bin .eql (.t 34) (.k (.int .u8 10)), none⟩])
 (.cond (.t 35) (.seq (.reg [⟨(some 36), .mov (.t 6), none⟩,
 ⟨(some 37), .bin .add (.t 36) (.k (.int .i64 1)), none⟩,
 ⟨(some 6), .mov (.t 37), none⟩])
 (.reg [⟨(some 7), .mov (.k (.int .i64 1)), none⟩]))
 .skip))))
 (.reg [⟨(some 28), .mov (.t 8), none⟩,
 ⟨(some 29), .bin .add (.t 28) (.k (.int .i64 1)), none⟩,
 ⟨(some 8), .mov (.t 29), none⟩])))

def a6 : AFunc := ⟨59, [.tmp 4],
 (.seq (.reg [⟨(some 4), .mov (.k (.bool false)), none⟩])
 (.seq (.seq (.reg [⟨(some 11), .call (.k (.func (.func 8) [] [])) [], none⟩,
 ⟨(some 12), .un .not (.t 11), none⟩])
 (.cond (.t 12) (.seq (.reg [⟨(some 4), .mov (.k (.bool false)), none⟩])
 .ret)
 .skip))
 (.seq (.seq (.reg [⟨(some 13), .mov (.t 0), none⟩,
 ⟨(some 14), .lenStr (.t 13), none⟩,
 ⟨(some 15), .bin .gtr (.t 14) (.k (.int .i64 30000)), none⟩])
 (.cond (.t 15) (.seq (.reg [⟨(some 4), .mov (.k (.bool true)), none⟩])
 .ret)
 .skip))
 (.seq (.reg [⟨(some 16), .mov (.t 1), none⟩,
 ⟨(some 5), .mov (.t 16), none⟩])
 (.seq (.seq (.reg [⟨(some 17), .mov (.t 5), none⟩,
 ⟨(some 18), .bin .lss (.t 17) (.k (.int .i64 0)), none⟩])
 (.cond (.t 18) (.reg [⟨(some 5), .mov (.k (.int .i64 0)), none⟩])
 .skip))
 (.seq (.seq (.reg [⟨(some 19), .mov (.t 5), none⟩,
 ⟨(some 20), .mov (.t 0), none⟩,
 ⟨(some 21), .lenStr (.t 20), none⟩,
 ⟨(some 22), .bin .gtr (.t 19) (.t 21), none⟩])
 (.cond (.t 22) (.reg [⟨(some 23), .mov (.t 0), none⟩,
 ⟨(some 24), .lenStr (.t 23), none⟩,
 ⟨(some 5), .mov (.t 24), none⟩])
 .skip))
 (.seq (.reg [⟨(some 6), .mov (.k (.int .i64 1)), none⟩,
 ⟨(some 7), .mov (.k (.int .i64 1)), none⟩])
 (.seq (.seq (.reg [⟨(some 8), .mov (.k (.int .i64 0)), none⟩])
 (.block 0 (.loop a6_0)))
 (.seq (.reg [⟨(some 39), .mov (.t 0), none⟩,
 ⟨(some 40), .mov (.t 1), none⟩,
 ⟨(some 41), .call (.k (.func (.func 12) [] [])) [(.t 39), (.t 40)], none⟩,
 ⟨(some 38), .mov (.t 41), none⟩,
 ⟨(some 42), .extract (.t 38) 0, none⟩,
 ⟨(some 43), .extract (.t 38) 1, none⟩,
 ⟨(some 9), .mov (.t 42), none⟩,
 ⟨(some 10), .mov (.t 43), none⟩])
 (.seq (.reg [⟨(some 44), .mov (.t 9), none⟩,
 ⟨(some 45), .mov (.t 6), none⟩,
 ⟨(some 46), .bin .eql (.t 44) (.t 45), none⟩,
 ⟨(some 47), .mov (.t 46), none⟩,
 ⟨(some 48), .mov (.t 10), some (47, true)⟩,
 ⟨(some 49), .mov (.t 7), some (47, true)⟩,
 ⟨(some 50), .bin .eql (.t 48) (.t 49), some (47, true)⟩,
 ⟨(some 51), .pick (.t 47) (.t 50) (.k (.bool false)), none⟩,
 ⟨(some 52), .mov (.t 51), none⟩,
 ⟨(some 53), .mov (.t 0), some (52, true)⟩,
 ⟨(some 54), .call (.k (.func (.func 13) [] [])) [(.t 53)], some (52, true)⟩,
 ⟨(some 55), .mov (.t 0), some (52, true)⟩,
 ⟨(some 56), .call (.k (.func (.func 14) [] [])) [(.t 55)], some (52, true)⟩,
 ⟨(some 57), .eqBool false (.t 54) (.t 56), some (52, true)⟩,
 ⟨(some 58), .pick (.t 52) (.t 57) (.k (.bool false)), none⟩,
 ⟨(some 4), .mov (.t 58), none⟩])
 .ret)))))))))),
 [], false⟩

def a7_0 : ACode := (.seq (.seq (.reg [⟨(some 40), .mov (.t 9), none⟩,
 ⟨(some 41), .mov (.t 3), none⟩,
 ⟨(some 42), .lenSl (.t 41), none⟩,
 ⟨(some 43), .bin .lss (.t 40) (.t 42), none⟩])
 (.cond (.t 43) .skip
 (.exit 0)))
 (.seq (.block 1 (.seq (.seq (.plan [⟨0, ⟨(some 46), .mov (.t 3), none⟩, []⟩,
 ⟨1, ⟨(some 47), .mov (.t 9), none⟩, []⟩,
 ⟨2, ⟨(some 48), .indexAddr 4 true none (.t 46) (.t 47), none⟩, []⟩,
 ⟨3, ⟨(some 49), .fieldAddr 0 1 false (.t 48), none⟩, []⟩,
 ⟨4, ⟨(some 50), .load 1 false (.t 49), none⟩, []⟩,
 ⟨5, ⟨(some 51), .mov (.t 6), none⟩, []⟩,
 ⟨6, ⟨(some 52), .mov (.t 9), none⟩, []⟩,
 ⟨7, ⟨(some 53), .indexAddr 4 true none (.t 51) (.t 52), none⟩, []⟩,
 ⟨8, ⟨(some 54), .fieldAddr 0 1 false (.t 53), none⟩, []⟩,
 ⟨9, ⟨(some 55), .load 1 false (.t 54), none⟩, []⟩,
 ⟨10, ⟨(some 56), .bin .neq (.t 50) (.t 55), none⟩, []⟩,
 ⟨11, ⟨(some 57), .mov (.t 56), none⟩, []⟩,
 ⟨12, ⟨(some 58), .mov (.t 3), some (57, false)⟩, []⟩,
 ⟨13, ⟨(some 59), .mov (.t 9), some (57, false)⟩, []⟩,
 ⟨14, ⟨(some 60), .indexAddr 4 true none (.t 58) (.t 59), some (57, false)⟩, []⟩,
 ⟨15, ⟨(some 61), .fieldAddr 1 1 false (.t 60), some (57, false)⟩, []⟩,
 ⟨16, ⟨(some 62), .load 1 false (.t 61), some (57, false)⟩, []⟩,
 ⟨17, ⟨(some 63), .mov (.t 6), some (57, false)⟩, []⟩,
 ⟨18, ⟨(some 64), .mov (.t 9), some (57, false)⟩, []⟩,
 ⟨19, ⟨(some 65), .indexAddr 4 true none (.t 63) (.t 64), some (57, false)⟩, []⟩,
 ⟨20, ⟨(some 66), .fieldAddr 1 1 false (.t 65), some (57, false)⟩, []⟩,
 ⟨21, ⟨(some 67), .load 1 false (.t 66), some (57, false)⟩, []⟩,
 ⟨22, ⟨(some 68), .bin .neq (.t 62) (.t 67), some (57, false)⟩, []⟩,
 ⟨23, ⟨(some 69), .pick (.t 57) (.k (.bool true)) (.t 68), none⟩, []⟩,
 ⟨24, ⟨(some 70), .mov (.t 69), none⟩, []⟩,
 ⟨25, ⟨(some 71), .mov (.t 3), some (70, false)⟩, []⟩,
 ⟨26, ⟨(some 72), .mov (.t 9), some (70, false)⟩, []⟩,
 ⟨27, ⟨(some 73), .indexAddr 4 true none (.t 71) (.t 72), some (70, false)⟩, []⟩,
 ⟨28, ⟨(some 74), .fieldAddr 2 1 false (.t 73), some (70, false)⟩, []⟩,
 ⟨29, ⟨(some 75), .load 1 false (.t 74), some (70, false)⟩, []⟩,
 ⟨30, ⟨(some 76), .mov (.t 6), some (70, false)⟩, []⟩,
 ⟨31, ⟨(some 77), .mov (.t 9), some (70, false)⟩, []⟩,
 ⟨32, ⟨(some 78), .indexAddr 4 true none (.t 76) (.t 77), some (70, false)⟩, []⟩,
 ⟨33, ⟨(some 79), .fieldAddr 2 1 false (.t 78), some (70, false)⟩, []⟩,
 ⟨34, ⟨(some 80), .load 1 false (.t 79), some (70, false)⟩, []⟩,
 ⟨35, ⟨(some 81), .bin .neq (.t 75) (.t 80), some (70, false)⟩, []⟩,
 ⟨36, ⟨(some 82), .pick (.t 70) (.k (.bool true)) (.t 81), none⟩, []⟩,
 ⟨37, ⟨(some 83), .mov (.t 82), none⟩, []⟩,
 ⟨38, ⟨(some 84), .mov (.t 6), some (83, false)⟩, []⟩,
 ⟨39, ⟨(some 85), .mov (.t 9), some (83, false)⟩, []⟩,
 ⟨40, ⟨(some 86), .indexAddr 4 true none (.t 84) (.t 85), some (83, false)⟩, []⟩,
 ⟨41, ⟨(some 87), .fieldAddr 3 1 false (.t 86), some (83, false)⟩, []⟩,
 ⟨42, ⟨(some 88), .load 1 false (.t 87), some (83, false)⟩, []⟩,
 ⟨43, ⟨(some 89), .mov (.t 8), some (83, false)⟩, []⟩,
 ⟨44, ⟨(some 90), .bin .neq (.t 88) (.t 89), some (83, false)⟩, []⟩,
 ⟨45, ⟨(some 91), .mov (.t 90), some (83, false)⟩, []⟩,
 ⟨46, ⟨(some 92), .mov (.t 3), some (91, true)⟩, []⟩,
 ⟨47, ⟨(some 93), .mov (.t 9), some (91, true)⟩, []⟩,
 ⟨48, ⟨(some 94), .indexAddr 4 true none (.t 92) (.t 93), some (91, true)⟩, []⟩,
 ⟨49, ⟨(some 95), .fieldAddr 0 1 false (.t 94), some (91, true)⟩, []⟩,
 ⟨50, ⟨(some 96), .load 1 false (.t 95), some (91, true)⟩, []⟩,
 ⟨51, ⟨(some 97), .bin .neq (.t 96) (.k (.int .i64 5)), some (91, true)⟩, []⟩,
 ⟨52, ⟨(some 98), .pick (.t 91) (.t 97) (.k (.bool false)), some (83, false)⟩, []⟩,
 ⟨53, ⟨(some 99), .pick (.t 83) (.k (.bool true)) (.t 98), none⟩, []⟩])
 (.cond (.t 99) (.seq (.reg [⟨(some 2), .mov (.k (.bool false)), none⟩])
 .ret)
 .skip))
 (.reg [⟨(some 100), .mov (.t 8), none⟩,
 ⟨(some 101), .mov (.t 3), none⟩,
 ⟨(some 102), .mov (.t 9), none⟩,
 ⟨(some 103), .indexAddr 4 true none (.t 101) (.t 102), none⟩,
 ⟨(some 104), .fieldAddr 1 1 false (.t 103), none⟩,
 ⟨(some 105), .load 1 false (.t 104), none⟩,
 ⟨(some 106), .lenStr (.t 105), none⟩,
 ⟨(some 107), .bin .add (.t 100) (.t 106), none⟩,
 ⟨(some 108), .bin .add (.t 107) (.k (.int .i64 1)), none⟩,
 ⟨(some 8), .mov (.t 108), none⟩])))
 (.reg [⟨(some 44), .mov (.t 9), none⟩,
 ⟨(some 45), .bin .add (.t 44) (.k (.int .i64 1)), none⟩,
 ⟨(some 9), .mov (.t 45), none⟩])))

def a7 : AFunc := ⟨124, [.tmp 2],
 (.seq (.reg [⟨(some 2), .mov (.k (.bool false)), none⟩])
 (.seq (.seq (.reg [⟨(some 10), .call (.k (.func (.func 8) [] [])) [], none⟩,
 ⟨(some 11), .un .not (.t 10), none⟩])
 (.cond (.t 11) (.seq (.reg [⟨(some 2), .mov (.k (.bool false)), none⟩])
 .ret)
 .skip))
 (.seq (.seq (.reg [⟨(some 12), .mov (.t 0), none⟩,
 ⟨(some 13), .lenStr (.t 12), none⟩,
 ⟨(some 14), .bin .gtr (.t 13) (.k (.int .i64 5000)), none⟩])
 (.cond (.t 14) (.seq (.reg [⟨(some 2), .mov (.k (.bool true)), none⟩])
 .ret)
 .skip))
 (.seq (.reg [⟨(some 16), .mov (.t 0), none⟩,
 ⟨(some 17), .call (.k (.func (.func 9) [] [])) [(.t 16)], none⟩,
 ⟨(some 15), .mov (.t 17), none⟩,
 ⟨(some 18), .extract (.t 15) 0, none⟩,
 ⟨(some 19), .extract (.t 15) 1, none⟩,
 ⟨(some 4), .new (.agg [(.int .i64 0), (.int .i64 0)]) true none, none⟩,
 ⟨(some 3), .mov (.t 18), none⟩,
 ⟨none, .store 2 (.t 4) (.t 19), none⟩])
 (.seq (.seq (.reg [⟨(some 20), .fieldAddr 0 1 false (.t 4), none⟩,
 ⟨(some 21), .load 1 false (.t 20), none⟩,
 ⟨(some 22), .bin .neq (.t 21) (.k (.int .i64 0)), none⟩])
 (.cond (.t 22) (.seq (.reg [⟨(some 2), .mov (.k (.bool true)), none⟩])
 .ret)
 .skip))
 (.seq (.reg [⟨(some 23), .mov (.t 3), none⟩,
 ⟨(some 24), .call (.k (.func (.func 15) [] [])) [(.t 23)], none⟩,
 ⟨(some 5), .mov (.t 24), none⟩])
 (.seq (.reg [⟨(some 26), .mov (.t 5), none⟩,
 ⟨(some 27), .call (.k (.func (.func 9) [] [])) [(.t 26)], none⟩,
 ⟨(some 25), .mov (.t 27), none⟩,
 ⟨(some 28), .extract (.t 25) 0, none⟩,
 ⟨(some 29), .extract (.t 25) 1, none⟩,
 ⟨(some 7), .new (.agg [(.int .i64 0), (.int .i64 0)]) true none, none⟩,
 ⟨(some 6), .mov (.t 28), none⟩,
 ⟨none, .store 2 (.t 7) (.t 29), none⟩])
 (.seq (.seq (.reg [⟨(some 30), .fieldAddr 0 1 false (.t 7), none⟩,
 ⟨(some 31), .load 1 false (.t 30), none⟩,
 ⟨(some 32), .bin .neq (.t 31) (.k (.int .i64 0)), none⟩,
 ⟨(some 33), .mov (.t 32), none⟩,
 ⟨(some 34), .mov (.t 3), some (33, false)⟩,
 ⟨(some 35), .lenSl (.t 34), some (33, false)⟩,
 ⟨(some 36), .mov (.t 6), some (33, false)⟩,
 ⟨(some 37), .lenSl (.t 36), some (33, false)⟩,
 ⟨(some 38), .bin .neq (.t 35) (.t 37), some (33, false)⟩,
 ⟨(some 39), .pick (.t 33) (.k (.bool true)) (.t 38), none⟩])
 (.cond (.t 39) (.seq (.reg [⟨(some 2), .mov (.k (.bool false)), none⟩])
 .ret)
 .skip))
 (.seq (.reg [⟨(some 8), .mov (.k (.int .i64 0)), none⟩])
 (.seq (.seq (.reg [⟨(some 9), .mov (.k (.int .i64 0)), none⟩])
 (.block 0 (.loop a7_0)))
 (.seq (.reg [⟨(some 109), .mov (.t 6), none⟩,
 ⟨(some 110), .lenSl (.t 109), none⟩,
 ⟨(some 111), .bin .gtr (.t 110) (.k (.int .i64 0)), none⟩,
 ⟨(some 112), .mov (.t 111), none⟩,
 ⟨(some 113), .mov (.t 6), some (112, true)⟩,
 ⟨(some 114), .mov (.t 6), some (112, true)⟩,
 ⟨(some 115), .lenSl (.t 114), some (112, true)⟩,
 ⟨(some 116), .bin .sub (.t 115) (.k (.int .i64 1)), some (112, true)⟩,
 ⟨(some 117), .indexAddr 4 true none (.t 113) (.t 116), some (112, true)⟩,
 ⟨(some 118), .fieldAddr 3 1 false (.t 117), some (112, true)⟩,
 ⟨(some 119), .load 1 false (.t 118), some (112, true)⟩,
 ⟨(some 120), .mov (.t 5), some (112, true)⟩,
 ⟨(some 121), .lenStr (.t 120), some (112, true)⟩,
 ⟨(some 122), .bin .eql (.t 119) (.t 121), some (112, true)⟩,
 ⟨(some 123), .pick (.t 112) (.t 122) (.k (.bool false)), none⟩,
 ⟨(some 2), .mov (.t 123), none⟩])
 .ret))))))))))),
 [], false⟩

def a8 : AFunc := ⟨36, [.tmp 0],
 (.seq (.reg [⟨(some 0), .mov (.k (.bool false)), none⟩])
 (.seq (.reg [⟨(some 4), .call (.k (.func (.func 9) [] [])) [(.k (.str [120, 49, 32, 61, 32, 49, 46, 53, 59]))], none⟩,
 ⟨(some 3), .mov (.t 4), none⟩,
 ⟨(some 5), .extract (.t 3) 0, none⟩,
 ⟨(some 6), .extract (.t 3) 1, none⟩,
 ⟨(some 2), .new (.agg [(.int .i64 0), (.int .i64 0)]) true none, none⟩,
 ⟨(some 1), .mov (.t 5), none⟩,
 ⟨none, .store 2 (.t 2) (.t 6), none⟩])
 (.seq (.reg [⟨(some 7), .fieldAddr 0 1 false (.t 2), none⟩,
 ⟨(some 8), .load 1 false (.t 7), none⟩,
 ⟨(some 9), .bin .eql (.t 8) (.k (.int .i64 0)), none⟩,
 ⟨(some 10), .mov (.t 9), none⟩,
 ⟨(some 11), .mov (.t 1), some (10, true)⟩,
 ⟨(some 12), .lenSl (.t 11), some (10, true)⟩,
 ⟨(some 13), .bin .eql (.t 12) (.k (.int .i64 5)), some (10, true)⟩,
 ⟨(some 14), .pick (.t 10) (.t 13) (.k (.bool false)), none⟩,
 ⟨(some 15), .mov (.t 14), none⟩,
 ⟨(some 16), .mov (.t 1), some (15, true)⟩,
 ⟨(some 17), .indexAddr 4 true none (.t 16) (.k (.int .i64 0)), some (15, true)⟩,
 ⟨(some 18), .fieldAddr 1 1 false (.t 17), some (15, true)⟩,
 ⟨(some 19), .load 1 false (.t 18), some (15, true)⟩,
 ⟨(some 20), .bin .eql (.t 19) (.k (.str [120, 49])), some (15, true)⟩,
 ⟨(some 21), .pick (.t 15) (.t 20) (.k (.bool false)), none⟩,
 ⟨(some 22), .mov (.t 21), none⟩,
 ⟨(some 23), .mov (.t 1), some (22, true)⟩,
 ⟨(some 24), .indexAddr 4 true none (.t 23) (.k (.int .i64 2)), some (22, true)⟩,
 ⟨(some 25), .fieldAddr 2 1 false (.t 24), some (22, true)⟩,
 ⟨(some 26), .load 1 false (.t 25), some (22, true)⟩,
 ⟨(some 27), .bin .eql (.t 26) (.k (.int .i64 6442450944)), some (22, true)⟩,
 ⟨(some 28), .pick (.t 22) (.t 27) (.k (.bool false)), none⟩,
 ⟨(some 29), .mov (.t 28), none⟩,
 ⟨(some 30), .mov (.t 1), some (29, true)⟩,
 ⟨(some 31), .indexAddr 4 true none (.t 30) (.k (.int .i64 4)), some (29, true)⟩,
 ⟨(some 32), .fieldAddr 0 1 false (.t 31), some (29, true)⟩,
 ⟨(some 33), .load 1 false (.t 32), some (29, true)⟩,
 ⟨(some 34), .bin .eql (.t 33) (.k (.int .i64 5)), some (29, true)⟩,
 ⟨(some 35), .pick (.t 29) (.t 34) (.k (.bool false)), none⟩,
 ⟨(some 0), .mov (.t 35), none⟩])
 .ret))),
 [], false⟩

def a9 : AFunc := ⟨26, [.cell 2 1 false, .cell 3 2 true],
 (.seq (.reg [⟨(some 2), .new (.lst 1 [] .tight) true none, none⟩,
 ⟨(some 3), .new (.agg [(.int .i64 0), (.int .i64 0)]) true none, none⟩])
 (.seq (.seq (.reg [⟨(some 7), .mov (.t 0), none⟩,
 ⟨(some 8), .lenStr (.t 7), none⟩,
 ⟨(some 9), .bin .gtr (.t 8) (.k (.int .i64 20000)), none⟩])
 (.cond (.t 9) (.seq (.reg [⟨(some 10), .build [(.int .i64 0), (.int .i64 0)] [(0, 1, (.k (.int .i64 10)))], none⟩,
 ⟨none, .store 1 (.t 2) (.k (.lst 1 [] .tight)), none⟩,
 ⟨none, .store 2 (.t 3) (.t 10), none⟩])
 .ret)
 .skip))
 (.seq (.reg [⟨(some 4), .new (.lst 1 [] .tight) true none, none⟩])
 (.seq (.seq (.reg [⟨(some 11), .mov (.t 0), none⟩,
 ⟨(some 12), .call (.k (.func (.func 16) [] [])) [(.t 11)], none⟩])
 (.block 0 (.rangeFunc (.t 12) [13, 14] 0)))
 (.seq (.reg [⟨(some 24), .load 1 false (.t 4), none⟩,
 ⟨(some 25), .build [(.int .i64 0), (.int .i64 0)] [], none⟩,
 ⟨none, .store 1 (.t 2) (.t 24), none⟩,
 ⟨none, .store 2 (.t 3) (.t 25), none⟩])
 .ret))))),
 [((.seq (.reg [⟨(some 5), .new (.agg [(.int .i64 0), (.str []), (.int .i64 0), (.int .i64 0)]) true none, none⟩,
 ⟨none, .store 4 (.t 5) (.t 13), none⟩])
 (.reg [⟨(some 6), .mov (.t 14), none⟩])), (.block 1 (.seq (.seq (.reg [⟨(some 15), .mov (.t 6), none⟩,
 ⟨(some 16), .un .not (.t 15), none⟩])
 (.cond (.t 16) (.seq (.plan [⟨0, ⟨(some 17), .fieldAddr 3 1 false (.t 5), none⟩, []⟩,
 ⟨1, ⟨(some 18), .load 1 false (.t 17), none⟩, []⟩,
 ⟨2, ⟨(some 19), .build [(.int .i64 0), (.int .i64 0)] [(0, 1, (.k (.int .i64 1))), (1, 1, (.t 18))], none⟩, []⟩,
 ⟨3, ⟨none, .store 1 (.t 2) (.k (.lst 1 [] .tight)), none⟩, [1]⟩,
 ⟨4, ⟨none, .store 2 (.t 3) (.t 19), none⟩, []⟩])
 .ret)
 .skip))
 (.reg [⟨(some 20), .load 1 false (.t 4), none⟩,
 ⟨(some 21), .load 4 true (.t 5), none⟩,
 ⟨(some 22), .mkLit 4 [(.int .i64 0), (.str []), (.int .i64 0), (.int .i64 0)] [(0, 4, (.t 21))] false, none⟩,
 ⟨(some 23), .append 4 40 (some 32) (.t 20) (.t 22), none⟩,
 ⟨none, .store 1 (.t 4) (.t 23), none⟩]))))], false⟩

def a10_0 : ACode := (.seq (.seq (.reg [⟨(some 14), .mov (.t 5), none⟩,
 ⟨(some 15), .mov (.t 0), none⟩,
 ⟨(some 16), .lenStr (.t 15), none⟩,
 ⟨(some 17), .bin .lss (.t 14) (.t 16), none⟩])
 (.cond (.t 17) .skip
 (.exit 0)))
 (.block 1 (.seq (.reg [⟨(some 19), .mov (.t 0), none⟩,
 ⟨(some 20), .mov (.t 5), none⟩,
 ⟨(some 21), .call (.k (.func (.func 18) [] [])) [(.t 19), (.t 20)], none⟩,
 ⟨(some 18), .mov (.t 21), none⟩,
 ⟨(some 22), .extract (.t 18) 0, none⟩,
 ⟨(some 23), .extract (.t 18) 1, none⟩,
 ⟨(some 6), .new (.agg [(.int .i64 0), (.str []), (.int .i64 0), (.int .i64 0)]) true none, none⟩,
 ⟨none, .store 4 (.t 6) (.t 22), none⟩,
 ⟨(some 7), .mov (.t 23), none⟩])
 (.seq (.seq (.reg [⟨(some 24), .mov (.t 7), none⟩,
 ⟨(some 25), .un .not (.t 24), none⟩])
 (.cond (.t 25) (.seq (.reg [⟨(some 26), .mov (.t 5), none⟩,
 ⟨(some 27), .build [(.int .i64 0), (.int .i64 0)] [(0, 1, (.k (.int .i64 1))), (1, 1, (.t 26))], none⟩,
 ⟨(some 2), .mov (.k (.lst 1 [] .tight)), none⟩,
 ⟨none, .store 2 (.t 3) (.t 27), none⟩])
 .ret)
 .skip))
 (.seq (.reg [⟨(some 28), .mov (.t 4), none⟩,
 ⟨(some 29), .load 4 true (.t 6), none⟩,
 ⟨(some 30), .mkLit 4 [(.int .i64 0), (.str []), (.int .i64 0), (.int .i64 0)] [(0, 4, (.t 29))] false, none⟩,
 ⟨(some 31), .append 4 40 (some 32) (.t 28) (.t 30), none⟩,
 ⟨(some 4), .mov (.t 31), none⟩])
 (.reg [⟨(some 32), .mov (.t 0), none⟩,
 ⟨(some 33), .mov (.t 5), none⟩,
 ⟨(some 34), .fieldAddr 1 1 false (.t 6), none⟩,
 ⟨(some 35), .load 1 false (.t 34), none⟩,
 ⟨(some 36), .lenStr (.t 35), none⟩,
 ⟨(some 37), .bin .add (.t 33) (.t 36), none⟩,
 ⟨(some 38), .call (.k (.func (.func 17) [] [])) [(.t 32), (.t 37)], none⟩,
 ⟨(some 5), .mov (.t 38), none⟩]))))))

def a10 : AFunc := ⟨46, [.tmp 2, .cell 3 2 true],
 (.seq (.reg [⟨(some 2), .mov (.k (.lst 1 [] .tight)), none⟩,
 ⟨(some 3), .new (.agg [(.int .i64 0), (.int .i64 0)]) true none, none⟩])
 (.seq (.seq (.reg [⟨(some 8), .mov (.t 0), none⟩,
 ⟨(some 9), .lenStr (.t 8), none⟩,
 ⟨(some 10), .bin .gtr (.t 9) (.k (.int .i64 20000)), none⟩])
 (.cond (.t 10) (.seq (.reg [⟨(some 11), .build [(.int .i64 0), (.int .i64 0)] [(0, 1, (.k (.int .i64 10)))], none⟩,
 ⟨(some 2), .mov (.k (.lst 1 [] .tight)), none⟩,
 ⟨none, .store 2 (.t 3) (.t 11), none⟩])
 .ret)
 .skip))
 (.seq (.reg [⟨(some 4), .mov (.k (.lst 1 [] .tight)), none⟩])
 (.seq (.reg [⟨(some 12), .mov (.t 0), none⟩,
 ⟨(some 13), .call (.k (.func (.func 17) [] [])) [(.t 12), (.k (.int .i64 0))], none⟩,
 ⟨(some 5), .mov (.t 13), none⟩])
 (.seq (.block 0 (.loop a10_0))
 (.seq (.reg [⟨(some 39), .mov (.t 4), none⟩,
 ⟨(some 40), .mov (.t 0), none⟩,
 ⟨(some 41), .lenStr (.t 40), none⟩,
 ⟨(some 42), .build [(.int .i64 0), (.str []), (.int .i64 0), (.int .i64 0)] [(0, 1, (.k (.int .i64 5))), (3, 1, (.t 41))], none⟩,
 ⟨(some 43), .mkLit 4 [(.int .i64 0), (.str []), (.int .i64 0), (.int .i64 0)] [(0, 4, (.t 42))] false, none⟩,
 ⟨(some 44), .append 4 40 (some 32) (.t 39) (.t 43), none⟩,
 ⟨(some 45), .build [(.int .i64 0), (.int .i64 0)] [], none⟩,
 ⟨(some 2), .mov (.t 44), none⟩,
 ⟨none, .store 2 (.t 3) (.t 45), none⟩])
 .ret)))))),
 [], false⟩

def a11_0 : ACode := (.seq (.seq (.reg [⟨(some 11), .mov (.t 5), none⟩,
 ⟨(some 12), .mov (.t 0), none⟩,
 ⟨(some 13), .lenSl (.t 12), none⟩,
 ⟨(some 14), .bin .lss (.t 11) (.t 13), none⟩])
 (.cond (.t 14) .skip
 (.exit 0)))
 (.seq (.block 1 (.seq (.plan [⟨0, ⟨(some 17), .mov (.t 0), none⟩, []⟩,
 ⟨1, ⟨(some 18), .mov (.t 5), none⟩, []⟩,
 ⟨2, ⟨(some 19), .indexAddr 4 true none (.t 17) (.t 18), none⟩, []⟩,
 ⟨3, ⟨(some 20), .load 4 true (.t 19), none⟩, []⟩,
 ⟨4, ⟨(some 21), .mov (.t 1), none⟩, []⟩,
 ⟨5, ⟨(some 22), .mov (.t 5), none⟩, []⟩,
 ⟨6, ⟨(some 23), .indexAddr 4 true none (.t 21) (.t 22), none⟩, []⟩,
 ⟨7, ⟨(some 24), .load 4 true (.t 23), none⟩, []⟩,
 ⟨8, ⟨(some 25), .eqAgg [0, 1, 0, 0] true (.t 20) (.t 24), none⟩, []⟩])
 (.cond (.t 25) (.seq (.reg [⟨(some 4), .mov (.k (.bool false)), none⟩])
 .ret)
 .skip)))
 (.reg [⟨(some 15), .mov (.t 5), none⟩,
 ⟨(some 16), .bin .add (.t 15) (.k (.int .i64 1)), none⟩,
 ⟨(some 5), .mov (.t 16), none⟩])))

def a11 : AFunc := ⟨26, [.tmp 4],
 (.seq (.reg [⟨(some 4), .mov (.k (.bool false)), none⟩])
 (.seq (.seq (.reg [⟨(some 6), .mov (.t 0), none⟩,
 ⟨(some 7), .lenSl (.t 6), none⟩,
 ⟨(some 8), .mov (.t 1), none⟩,
 ⟨(some 9), .lenSl (.t 8), none⟩,
 ⟨(some 10), .bin .neq (.t 7) (.t 9), none⟩])
 (.cond (.t 10) (.seq (.reg [⟨(some 4), .mov (.k (.bool false)), none⟩])
 .ret)
 .skip))
 (.seq (.seq (.reg [⟨(some 5), .mov (.k (.int .i64 0)), none⟩])
 (.block 0 (.loop a11_0)))
 (.seq (.reg [⟨(some 4), .mov (.k (.bool true)), none⟩])
 .ret)))),
 [], false⟩

def a12 : AFunc := ⟨22, [.tmp 4, .tmp 5],
 (.seq (.reg [⟨(some 4), .mov (.k (.int .i64 0)), none⟩,
 ⟨(some 5), .mov (.k (.int .i64 0)), none⟩])
 (.seq (.reg [⟨(some 7), .mov (.t 0), none⟩,
 ⟨(some 8), .mov (.t 1), none⟩,
 ⟨(some 9), .mov (.t 0), none⟩,
 ⟨(some 10), .lenStr (.t 9), none⟩,
 ⟨(some 11), .minmax false [(.t 8), (.t 10)], none⟩,
 ⟨(some 12), .minmax true [(.k (.int .i64 0)), (.t 11)], none⟩,
 ⟨(some 13), .sliceStr (.t 7) none (some (.t 12)), none⟩,
 ⟨(some 6), .mov (.t 13), none⟩])
 (.seq (.reg [⟨(some 14), .mov (.t 6), none⟩,
 ⟨(some 15), .call (.k (.func (.func 19) [] [])) [(.t 14), (.k (.str [10]))], none⟩,
 ⟨(some 16), .bin .add (.k (.int .i64 1)) (.t 15), none⟩,
 ⟨(some 17), .mov (.t 6), none⟩,
 ⟨(some 18), .lenStr (.t 17), none⟩,
 ⟨(some 19), .mov (.t 6), none⟩,
 ⟨(some 20), .call (.k (.func (.func 20) [] [])) [(.t 19), (.k (.int .u8 10))], none⟩,
 ⟨(some 21), .bin .sub (.t 18) (.t 20), none⟩,
 ⟨(some 4), .mov (.t 16), none⟩,
 ⟨(some 5), .mov (.t 21), none⟩])
 .ret))),
 [], false⟩

def a13 : AFunc := ⟨6, [.tmp 2],
 (.seq (.reg [⟨(some 2), .mov (.k (.bool false)), none⟩])
 (.seq (.reg [⟨(some 3), .call (.k (.func (.func 21) [] [])) [], none⟩,
 ⟨(some 4), .mov (.t 0), none⟩,
 ⟨(some 5), .lookup 1 (.bool false) false (.t 3) (.t 4), none⟩,
 ⟨(some 2), .mov (.t 5), none⟩])
 .ret)),
 [], false⟩

def a14_0 : ACode := (.seq (.seq (.reg [⟨(some 6), .mov (.t 4), none⟩,
 ⟨(some 7), .mov (.t 3), none⟩,
 ⟨(some 8), .lenSl (.t 7), none⟩,
 ⟨(some 9), .bin .lss (.t 6) (.t 8), none⟩])
 (.cond (.t 9) .skip
 (.exit 0)))
 (.seq (.block 1 (.seq (.reg [⟨(some 12), .mov (.t 3), none⟩,
 ⟨(some 13), .mov (.t 4), none⟩,
 ⟨(some 14), .indexAddr 1 false none (.t 12) (.t 13), none⟩,
 ⟨(some 15), .load 1 false (.t 14), none⟩,
 ⟨(some 16), .mov (.t 0), none⟩,
 ⟨(some 17), .bin .eql (.t 15) (.t 16), none⟩])
 (.cond (.t 17) (.seq (.reg [⟨(some 2), .mov (.k (.bool true)), none⟩])
 .ret)
 .skip)))
 (.reg [⟨(some 10), .mov (.t 4), none⟩,
 ⟨(some 11), .bin .add (.t 10) (.k (.int .i64 1)), none⟩,
 ⟨(some 4), .mov (.t 11), none⟩])))

def a14 : AFunc := ⟨18, [.tmp 2],
 (.seq (.reg [⟨(some 2), .mov (.k (.bool false)), none⟩])
 (.seq (.reg [⟨(some 5), .mkLit 1 [(.str []), (.str []), (.str []), (.str []), (.str []), (.str []), (.str []), (.str []), (.str []), (.str []), (.str []), (.str []), (.str []), (.str []), (.str []), (.str []), (.str []), (.str []), (.str []), (.str []), (.str []), (.str []), (.str []), (.str []), (.str []), (.str []), (.str []), (.str []), (.str []), (.str [])] [(0, 1, (.k (.str [102, 117, 110]))), (1, 1, (.k (.str [110, 111, 100, 101]))), (2, 1, (.k (.str [104, 121, 98, 114, 105, 100]))), (3, 1, (.k (.str [108, 101, 116]))), (4, 1, (.k (.str [100, 101, 114]))), (5, 1, (.k (.str [105, 110, 105, 116]))), (6, 1, (.k (.str [114, 101, 115, 101, 116]))), (7, 1, (.k (.str [111, 110]))), (8, 1, (.k (.str [117, 112]))), (9, 1, (.k (.str [109, 101, 109]))), (10, 1, (.k (.str [109, 111, 100, 101]))), (11, 1, (.k (.str [102, 114, 111, 109]))), (12, 1, (.k (.str [103, 111, 116, 111]))), (13, 1, (.k (.str [111, 117, 116]))), (14, 1, (.k (.str [105, 102]))), (15, 1, (.k (.str [116, 104, 101, 110]))), (16, 1, (.k (.str [101, 108, 115, 101]))), (17, 1, (.k (.str [112, 114, 101]))), (18, 1, (.k (.str [102, 98, 121]))), (19, 1, (.k (.str [116, 114, 117, 101]))), (20, 1, (.k (.str [102, 97, 108, 115, 101]))), (21, 1, (.k (.str [110, 111, 116]))), (22, 1, (.k (.str [97, 110, 100]))), (23, 1, (.k (.str [111, 114]))), (24, 1, (.k (.str [105, 115]))), (25, 1, (.k (.str [115, 113, 114, 116]))), (26, 1, (.k (.str [114, 101, 116, 117, 114, 110]))), (27, 1, (.k (.str [115, 101, 116]))), (28, 1, (.k (.str [102, 105, 120]))), (29, 1, (.k (.str [98, 111, 111, 108])))] false, none⟩,
 ⟨(some 3), .mov (.t 5), none⟩])
 (.seq (.seq (.reg [⟨(some 4), .mov (.k (.int .i64 0)), none⟩])
 (.block 0 (.loop a14_0)))
 (.seq (.reg [⟨(some 2), .mov (.k (.bool false)), none⟩])
 .ret)))),
 [], false⟩

def a15_0 : ACode := (.seq (.reg [⟨(some 9), .bin .lss (.t 8) (.t 7), none⟩])
 (.seq (.cond (.t 9) .skip
 (.exit 0))
 (.seq (.block 1 (.seq (.reg [⟨(some 10), .indexAddr 4 true none (.t 6) (.t 8), none⟩,
 ⟨(some 11), .load 4 true (.t 10), none⟩,
 ⟨(some 5), .new (.agg [(.int .i64 0), (.str []), (.int .i64 0), (.int .i64 0)]) true none, none⟩,
 ⟨none, .store 4 (.t 5) (.t 11), none⟩])
 (.seq (.reg [⟨(some 12), .fieldAddr 0 1 false (.t 5), none⟩,
 ⟨(some 13), .load 1 false (.t 12), none⟩,
 ⟨(some 14), .bin .neq (.t 13) (.k (.int .i64 5)), none⟩])
 (.cond (.t 14) (.reg [⟨(some 15), .mov (.t 3), none⟩,
 ⟨(some 16), .fieldAddr 1 1 false (.t 5), none⟩,
 ⟨(some 17), .load 1 false (.t 16), none⟩,
 ⟨(some 18), .mkLit 1 [(.str [])] [(0, 1, (.t 17))] false, none⟩,
 ⟨(some 19), .append 1 16 (some 9) (.t 15) (.t 18), none⟩,
 ⟨(some 3), .mov (.t 19), none⟩])
 .skip))))
 (.reg [⟨(some 20), .bin .add (.t 8) (.k (.int .i64 1)), none⟩,
 ⟨(some 8), .mov (.t 20), none⟩]))))

def a15 : AFunc := ⟨23, [.tmp 2],
 (.seq (.reg [⟨(some 2), .mov (.k (.str [])), none⟩])
 (.seq (.reg [⟨(some 3), .mov (.k (.lst 1 [] .tight)), none⟩])
 (.seq (.seq (.reg [⟨(some 6), .mov (.t 0), none⟩,
 ⟨(some 7), .lenSl (.t 6), none⟩,
 ⟨(some 8), .mov (.k (.int .i64 0)), none⟩])
 (.block 0 (.loop a15_0)))
 (.seq (.reg [⟨(some 21), .mov (.t 3), none⟩,
 ⟨(some 22), .call (.k (.func (.func 22) [] [])) [(.t 21), (.k (.str [32]))], none⟩,
 ⟨(some 2), .mov (.t 22), none⟩])
 .ret)))),
 [], false⟩

def a16 : AFunc := ⟨4, [.tmp 2],
 (.seq (.reg [⟨(some 1), .box 1 (.t 0) false, none⟩,
 ⟨(some 2), .mov (.k .nilFunc), none⟩])
 (.seq (.reg [⟨(some 3), .mkFunc 23 [] [(.t 1)], none⟩,
 ⟨(some 2), .mov (.t 3), none⟩])
 .ret)),
 [], false⟩

def a17_0 : ACode := (.seq (.seq (.reg [⟨(some 7), .mov (.t 1), none⟩,
 ⟨(some 8), .mov (.t 0), none⟩,
 ⟨(some 9), .lenStr (.t 8), none⟩,
 ⟨(some 10), .bin .lss (.t 7) (.t 9), none⟩])
 (.cond (.t 10) .skip
 (.exit 0)))
 (.block 1 (.seq (.reg [⟨(some 11), .mov (.t 0), none⟩,
 ⟨(some 12), .mov (.t 1), none⟩,
 ⟨(some 13), .indexStr (.t 11) (.t 12), none⟩,
 ⟨(some 6), .mov (.t 13), none⟩])
 (.seq (.seq (.reg [⟨(some 14), .mov (.t 5), none⟩])
 (.cond (.t 14) (.seq (.reg [⟨(some 15), .mov (.t 6), none⟩,
 ⟨(some 16), .bin .eql (.t 15) (.k (.int .u8 10)), none⟩])
 (.cond (.t 16) (.reg [⟨(some 5), .mov (.k (.bool false)), none⟩])
 .skip))
 (.seq (.reg [⟨(some 17), .mov (.t 6), none⟩,
 ⟨(some 18), .bin .eql (.t 17) (.k (.int .u8 35)), none⟩])
 (.cond (.t 18) (.reg [⟨(some 5), .mov (.k (.bool true)), none⟩])
 (.seq (.reg [⟨(some 19), .mov (.t 6), none⟩,
 ⟨(some 20), .bin .neq (.t 19) (.k (.int .u8 32)), none⟩,
 ⟨(some 21), .mov (.t 20), none⟩,
 ⟨(some 22), .mov (.t 6), some (21, true)⟩,
 ⟨(some 23), .bin .neq (.t 22) (.k (.int .u8 9)), some (21, true)⟩,
 ⟨(some 24), .pick (.t 21) (.t 23) (.k (.bool false)), none⟩,
 ⟨(some 25), .mov (.t 24), none⟩,
 ⟨(some 26), .mov (.t 6), some (25, true)⟩,
 ⟨(some 27), .bin .neq (.t 26) (.k (.int .u8 10)), some (25, true)⟩,
 ⟨(some 28), .pick (.t 25) (.t 27) (.k (.bool false)), none⟩,
 ⟨(some 29), .mov (.t 28), none⟩,
 ⟨(some 30), .mov (.t 6), some (29, true)⟩,
 ⟨(some 31), .bin .neq (.t 30) (.k (.int .u8 13)), some (29, true)⟩,
 ⟨(some 32), .pick (.t 29) (.t 31) (.k (.bool false)), none⟩])
 (.cond (.t 32) (.seq (.reg [⟨(some 33), .mov (.t 1), none⟩,
 ⟨(some 4), .mov (.t 33), none⟩])
 .ret)
 .skip))))))
 (.reg [⟨(some 34), .mov (.t 1), none⟩,
 ⟨(some 35), .bin .add (.t 34) (.k (.int .i64 1)), none⟩,
 ⟨(some 1), .mov (.t 35), none⟩])))))

def a17 : AFunc := ⟨37, [.tmp 4],
 (.seq (.reg [⟨(some 4), .mov (.k (.int .i64 0)), none⟩])
 (.seq (.reg [⟨(some 5), .mov (.k (.bool false)), none⟩])
 (.seq (.block 0 (.loop a17_0))
 (.seq (.reg [⟨(some 36), .mov (.t 1), none⟩,
 ⟨(some 4), .mov (.t 36), none⟩])
 .ret)))),
 [], false⟩

def a18_0 : ACode := (.seq (.seq (.reg [⟨(some 116), .mov (.t 12), none⟩,
 ⟨(some 117), .mov (.t 11), none⟩,
 ⟨(some 118), .lenSl (.t 117), none⟩,
 ⟨(some 119), .bin .lss (.t 116) (.t 118), none⟩])
 (.cond (.t 119) .skip
 (.exit 6)))
 (.seq (.block 7 (.seq (.reg [⟨(some 122), .mov (.t 11), none⟩,
 ⟨(some 123), .mov (.t 12), none⟩,
 ⟨(some 124), .indexAddr 1 false none (.t 122) (.t 123), none⟩,
 ⟨(some 125), .load 1 false (.t 124), none⟩,
 ⟨(some 126), .lenStr (.t 125), none⟩,
 ⟨(some 13), .mov (.t 126), none⟩])
 (.seq (.plan [⟨0, ⟨(some 127), .mov (.t 1), none⟩, []⟩,
 ⟨1, ⟨(some 128), .mov (.t 13), none⟩, []⟩,
 ⟨2, ⟨(some 129), .bin .add (.t 127) (.t 128), none⟩, []⟩,
 ⟨3, ⟨(some 130), .mov (.t 0), none⟩, []⟩,
 ⟨4, ⟨(some 131), .lenStr (.t 130), none⟩, []⟩,
 ⟨5, ⟨(some 132), .bin .leq (.t 129) (.t 131), none⟩, []⟩,
 ⟨6, ⟨(some 133), .mov (.t 132), none⟩, []⟩,
 ⟨7, ⟨(some 134), .mov (.t 0), some (133, true)⟩, []⟩,
 ⟨8, ⟨(some 135), .mov (.t 1), some (133, true)⟩, []⟩,
 ⟨9, ⟨(some 136), .mov (.t 1), some (133, true)⟩, []⟩,
 ⟨10, ⟨(some 137), .mov (.t 13), some (133, true)⟩, []⟩,
 ⟨11, ⟨(some 138), .bin .add (.t 136) (.t 137), some (133, true)⟩, []⟩,
 ⟨12, ⟨(some 139), .sliceStr (.t 134) (some (.t 135)) (some (.t 138)), some (133, true)⟩, []⟩,
 ⟨13, ⟨(some 140), .mov (.t 11), some (133, true)⟩, []⟩,
 ⟨14, ⟨(some 141), .mov (.t 12), some (133, true)⟩, []⟩,
 ⟨15, ⟨(some 142), .indexAddr 1 false none (.t 140) (.t 141), some (133, true)⟩, []⟩,
 ⟨16, ⟨(some 143), .load 1 false (.t 142), some (133, true)⟩, []⟩,
 ⟨17, ⟨(some 144), .bin .eql (.t 139) (.t 143), some (133, true)⟩, []⟩,
 ⟨18, ⟨(some 145), .pick (.t 133) (.t 144) (.k (.bool false)), none⟩, []⟩])
 (.cond (.t 145) (.seq (.reg [⟨(some 146), .mov (.t 11), none⟩,
 ⟨(some 147), .mov (.t 12), none⟩,
 ⟨(some 148), .indexAddr 1 false none (.t 146) (.t 147), none⟩,
 ⟨(some 149), .load 1 false (.t 148), none⟩,
 ⟨(some 150), .mov (.t 1), none⟩,
 ⟨(some 151), .build [(.int .i64 0), (.str []), (.int .i64 0), (.int .i64 0)] [(0, 1, (.k (.int .i64 4))), (1, 1, (.t 149)), (3, 1, (.t 150))], none⟩,
 ⟨none, .store 4 (.t 4) (.t 151), none⟩,
 ⟨(some 5), .mov (.k (.bool true)), none⟩])
 .ret)
 .skip))))
 (.reg [⟨(some 120), .mov (.t 12), none⟩,
 ⟨(some 121), .bin .add (.t 120) (.k (.int .i64 1)), none⟩,
 ⟨(some 12), .mov (.t 121), none⟩])))

def a18_1 : ACode := (.seq (.seq (.reg [⟨(some 87), .mov (.t 7), none⟩,
 ⟨(some 88), .mov (.t 0), none⟩,
 ⟨(some 89), .lenStr (.t 88), none⟩,
 ⟨(some 90), .bin .lss (.t 87) (.t 89), none⟩,
 ⟨(some 91), .mov (.t 90), none⟩,
 ⟨(some 92), .mov (.t 0), some (91, true)⟩,
 ⟨(some 93), .mov (.t 7), some (91, true)⟩,
 ⟨(some 94), .indexStr (.t 92) (.t 93), some (91, true)⟩,
 ⟨(some 95), .call (.k (.func (.func 27) [] [])) [(.t 94)], some (91, true)⟩,
 ⟨(some 96), .pick (.t 91) (.t 95) (.k (.bool false)), none⟩])
 (.cond (.t 96) .skip
 (.exit 4)))
 (.block 5 (.reg [⟨(some 97), .mov (.t 7), none⟩,
 ⟨(some 98), .bin .add (.t 97) (.k (.int .i64 1)), none⟩,
 ⟨(some 7), .mov (.t 98), none⟩])))

def a18_2 : ACode := (.seq (.seq (.reg [⟨(some 55), .mov (.t 7), none⟩,
 ⟨(some 56), .mov (.t 0), none⟩,
 ⟨(some 57), .lenStr (.t 56), none⟩,
 ⟨(some 58), .bin .lss (.t 55) (.t 57), none⟩,
 ⟨(some 59), .mov (.t 58), none⟩,
 ⟨(some 60), .mov (.t 0), some (59, true)⟩,
 ⟨(some 61), .mov (.t 7), some (59, true)⟩,
 ⟨(some 62), .indexStr (.t 60) (.t 61), some (59, true)⟩,
 ⟨(some 63), .call (.k (.func (.func 27) [] [])) [(.t 62)], some (59, true)⟩,
 ⟨(some 64), .pick (.t 59) (.t 63) (.k (.bool false)), none⟩])
 (.cond (.t 64) .skip
 (.exit 2)))
 (.block 3 (.reg [⟨(some 65), .mov (.t 7), none⟩,
 ⟨(some 66), .bin .add (.t 65) (.k (.int .i64 1)), none⟩,
 ⟨(some 7), .mov (.t 66), none⟩])))

def a18_3 : ACode := (.seq (.seq (.reg [⟨(some 20), .mov (.t 7), none⟩,
 ⟨(some 21), .mov (.t 0), none⟩,
 ⟨(some 22), .lenStr (.t 21), none⟩,
 ⟨(some 23), .bin .lss (.t 20) (.t 22), none⟩,
 ⟨(some 24), .mov (.t 23), none⟩,
 ⟨(some 25), .mov (.t 0), some (24, true)⟩,
 ⟨(some 26), .mov (.t 7), some (24, true)⟩,
 ⟨(some 27), .indexStr (.t 25) (.t 26), some (24, true)⟩,
 ⟨(some 28), .call (.k (.func (.func 26) [] [])) [(.t 27)], some (24, true)⟩,
 ⟨(some 29), .mov (.t 28), some (24, true)⟩,
 ⟨(some 30), .mov (.t 0), some (29, false)⟩,
 ⟨(some 31), .mov (.t 7), some (29, false)⟩,
 ⟨(some 32), .indexStr (.t 30) (.t 31), some (29, false)⟩,
 ⟨(some 33), .call (.k (.func (.func 27) [] [])) [(.t 32)], some (29, false)⟩,
 ⟨(some 34), .pick (.t 29) (.k (.bool true)) (.t 33), some (24, true)⟩,
 ⟨(some 35), .pick (.t 24) (.t 34) (.k (.bool false)), none⟩])
 (.cond (.t 35) .skip
 (.exit 0)))
 (.block 1 (.reg [⟨(some 36), .mov (.t 7), none⟩,
 ⟨(some 37), .bin .add (.t 36) (.k (.int .i64 1)), none⟩,
 ⟨(some 7), .mov (.t 37), none⟩])))

def a18 : AFunc := ⟨153, [.cell 4 4 true, .tmp 5],
 (.seq (.reg [⟨(some 4), .new (.agg [(.int .i64 0), (.str []), (.int .i64 0), (.int .i64 0)]) true none, none⟩,
 ⟨(some 5), .mov (.k (.bool false)), none⟩])
 (.seq (.reg [⟨(some 14), .mov (.t 0), none⟩,
 ⟨(some 15), .mov (.t 1), none⟩,
 ⟨(some 16), .indexStr (.t 14) (.t 15), none⟩,
 ⟨(some 6), .mov (.t 16), none⟩])
 (.seq (.reg [⟨(some 17), .mov (.t 1), none⟩,
 ⟨(some 7), .mov (.t 17), none⟩])
 (.seq (.seq (.reg [⟨(some 18), .mov (.t 6), none⟩,
 ⟨(some 19), .call (.k (.func (.func 26) [] [])) [(.t 18)], none⟩])
 (.cond (.t 19) (.seq (.block 0 (.loop a18_3))
 (.seq (.reg [⟨(some 38), .mov (.t 0), none⟩,
 ⟨(some 39), .mov (.t 1), none⟩,
 ⟨(some 40), .mov (.t 7), none⟩,
 ⟨(some 41), .sliceStr (.t 38) (some (.t 39)) (some (.t 40)), none⟩,
 ⟨(some 42), .mov (.t 1), none⟩,
 ⟨(some 43), .build [(.int .i64 0), (.str []), (.int .i64 0), (.int .i64 0)] [(0, 1, (.k (.int .i64 1))), (1, 1, (.t 41)), (3, 1, (.t 42))], none⟩,
 ⟨(some 8), .new (.agg [(.int .i64 0), (.str []), (.int .i64 0), (.int .i64 0)]) true none, none⟩,
 ⟨none, .store 4 (.t 8) (.t 43), none⟩])
 (.seq (.seq (.reg [⟨(some 44), .fieldAddr 1 1 false (.t 8), none⟩,
 ⟨(some 45), .load 1 false (.t 44), none⟩,
 ⟨(some 46), .call (.k (.func (.func 14) [] [])) [(.t 45)], none⟩])
 (.cond (.t 46) (.reg [⟨(some 47), .fieldAddr 0 1 false (.t 8), none⟩,
 ⟨none, .store 1 (.t 47) (.k (.int .i64 3)), none⟩])
 .skip))
 (.seq (.reg [⟨(some 48), .load 4 true (.t 8), none⟩,
 ⟨(some 49), .mov (.t 7), none⟩,
 ⟨(some 50), .mov (.t 1), none⟩,
 ⟨(some 51), .bin .sub (.t 49) (.t 50), none⟩,
 ⟨(some 52), .bin .leq (.t 51) (.k (.int .i64 16)), none⟩,
 ⟨none, .store 4 (.t 4) (.t 48), none⟩,
 ⟨(some 5), .mov (.t 52), none⟩])
 .ret))))
 .skip))
 (.seq (.seq (.reg [⟨(some 53), .mov (.t 6), none⟩,
 ⟨(some 54), .call (.k (.func (.func 27) [] [])) [(.t 53)], none⟩])
 (.cond (.t 54) (.seq (.block 2 (.loop a18_2))
 (.seq (.seq (.reg [⟨(some 67), .mov (.t 7), none⟩,
 ⟨(some 68), .bin .add (.t 67) (.k (.int .i64 1)), none⟩,
 ⟨(some 69), .mov (.t 0), none⟩,
 ⟨(some 70), .lenStr (.t 69), none⟩,
 ⟨(some 71), .bin .lss (.t 68) (.t 70), none⟩,
 ⟨(some 72), .mov (.t 71), none⟩,
 ⟨(some 73), .mov (.t 0), some (72, true)⟩,
 ⟨(some 74), .mov (.t 7), some (72, true)⟩,
 ⟨(some 75), .indexStr (.t 73) (.t 74), some (72, true)⟩,
 ⟨(some 76), .bin .eql (.t 75) (.k (.int .u8 46)), some (72, true)⟩,
 ⟨(some 77), .pick (.t 72) (.t 76) (.k (.bool false)), none⟩,
 ⟨(some 78), .mov (.t 77), none⟩,
 ⟨(some 79), .mov (.t 0), some (78, true)⟩,
 ⟨(some 80), .mov (.t 7), some (78, true)⟩,
 ⟨(some 81), .bin .add (.t 80) (.k (.int .i64 1)), some (78, true)⟩,
 ⟨(some 82), .indexStr (.t 79) (.t 81), some (78, true)⟩,
 ⟨(some 83), .call (.k (.func (.func 27) [] [])) [(.t 82)], some (78, true)⟩,
 ⟨(some 84), .pick (.t 78) (.t 83) (.k (.bool false)), none⟩])
 (.cond (.t 84) (.seq (.reg [⟨(some 85), .mov (.t 7), none⟩,
 ⟨(some 86), .bin .add (.t 85) (.k (.int .i64 1)), none⟩,
 ⟨(some 7), .mov (.t 86), none⟩])
 (.block 4 (.loop a18_1)))
 .skip))
 (.seq (.reg [⟨(some 100), .mov (.t 0), none⟩,
 ⟨(some 101), .mov (.t 1), none⟩,
 ⟨(some 102), .mov (.t 7), none⟩,
 ⟨(some 103), .sliceStr (.t 100) (some (.t 101)) (some (.t 102)), none⟩,
 ⟨(some 104), .call (.k (.func (.func 28) [] [])) [(.t 103)], none⟩,
 ⟨(some 99), .mov (.t 104), none⟩,
 ⟨(some 105), .extract (.t 99) 0, none⟩,
 ⟨(some 106), .extract (.t 99) 1, none⟩,
 ⟨(some 9), .mov (.t 105), none⟩,
 ⟨(some 10), .mov (.t 106), none⟩])
 (.seq (.reg [⟨(some 107), .mov (.t 0), none⟩,
 ⟨(some 108), .mov (.t 1), none⟩,
 ⟨(some 109), .mov (.t 7), none⟩,
 ⟨(some 110), .sliceStr (.t 107) (some (.t 108)) (some (.t 109)), none⟩,
 ⟨(some 111), .mov (.t 9), none⟩,
 ⟨(some 112), .mov (.t 1), none⟩,
 ⟨(some 113), .build [(.int .i64 0), (.str []), (.int .i64 0), (.int .i64 0)] [(0, 1, (.k (.int .i64 2))), (1, 1, (.t 110)), (2, 1, (.t 111)), (3, 1, (.t 112))], none⟩,
 ⟨(some 114), .mov (.t 10), none⟩,
 ⟨none, .store 4 (.t 4) (.t 113), none⟩,
 ⟨(some 5), .mov (.t 114), none⟩])
 .ret))))
 .skip))
 (.seq (.reg [⟨(some 115), .mkLit 1 [(.str []), (.str []), (.str []), (.str []), (.str []), (.str []), (.str []), (.str []), (.str []), (.str []), (.str []), (.str []), (.str []), (.str []), (.str []), (.str []), (.str [])] [(0, 1, (.k (.str [45, 62]))), (1, 1, (.k (.str [60, 61]))), (2, 1, (.k (.str [61, 61]))), (3, 1, (.k (.str [40]))), (4, 1, (.k (.str [41]))), (5, 1, (.k (.str [123]))), (6, 1, (.k (.str [125]))), (7, 1, (.k (.str [44]))), (8, 1, (.k (.str [59]))), (9, 1, (.k (.str [58]))), (10, 1, (.k (.str [61]))), (11, 1, (.k (.str [43]))), (12, 1, (.k (.str [45]))), (13, 1, (.k (.str [42]))), (14, 1, (.k (.str [47]))), (15, 1, (.k (.str [60]))), (16, 1, (.k (.str [46])))] false, none⟩,
 ⟨(some 11), .mov (.t 115), none⟩])
 (.seq (.seq (.reg [⟨(some 12), .mov (.k (.int .i64 0)), none⟩])
 (.block 6 (.loop a18_0)))
 (.seq (.reg [⟨(some 152), .build [(.int .i64 0), (.str []), (.int .i64 0), (.int .i64 0)] [], none⟩,
 ⟨none, .store 4 (.t 4) (.t 152), none⟩,
 ⟨(some 5), .mov (.k (.bool false)), none⟩])
 .ret)))))))),
 [], false⟩

def a20 : AFunc := ⟨8, [.tmp 4],
 (.seq (.reg [⟨(some 4), .mov (.k (.int .i64 0)), none⟩])
 (.seq (.reg [⟨(some 5), .mov (.t 0), none⟩,
 ⟨(some 6), .mov (.t 1), none⟩,
 ⟨(some 7), .call (.k (.func (.func 32) [] [])) [(.t 5), (.t 6)], none⟩,
 ⟨(some 4), .mov (.t 7), none⟩])
 .ret)),
 [], false⟩

def a21_0 : ACode := (.seq (.reg [⟨(some 8), .bin .lss (.t 7) (.t 6), none⟩])
 (.seq (.cond (.t 8) .skip
 (.exit 0))
 (.seq (.block 1 (.seq (.reg [⟨(some 9), .indexAddr 1 false none (.t 5) (.t 7), none⟩,
 ⟨(some 10), .load 1 false (.t 9), none⟩,
 ⟨(some 3), .mov (.t 10), none⟩])
 (.reg [⟨(some 11), .mov (.t 1), none⟩,
 ⟨(some 12), .mov (.t 3), none⟩,
 ⟨none, .mapUpdate 1 (.t 11) (.t 12) (.k (.bool true)), none⟩])))
 (.reg [⟨(some 13), .bin .add (.t 7) (.k (.int .i64 1)), none⟩,
 ⟨(some 7), .mov (.t 13), none⟩]))))

def a21 : AFunc := ⟨15, [.tmp 0],
 (.seq (.reg [⟨(some 0), .mov (.k .nilMap), none⟩])
 (.seq (.reg [⟨(some 4), .mkMap, none⟩,
 ⟨(some 1), .mov (.t 4), none⟩])
 (.seq (.seq (.reg [⟨(some 5), .call (.k (.func (.func 33) [] [])) [(.k (.str [102, 117, 110, 32, 110, 111, 100, 101, 32, 104, 121, 98, 114, 105, 100, 32, 108, 101, 116, 32, 100, 101, 114, 32, 105, 110, 105, 116, 32, 114, 101, 115, 101, 116, 32, 111, 110, 32, 117, 112, 32, 109, 101, 109, 32, 109, 111, 100, 101, 32, 102, 114, 111, 109, 32, 103, 111, 116, 111, 32, 111, 117, 116, 32, 105, 102, 32, 116, 104, 101, 110, 32, 101, 108, 115, 101, 32, 112, 114, 101, 32, 102, 98, 121, 32, 116, 114, 117, 101, 32, 102, 97, 108, 115, 101, 32, 110, 111, 116, 32, 97, 110, 100, 32, 111, 114, 32, 105, 115, 32, 115, 113, 114, 116, 32, 114, 101, 116, 117, 114, 110, 32, 115, 101, 116, 32, 102, 105, 120, 32, 98, 111, 111, 108]))], none⟩,
 ⟨(some 6), .lenSl (.t 5), none⟩,
 ⟨(some 7), .mov (.k (.int .i64 0)), none⟩])
 (.block 0 (.loop a21_0)))
 (.seq (.reg [⟨(some 14), .mov (.t 1), none⟩,
 ⟨(some 0), .mov (.t 14), none⟩])
 .ret)))),
 [], true⟩

def a23_0 : ACode := (.seq (.seq (.reg [⟨(some 10), .mov (.t 4), none⟩,
 ⟨(some 11), .load 1 false (.t 1), none⟩,
 ⟨(some 12), .lenStr (.t 11), none⟩,
 ⟨(some 13), .bin .lss (.t 10) (.t 12), none⟩])
 (.cond (.t 13) .skip
 (.exit 0)))
 (.block 1 (.seq (.reg [⟨(some 15), .load 1 false (.t 1), none⟩,
 ⟨(some 16), .mov (.t 4), none⟩,
 ⟨(some 17), .mov (.t 3), none⟩,
 ⟨(some 18), .call (.k (.func (.func 25) [] [])) [(.t 15), (.t 16), (.t 17)], none⟩,
 ⟨(some 14), .mov (.t 18), none⟩,
 ⟨(some 19), .extract (.t 14) 0, none⟩,
 ⟨(some 20), .extract (.t 14) 1, none⟩,
 ⟨(some 5), .new (.agg [(.int .i64 0), (.str []), (.int .i64 0), (.int .i64 0)]) true none, none⟩,
 ⟨none, .store 4 (.t 5) (.t 19), none⟩,
 ⟨(some 6), .mov (.t 20), none⟩])
 (.seq (.seq (.reg [⟨(some 21), .mov (.t 0), none⟩,
 ⟨(some 22), .load 4 true (.t 5), none⟩,
 ⟨(some 23), .mov (.t 6), none⟩,
 ⟨(some 24), .call (.t 21) [(.t 22), (.t 23)], none⟩,
 ⟨(some 25), .un .not (.t 24), none⟩])
 (.cond (.t 25) .ret
 .skip))
 (.reg [⟨(some 26), .load 1 false (.t 1), none⟩,
 ⟨(some 27), .mov (.t 4), none⟩,
 ⟨(some 28), .fieldAddr 1 1 false (.t 5), none⟩,
 ⟨(some 29), .load 1 false (.t 28), none⟩,
 ⟨(some 30), .lenStr (.t 29), none⟩,
 ⟨(some 31), .bin .add (.t 27) (.t 30), none⟩,
 ⟨(some 32), .call (.k (.func (.func 24) [] [])) [(.t 26), (.t 31)], none⟩,
 ⟨(some 4), .mov (.t 32), none⟩])))))

def a23 : AFunc := ⟨38, [],
 (.seq (.reg [⟨(some 7), .call (.k (.func (.func 21) [] [])) [], none⟩,
 ⟨(some 3), .mov (.t 7), none⟩])
 (.seq (.seq (.reg [⟨(some 8), .load 1 false (.t 1), none⟩,
 ⟨(some 9), .call (.k (.func (.func 24) [] [])) [(.t 8), (.k (.int .i64 0))], none⟩,
 ⟨(some 4), .mov (.t 9), none⟩])
 (.block 0 (.loop a23_0)))
 (.reg [⟨(some 33), .mov (.t 0), none⟩,
 ⟨(some 34), .load 1 false (.t 1), none⟩,
 ⟨(some 35), .lenStr (.t 34), none⟩,
 ⟨(some 36), .build [(.int .i64 0), (.str []), (.int .i64 0), (.int .i64 0)] [(0, 1, (.k (.int .i64 5))), (3, 1, (.t 35))], none⟩,
 ⟨(some 37), .call (.t 33) [(.t 36), (.k (.bool true))], none⟩]))),
 [], true⟩

def a24_0 : ACode := (.block 1 (.seq (.reg [⟨(some 5), .mov (.t 0), none⟩,
 ⟨(some 6), .mov (.t 1), none⟩,
 ⟨(some 7), .call (.k (.func (.func 37) [] [])) [(.t 5), (.t 6), (.k (.func (.func 38) [] []))], none⟩,
 ⟨(some 1), .mov (.t 7), none⟩])
 (.seq (.seq (.reg [⟨(some 8), .mov (.t 1), none⟩,
 ⟨(some 9), .mov (.t 0), none⟩,
 ⟨(some 10), .lenStr (.t 9), none⟩,
 ⟨(some 11), .bin .geq (.t 8) (.t 10), none⟩,
 ⟨(some 12), .mov (.t 11), none⟩,
 ⟨(some 13), .mov (.t 0), some (12, false)⟩,
 ⟨(some 14), .mov (.t 1), some (12, false)⟩,
 ⟨(some 15), .indexStr (.t 13) (.t 14), some (12, false)⟩,
 ⟨(some 16), .bin .neq (.t 15) (.k (.int .u8 35)), some (12, false)⟩,
 ⟨(some 17), .pick (.t 12) (.k (.bool true)) (.t 16), none⟩])
 (.cond (.t 17) (.seq (.reg [⟨(some 18), .mov (.t 1), none⟩,
 ⟨(some 4), .mov (.t 18), none⟩])
 .ret)
 .skip))
 (.reg [⟨(some 19), .mov (.t 0), none⟩,
 ⟨(some 20), .mov (.t 1), none⟩,
 ⟨(some 21), .call (.k (.func (.func 37) [] [])) [(.t 19), (.t 20), (.k (.func (.func 39) [] []))], none⟩,
 ⟨(some 1), .mov (.t 21), none⟩]))))

def a24 : AFunc := ⟨22, [.tmp 4],
 (.seq (.reg [⟨(some 4), .mov (.k (.int .i64 0)), none⟩])
 (.block 0 (.loop a24_0))),
 [], false⟩

def a25 : AFunc := ⟨69, [.cell 6 4 true, .tmp 7],
 (.seq (.reg [⟨(some 6), .new (.agg [(.int .i64 0), (.str []), (.int .i64 0), (.int .i64 0)]) true none, none⟩,
 ⟨(some 7), .mov (.k (.bool false)), none⟩])
 (.seq (.reg [⟨(some 12), .mov (.t 1), none⟩,
 ⟨(some 13), .build [(.int .i64 0), (.str []), (.int .i64 0), (.int .i64 0)] [(3, 1, (.t 12))], none⟩,
 ⟨(some 8), .new (.agg [(.int .i64 0), (.str []), (.int .i64 0), (.int .i64 0)]) true none, none⟩,
 ⟨none, .store 4 (.t 8) (.t 13), none⟩])
 (.seq (.seq (.reg [⟨(some 14), .mov (.t 0), none⟩,
 ⟨(some 15), .mov (.t 1), none⟩,
 ⟨(some 16), .indexStr (.t 14) (.t 15), none⟩,
 ⟨(some 9), .mov (.t 16), none⟩])
 (.block 0 (.seq (.reg [⟨(some 18), .mov (.t 9), none⟩,
 ⟨(some 19), .call (.k (.func (.func 40) [] [])) [(.t 18)], none⟩,
 ⟨(some 17), .mov (.t 19), none⟩])
 (.cond (.t 17) (.seq (.plan [⟨0, ⟨(some 20), .mov (.t 0), none⟩, []⟩,
 ⟨1, ⟨(some 21), .mov (.t 1), none⟩, []⟩,
 ⟨2, ⟨(some 22), .mov (.t 0), none⟩, []⟩,
 ⟨3, ⟨(some 23), .mov (.t 1), none⟩, []⟩,
 ⟨6, ⟨(some 26), .fieldAddr 0 1 false (.t 8), none⟩, []⟩,
 ⟨4, ⟨(some 24), .call (.k (.func (.func 37) [] [])) [(.t 22), (.t 23), (.k (.func (.func 41) [] []))], none⟩, []⟩,
 ⟨5, ⟨(some 25), .sliceStr (.t 20) (some (.t 21)) (some (.t 24)), none⟩, []⟩,
 ⟨7, ⟨none, .store 1 (.t 26) (.k (.int .i64 1)), none⟩, []⟩,
 ⟨8, ⟨(some 27), .fieldAddr 1 1 false (.t 8), none⟩, []⟩,
 ⟨9, ⟨none, .store 1 (.t 27) (.t 25), none⟩, []⟩])
 (.seq (.seq (.reg [⟨(some 28), .mov (.t 2), none⟩,
 ⟨(some 29), .fieldAddr 1 1 false (.t 8), none⟩,
 ⟨(some 30), .load 1 false (.t 29), none⟩,
 ⟨(some 31), .lookup 1 (.bool false) false (.t 28) (.t 30), none⟩])
 (.cond (.t 31) (.reg [⟨(some 32), .fieldAddr 0 1 false (.t 8), none⟩,
 ⟨none, .store 1 (.t 32) (.k (.int .i64 3)), none⟩])
 .skip))
 (.seq (.plan [⟨0, ⟨(some 33), .load 4 true (.t 8), none⟩, []⟩,
 ⟨1, ⟨(some 34), .fieldAddr 1 1 false (.t 8), none⟩, []⟩,
 ⟨2, ⟨(some 35), .load 1 false (.t 34), none⟩, []⟩,
 ⟨3, ⟨(some 36), .lenStr (.t 35), none⟩, []⟩,
 ⟨4, ⟨(some 37), .bin .leq (.t 36) (.k (.int .i64 16)), none⟩, []⟩,
 ⟨5, ⟨none, .store 4 (.t 6) (.t 33), none⟩, [2]⟩,
 ⟨6, ⟨(some 7), .mov (.t 37), none⟩, []⟩])
 .ret)))
 (.seq (.reg [⟨(some 39), .mov (.t 9), none⟩,
 ⟨(some 40), .call (.k (.func (.func 42) [] [])) [(.t 39)], none⟩,
 ⟨(some 38), .mov (.t 40), none⟩])
 (.cond (.t 38) (.seq (.plan [⟨0, ⟨(some 41), .mov (.t 0), none⟩, []⟩,
 ⟨1, ⟨(some 42), .mov (.t 1), none⟩, []⟩,
 ⟨2, ⟨(some 43), .mov (.t 0), none⟩, []⟩,
 ⟨3, ⟨(some 44), .mov (.t 1), none⟩, []⟩,
 ⟨6, ⟨(some 47), .fieldAddr 0 1 false (.t 8), none⟩, []⟩,
 ⟨4, ⟨(some 45), .call (.k (.func (.func 43) [] [])) [(.t 43), (.t 44)], none⟩, []⟩,
 ⟨5, ⟨(some 46), .sliceStr (.t 41) (some (.t 42)) (some (.t 45)), none⟩, []⟩,
 ⟨7, ⟨none, .store 1 (.t 47) (.k (.int .i64 2)), none⟩, []⟩,
 ⟨8, ⟨(some 48), .fieldAddr 1 1 false (.t 8), none⟩, []⟩,
 ⟨9, ⟨none, .store 1 (.t 48) (.t 46), none⟩, []⟩])
 (.seq (.reg [⟨(some 50), .fieldAddr 1 1 false (.t 8), none⟩,
 ⟨(some 51), .load 1 false (.t 50), none⟩,
 ⟨(some 52), .call (.k (.func (.func 44) [] [])) [(.t 51)], none⟩,
 ⟨(some 49), .mov (.t 52), none⟩,
 ⟨(some 53), .extract (.t 49) 0, none⟩,
 ⟨(some 54), .extract (.t 49) 1, none⟩,
 ⟨(some 10), .mov (.t 53), none⟩,
 ⟨(some 11), .mov (.t 54), none⟩])
 (.seq (.reg [⟨(some 55), .mov (.t 10), none⟩,
 ⟨(some 56), .fieldAddr 2 1 false (.t 8), none⟩,
 ⟨none, .store 1 (.t 56) (.t 55), none⟩])
 (.seq (.reg [⟨(some 57), .load 4 true (.t 8), none⟩,
 ⟨(some 58), .mov (.t 11), none⟩,
 ⟨none, .store 4 (.t 6) (.t 57), none⟩,
 ⟨(some 7), .mov (.t 58), none⟩])
 .ret))))
 .skip))))))
 (.seq (.reg [⟨(some 59), .mov (.t 0), none⟩,
 ⟨(some 60), .mov (.t 1), none⟩,
 ⟨(some 61), .sliceStr (.t 59) (some (.t 60)) none, none⟩,
 ⟨(some 62), .call (.k (.func (.func 45) [] [])) [(.t 61)], none⟩,
 ⟨(some 63), .fieldAddr 0 1 false (.t 8), none⟩,
 ⟨none, .store 1 (.t 63) (.k (.int .i64 4)), none⟩,
 ⟨(some 64), .fieldAddr 1 1 false (.t 8), none⟩,
 ⟨none, .store 1 (.t 64) (.t 62), none⟩])
 (.seq (.plan [⟨0, ⟨(some 65), .load 4 true (.t 8), none⟩, []⟩,
 ⟨1, ⟨(some 66), .fieldAddr 1 1 false (.t 8), none⟩, []⟩,
 ⟨2, ⟨(some 67), .load 1 false (.t 66), none⟩, []⟩,
 ⟨3, ⟨(some 68), .bin .neq (.t 67) (.k (.str [])), none⟩, []⟩,
 ⟨4, ⟨none, .store 4 (.t 6) (.t 65), none⟩, [2]⟩,
 ⟨5, ⟨(some 7), .mov (.t 68), none⟩, []⟩])
 .ret))))),
 [], false⟩

def a26 : AFunc := ⟨21, [.tmp 2],
 (.seq (.reg [⟨(some 2), .mov (.k (.bool false)), none⟩])
 (.seq (.reg [⟨(some 3), .mov (.t 0), none⟩,
 ⟨(some 4), .bin .geq (.t 3) (.k (.int .u8 65)), none⟩,
 ⟨(some 5), .mov (.t 4), none⟩,
 ⟨(some 6), .mov (.t 0), some (5, true)⟩,
 ⟨(some 7), .bin .leq (.t 6) (.k (.int .u8 90)), some (5, true)⟩,
 ⟨(some 8), .pick (.t 5) (.t 7) (.k (.bool false)), none⟩,
 ⟨(some 9), .mov (.t 8), none⟩,
 ⟨(some 10), .mov (.t 0), some (9, false)⟩,
 ⟨(some 11), .bin .geq (.t 10) (.k (.int .u8 97)), some (9, false)⟩,
 ⟨(some 12), .mov (.t 11), some (9, false)⟩,
 ⟨(some 13), .mov (.t 0), some (12, true)⟩,
 ⟨(some 14), .bin .leq (.t 13) (.k (.int .u8 122)), some (12, true)⟩,
 ⟨(some 15), .pick (.t 12) (.t 14) (.k (.bool false)), some (9, false)⟩,
 ⟨(some 16), .pick (.t 9) (.k (.bool true)) (.t 15), none⟩,
 ⟨(some 17), .mov (.t 16), none⟩,
 ⟨(some 18), .mov (.t 0), some (17, false)⟩,
 ⟨(some 19), .bin .eql (.t 18) (.k (.int .u8 95)), some (17, false)⟩,
 ⟨(some 20), .pick (.t 17) (.k (.bool true)) (.t 19), none⟩,
 ⟨(some 2), .mov (.t 20), none⟩])
 .ret)),
 [], false⟩

def a27 : AFunc := ⟨9, [.tmp 2],
 (.seq (.reg [⟨(some 2), .mov (.k (.bool false)), none⟩])
 (.seq (.reg [⟨(some 3), .mov (.t 0), none⟩,
 ⟨(some 4), .bin .geq (.t 3) (.k (.int .u8 48)), none⟩,
 ⟨(some 5), .mov (.t 4), none⟩,
 ⟨(some 6), .mov (.t 0), some (5, true)⟩,
 ⟨(some 7), .bin .leq (.t 6) (.k (.int .u8 57)), some (5, true)⟩,
 ⟨(some 8), .pick (.t 5) (.t 7) (.k (.bool false)), none⟩,
 ⟨(some 2), .mov (.t 8), none⟩])
 .ret)),
 [], false⟩

def a28 : AFunc := ⟨47, [.tmp 2, .tmp 3],
 (.seq (.reg [⟨(some 2), .mov (.k (.int .i64 0)), none⟩,
 ⟨(some 3), .mov (.k (.bool false)), none⟩])
 (.seq (.seq (.reg [⟨(some 8), .mov (.t 0), none⟩,
 ⟨(some 9), .lenStr (.t 8), none⟩,
 ⟨(some 10), .bin .gtr (.t 9) (.k (.int .i64 0)), none⟩,
 ⟨(some 11), .mov (.t 10), none⟩,
 ⟨(some 12), .mov (.t 0), some (11, true)⟩,
 ⟨(some 13), .indexStr (.t 12) (.k (.int .i64 0)), some (11, true)⟩,
 ⟨(some 14), .bin .eql (.t 13) (.k (.int .u8 45)), some (11, true)⟩,
 ⟨(some 15), .pick (.t 11) (.t 14) (.k (.bool false)), none⟩])
 (.cond (.t 15) (.seq (.seq (.reg [⟨(some 16), .mov (.t 0), none⟩,
 ⟨(some 17), .sliceStr (.t 16) (some (.k (.int .i64 1))) none, none⟩,
 ⟨(some 18), .call (.k (.func (.func 46) [] [])) [(.t 17)], none⟩,
 ⟨(some 19), .un .not (.t 18), none⟩])
 (.cond (.t 19) (.seq (.reg [⟨(some 2), .mov (.k (.int .i64 0)), none⟩,
 ⟨(some 3), .mov (.k (.bool false)), none⟩])
 .ret)
 .skip))
 (.seq (.reg [⟨(some 21), .mov (.t 0), none⟩,
 ⟨(some 22), .sliceStr (.t 21) (some (.k (.int .i64 1))) none, none⟩,
 ⟨(some 23), .call (.k (.func (.func 47) [] [])) [(.t 22)], none⟩,
 ⟨(some 20), .mov (.t 23), none⟩,
 ⟨(some 24), .extract (.t 20) 0, none⟩,
 ⟨(some 25), .extract (.t 20) 1, none⟩,
 ⟨(some 4), .mov (.t 24), none⟩,
 ⟨(some 5), .mov (.t 25), none⟩])
 (.seq (.seq (.reg [⟨(some 26), .mov (.t 5), none⟩])
 (.cond (.t 26) (.seq (.reg [⟨(some 2), .mov (.k (.int .i64 0)), none⟩,
 ⟨(some 3), .mov (.k (.bool false)), none⟩])
 .ret)
 .skip))
 (.seq (.seq (.reg [⟨(some 27), .mov (.t 4), none⟩,
 ⟨(some 28), .bin .eql (.t 27) (.k (.int .u64 9223372036854775808)), none⟩])
 (.cond (.t 28) (.seq (.reg [⟨(some 2), .mov (.k (.int .i64 (-9223372036854775808))), none⟩,
 ⟨(some 3), .mov (.k (.bool true)), none⟩])
 .ret)
 .skip))
 (.seq (.reg [⟨(some 29), .mov (.t 4), none⟩,
 ⟨(some 30), .convInt .i64 (.t 29), none⟩,
 ⟨(some 31), .un .neg (.t 30), none⟩,
 ⟨(some 2), .mov (.t 31), none⟩,
 ⟨(some 3), .mov (.k (.bool true)), none⟩])
 .ret)))))
 .skip))
 (.seq (.seq (.reg [⟨(some 32), .mov (.t 0), none⟩,
 ⟨(some 33), .call (.k (.func (.func 46) [] [])) [(.t 32)], none⟩,
 ⟨(some 34), .un .not (.t 33), none⟩])
 (.cond (.t 34) (.seq (.reg [⟨(some 2), .mov (.k (.int .i64 0)), none⟩,
 ⟨(some 3), .mov (.k (.bool false)), none⟩])
 .ret)
 .skip))
 (.seq (.reg [⟨(some 36), .mov (.t 0), none⟩,
 ⟨(some 37), .call (.k (.func (.func 47) [] [])) [(.t 36)], none⟩,
 ⟨(some 35), .mov (.t 37), none⟩,
 ⟨(some 38), .extract (.t 35) 0, none⟩,
 ⟨(some 39), .extract (.t 35) 1, none⟩,
 ⟨(some 6), .mov (.t 38), none⟩,
 ⟨(some 7), .mov (.t 39), none⟩])
 (.seq (.seq (.reg [⟨(some 40), .mov (.t 7), none⟩,
 ⟨(some 41), .mov (.t 40), none⟩,
 ⟨(some 42), .mov (.t 6), some (41, false)⟩,
 ⟨(some 43), .bin .eql (.t 42) (.k (.int .u64 9223372036854775808)), some (41, false)⟩,
 ⟨(some 44), .pick (.t 41) (.k (.bool true)) (.t 43), none⟩])
 (.cond (.t 44) (.seq (.reg [⟨(some 2), .mov (.k (.int .i64 0)), none⟩,
 ⟨(some 3), .mov (.k (.bool false)), none⟩])
 .ret)
 .skip))
 (.seq (.reg [⟨(some 45), .mov (.t 6), none⟩,
 ⟨(some 46), .convInt .i64 (.t 45), none⟩,
 ⟨(some 2), .mov (.t 46), none⟩,
 ⟨(some 3), .mov (.k (.bool true)), none⟩])
 .ret)))))),
 [], false⟩

def a31 : AFunc := ⟨8, [.tmp 4],
 (.seq (.reg [⟨(some 4), .mov (.k (.int .i64 0)), none⟩])
 (.seq (.reg [⟨(some 5), .mov (.t 0), none⟩,
 ⟨(some 6), .mov (.t 1), none⟩,
 ⟨(some 7), .call (.k (.func (.func 48) [] [])) [(.t 5), (.t 6)], none⟩,
 ⟨(some 4), .mov (.t 7), none⟩])
 .ret)),
 [], false⟩

def a32_0 : ACode := (.seq (.seq (.reg [⟨(some 9), .mov (.t 5), none⟩,
 ⟨(some 10), .bin .geq (.t 9) (.k (.int .i64 0)), none⟩])
 (.cond (.t 10) .skip
 (.exit 0)))
 (.seq (.block 1 (.seq (.reg [⟨(some 13), .mov (.t 0), none⟩,
 ⟨(some 14), .mov (.t 5), none⟩,
 ⟨(some 15), .indexStr (.t 13) (.t 14), none⟩,
 ⟨(some 16), .mov (.t 1), none⟩,
 ⟨(some 17), .bin .eql (.t 15) (.t 16), none⟩])
 (.cond (.t 17) (.seq (.reg [⟨(some 18), .mov (.t 5), none⟩,
 ⟨(some 4), .mov (.t 18), none⟩])
 .ret)
 .skip)))
 (.reg [⟨(some 11), .mov (.t 5), none⟩,
 ⟨(some 12), .bin .sub (.t 11) (.k (.int .i64 1)), none⟩,
 ⟨(some 5), .mov (.t 12), none⟩])))

def a32 : AFunc := ⟨19, [.tmp 4],
 (.seq (.reg [⟨(some 4), .mov (.k (.int .i64 0)), none⟩])
 (.seq (.seq (.reg [⟨(some 6), .mov (.t 0), none⟩,
 ⟨(some 7), .lenStr (.t 6), none⟩,
 ⟨(some 8), .bin .sub (.t 7) (.k (.int .i64 1)), none⟩,
 ⟨(some 5), .mov (.t 8), none⟩])
 (.block 0 (.loop a32_0)))
 (.seq (.reg [⟨(some 4), .mov (.k (.int .i64 (-1))), none⟩])
 .ret))),
 [], false⟩

def a35 : AFunc := ⟨19, [.tmp 4, .tmp 5],
 (.seq (.reg [⟨(some 4), .mov (.k (.int .i64 0)), none⟩,
 ⟨(some 5), .mov (.k .nilIface), none⟩])
 (.seq (.reg [⟨(some 6), .mov (.t 0), none⟩,
 ⟨(some 7), .call (.k (.func (.func 51) [] [])) [(.t 6)], none⟩])
 (.seq (.reg [⟨(some 8), .mov (.t 0), none⟩,
 ⟨(some 9), .mov (.t 0), none⟩,
 ⟨(some 10), .nilCheck (.t 9), none⟩,
 ⟨(some 11), .fieldAddr 1 1 false (.t 10), none⟩,
 ⟨(some 12), .load 1 false (.t 11), none⟩,
 ⟨(some 13), .mov (.t 1), none⟩,
 ⟨(some 14), .append 1 1 (some 5) (.t 12) (.t 13), none⟩,
 ⟨(some 15), .nilCheck (.t 8), none⟩,
 ⟨(some 16), .fieldAddr 1 1 false (.t 15), none⟩,
 ⟨none, .store 1 (.t 16) (.t 14), none⟩])
 (.seq (.reg [⟨(some 17), .mov (.t 1), none⟩,
 ⟨(some 18), .lenStr (.t 17), none⟩,
 ⟨(some 4), .mov (.t 18), none⟩,
 ⟨(some 5), .mov (.k .nilIface), none⟩])
 .ret)))),
 [], true⟩

def a37_0 : ACode := (.seq (.seq (.reg [⟨(some 7), .mov (.t 1), none⟩,
 ⟨(some 8), .mov (.t 0), none⟩,
 ⟨(some 9), .lenStr (.t 8), none⟩,
 ⟨(some 10), .bin .lss (.t 7) (.t 9), none⟩,
 ⟨(some 11), .mov (.t 10), none⟩,
 ⟨(some 12), .mov (.t 2), some (11, true)⟩,
 ⟨(some 13), .mov (.t 0), some (11, true)⟩,
 ⟨(some 14), .mov (.t 1), some (11, true)⟩,
 ⟨(some 15), .indexStr (.t 13) (.t 14), some (11, true)⟩,
 ⟨(some 16), .call (.t 12) [(.t 15)], some (11, true)⟩,
 ⟨(some 17), .pick (.t 11) (.t 16) (.k (.bool false)), none⟩])
 (.cond (.t 17) .skip
 (.exit 0)))
 (.block 1 (.reg [⟨(some 18), .mov (.t 1), none⟩,
 ⟨(some 19), .bin .add (.t 18) (.k (.int .i64 1)), none⟩,
 ⟨(some 1), .mov (.t 19), none⟩])))

def a37 : AFunc := ⟨21, [.tmp 6],
 (.seq (.reg [⟨(some 6), .mov (.k (.int .i64 0)), none⟩])
 (.seq (.block 0 (.loop a37_0))
 (.seq (.reg [⟨(some 20), .mov (.t 1), none⟩,
 ⟨(some 6), .mov (.t 20), none⟩])
 .ret))),
 [], false⟩

def a38 : AFunc := ⟨17, [.tmp 2],
 (.seq (.reg [⟨(some 2), .mov (.k (.bool false)), none⟩])
 (.seq (.reg [⟨(some 3), .mov (.t 0), none⟩,
 ⟨(some 4), .bin .eql (.t 3) (.k (.int .u8 32)), none⟩,
 ⟨(some 5), .mov (.t 4), none⟩,
 ⟨(some 6), .mov (.t 0), some (5, false)⟩,
 ⟨(some 7), .bin .eql (.t 6) (.k (.int .u8 9)), some (5, false)⟩,
 ⟨(some 8), .pick (.t 5) (.k (.bool true)) (.t 7), none⟩,
 ⟨(some 9), .mov (.t 8), none⟩,
 ⟨(some 10), .mov (.t 0), some (9, false)⟩,
 ⟨(some 11), .bin .eql (.t 10) (.k (.int .u8 10)), some (9, false)⟩,
 ⟨(some 12), .pick (.t 9) (.k (.bool true)) (.t 11), none⟩,
 ⟨(some 13), .mov (.t 12), none⟩,
 ⟨(some 14), .mov (.t 0), some (13, false)⟩,
 ⟨(some 15), .bin .eql (.t 14) (.k (.int .u8 13)), some (13, false)⟩,
 ⟨(some 16), .pick (.t 13) (.k (.bool true)) (.t 15), none⟩,
 ⟨(some 2), .mov (.t 16), none⟩])
 .ret)),
 [], false⟩

def a39 : AFunc := ⟨5, [.tmp 2],
 (.seq (.reg [⟨(some 2), .mov (.k (.bool false)), none⟩])
 (.seq (.reg [⟨(some 3), .mov (.t 0), none⟩,
 ⟨(some 4), .bin .neq (.t 3) (.k (.int .u8 10)), none⟩,
 ⟨(some 2), .mov (.t 4), none⟩])
 .ret)),
 [], false⟩

def a40 : AFunc := ⟨15, [.tmp 2],
 (.seq (.reg [⟨(some 2), .mov (.k (.bool false)), none⟩])
 (.seq (.reg [⟨(some 3), .mov (.t 0), none⟩,
 ⟨(some 4), .bin .or (.t 3) (.k (.int .u8 32)), none⟩,
 ⟨(some 5), .bin .geq (.t 4) (.k (.int .u8 97)), none⟩,
 ⟨(some 6), .mov (.t 5), none⟩,
 ⟨(some 7), .mov (.t 0), some (6, true)⟩,
 ⟨(some 8), .bin .or (.t 7) (.k (.int .u8 32)), some (6, true)⟩,
 ⟨(some 9), .bin .leq (.t 8) (.k (.int .u8 122)), some (6, true)⟩,
 ⟨(some 10), .pick (.t 6) (.t 9) (.k (.bool false)), none⟩,
 ⟨(some 11), .mov (.t 10), none⟩,
 ⟨(some 12), .mov (.t 0), some (11, false)⟩,
 ⟨(some 13), .bin .eql (.t 12) (.k (.int .u8 95)), some (11, false)⟩,
 ⟨(some 14), .pick (.t 11) (.k (.bool true)) (.t 13), none⟩,
 ⟨(some 2), .mov (.t 14), none⟩])
 .ret)),
 [], false⟩

def a41 : AFunc := ⟨9, [.tmp 2],
 (.seq (.reg [⟨(some 2), .mov (.k (.bool false)), none⟩])
 (.seq (.reg [⟨(some 3), .mov (.t 0), none⟩,
 ⟨(some 4), .call (.k (.func (.func 40) [] [])) [(.t 3)], none⟩,
 ⟨(some 5), .mov (.t 4), none⟩,
 ⟨(some 6), .mov (.t 0), some (5, false)⟩,
 ⟨(some 7), .call (.k (.func (.func 42) [] [])) [(.t 6)], some (5, false)⟩,
 ⟨(some 8), .pick (.t 5) (.k (.bool true)) (.t 7), none⟩,
 ⟨(some 2), .mov (.t 8), none⟩])
 .ret)),
 [], false⟩

def a42 : AFunc := ⟨9, [.tmp 2],
 (.seq (.reg [⟨(some 2), .mov (.k (.bool false)), none⟩])
 (.seq (.reg [⟨(some 3), .mov (.t 0), none⟩,
 ⟨(some 4), .bin .geq (.t 3) (.k (.int .u8 48)), none⟩,
 ⟨(some 5), .mov (.t 4), none⟩,
 ⟨(some 6), .mov (.t 0), some (5, true)⟩,
 ⟨(some 7), .bin .leq (.t 6) (.k (.int .u8 57)), some (5, true)⟩,
 ⟨(some 8), .pick (.t 5) (.t 7) (.k (.bool false)), none⟩,
 ⟨(some 2), .mov (.t 8), none⟩])
 .ret)),
 [], false⟩

def a43 : AFunc := ⟨32, [.tmp 4],
 (.seq (.reg [⟨(some 4), .mov (.k (.int .i64 0)), none⟩])
 (.seq (.reg [⟨(some 6), .mov (.t 0), none⟩,
 ⟨(some 7), .mov (.t 1), none⟩,
 ⟨(some 8), .call (.k (.func (.func 37) [] [])) [(.t 6), (.t 7), (.k (.func (.func 42) [] []))], none⟩,
 ⟨(some 5), .mov (.t 8), none⟩])
 (.seq (.seq (.reg [⟨(some 9), .mov (.t 5), none⟩,
 ⟨(some 10), .bin .add (.t 9) (.k (.int .i64 1)), none⟩,
 ⟨(some 11), .mov (.t 0), none⟩,
 ⟨(some 12), .lenStr (.t 11), none⟩,
 ⟨(some 13), .bin .lss (.t 10) (.t 12), none⟩,
 ⟨(some 14), .mov (.t 13), none⟩,
 ⟨(some 15), .mov (.t 0), some (14, true)⟩,
 ⟨(some 16), .mov (.t 5), some (14, true)⟩,
 ⟨(some 17), .indexStr (.t 15) (.t 16), some (14, true)⟩,
 ⟨(some 18), .bin .eql (.t 17) (.k (.int .u8 46)), some (14, true)⟩,
 ⟨(some 19), .pick (.t 14) (.t 18) (.k (.bool false)), none⟩,
 ⟨(some 20), .mov (.t 19), none⟩,
 ⟨(some 21), .mov (.t 0), some (20, true)⟩,
 ⟨(some 22), .mov (.t 5), some (20, true)⟩,
 ⟨(some 23), .bin .add (.t 22) (.k (.int .i64 1)), some (20, true)⟩,
 ⟨(some 24), .indexStr (.t 21) (.t 23), some (20, true)⟩,
 ⟨(some 25), .call (.k (.func (.func 42) [] [])) [(.t 24)], some (20, true)⟩,
 ⟨(some 26), .pick (.t 20) (.t 25) (.k (.bool false)), none⟩])
 (.cond (.t 26) (.reg [⟨(some 27), .mov (.t 0), none⟩,
 ⟨(some 28), .mov (.t 5), none⟩,
 ⟨(some 29), .bin .add (.t 28) (.k (.int .i64 1)), none⟩,
 ⟨(some 30), .call (.k (.func (.func 37) [] [])) [(.t 27), (.t 29), (.k (.func (.func 42) [] []))], none⟩,
 ⟨(some 5), .mov (.t 30), none⟩])
 .skip))
 (.seq (.reg [⟨(some 31), .mov (.t 5), none⟩,
 ⟨(some 4), .mov (.t 31), none⟩])
 .ret)))),
 [], false⟩

def a44 : AFunc := ⟨19, [.tmp 2, .tmp 3],
 (.seq (.reg [⟨(some 2), .mov (.k (.int .i64 0)), none⟩,
 ⟨(some 3), .mov (.k (.bool false)), none⟩])
 (.seq (.reg [⟨(some 7), .mov (.t 0), none⟩,
 ⟨(some 8), .call (.k (.func (.func 53) [] [])) [(.t 7)], none⟩,
 ⟨(some 6), .mov (.t 8), none⟩,
 ⟨(some 9), .extract (.t 6) 0, none⟩,
 ⟨(some 10), .extract (.t 6) 1, none⟩,
 ⟨(some 4), .mov (.t 9), none⟩,
 ⟨(some 5), .mov (.t 10), none⟩])
 (.seq (.seq (.reg [⟨(some 11), .mov (.t 5), none⟩,
 ⟨(some 12), .un .not (.t 11), none⟩,
 ⟨(some 13), .mov (.t 12), none⟩,
 ⟨(some 14), .mov (.t 4), some (13, false)⟩,
 ⟨(some 15), .bin .gtr (.t 14) (.k (.int .u64 9223372036854775807)), some (13, false)⟩,
 ⟨(some 16), .pick (.t 13) (.k (.bool true)) (.t 15), none⟩])
 (.cond (.t 16) (.seq (.reg [⟨(some 2), .mov (.k (.int .i64 0)), none⟩,
 ⟨(some 3), .mov (.k (.bool false)), none⟩])
 .ret)
 .skip))
 (.seq (.reg [⟨(some 17), .mov (.t 4), none⟩,
 ⟨(some 18), .convInt .i64 (.t 17), none⟩,
 ⟨(some 2), .mov (.t 18), none⟩,
 ⟨(some 3), .mov (.k (.bool true)), none⟩])
 .ret)))),
 [], false⟩

def a45_0 : ACode := (.seq (.reg [⟨(some 8), .bin .lss (.t 7) (.t 6), none⟩])
 (.seq (.cond (.t 8) .skip
 (.exit 0))
 (.seq (.block 1 (.seq (.reg [⟨(some 9), .indexAddr 1 false none (.t 5) (.t 7), none⟩,
 ⟨(some 10), .load 1 false (.t 9), none⟩,
 ⟨(some 4), .mov (.t 10), none⟩])
 (.seq (.reg [⟨(some 11), .mov (.t 0), none⟩,
 ⟨(some 12), .mov (.t 4), none⟩,
 ⟨(some 13), .call (.k (.func (.func 54) [] [])) [(.t 11), (.t 12)], none⟩])
 (.cond (.t 13) (.seq (.reg [⟨(some 14), .mov (.t 4), none⟩,
 ⟨(some 2), .mov (.t 14), none⟩])
 .ret)
 .skip))))
 (.reg [⟨(some 15), .bin .add (.t 7) (.k (.int .i64 1)), none⟩,
 ⟨(some 7), .mov (.t 15), none⟩]))))

def a45 : AFunc := ⟨22, [.tmp 2],
 (.seq (.reg [⟨(some 2), .mov (.k (.str [])), none⟩])
 (.seq (.seq (.reg [⟨(some 5), .call (.k (.func (.func 33) [] [])) [(.k (.str [45, 62, 32, 60, 61, 32, 61, 61]))], none⟩,
 ⟨(some 6), .lenSl (.t 5), none⟩,
 ⟨(some 7), .mov (.k (.int .i64 0)), none⟩])
 (.block 0 (.loop a45_0)))
 (.seq (.seq (.reg [⟨(some 16), .mov (.t 0), none⟩,
 ⟨(some 17), .indexStr (.t 16) (.k (.int .i64 0)), none⟩,
 ⟨(some 18), .call (.k (.func (.func 55) [] [])) [(.k (.str [40, 41, 123, 125, 44, 59, 58, 61, 43, 45, 42, 47, 60, 46])), (.t 17)], none⟩,
 ⟨(some 19), .bin .geq (.t 18) (.k (.int .i64 0)), none⟩])
 (.cond (.t 19) (.seq (.reg [⟨(some 20), .mov (.t 0), none⟩,
 ⟨(some 21), .sliceStr (.t 20) none (some (.k (.int .i64 1))), none⟩,
 ⟨(some 2), .mov (.t 21), none⟩])
 .ret)
 .skip))
 (.seq (.reg [⟨(some 2), .mov (.k (.str [])), none⟩])
 .ret)))),
 [], false⟩

def a46_0 : ACode := (.seq (.seq (.reg [⟨(some 7), .mov (.t 6), none⟩,
 ⟨(some 8), .mov (.t 0), none⟩,
 ⟨(some 9), .lenStr (.t 8), none⟩,
 ⟨(some 10), .bin .lss (.t 7) (.t 9), none⟩])
 (.cond (.t 10) .skip
 (.exit 0)))
 (.seq (.block 1 (.seq (.seq (.reg [⟨(some 13), .mov (.t 0), none⟩,
 ⟨(some 14), .mov (.t 6), none⟩,
 ⟨(some 15), .indexStr (.t 13) (.t 14), none⟩,
 ⟨(some 16), .bin .eql (.t 15) (.k (.int .u8 46)), none⟩])
 (.cond (.t 16) (.seq (.reg [⟨(some 17), .mov (.t 5), none⟩,
 ⟨(some 18), .bin .add (.t 17) (.k (.int .i64 1)), none⟩,
 ⟨(some 5), .mov (.t 18), none⟩])
 (.exit 1))
 .skip))
 (.seq (.seq (.reg [⟨(some 19), .mov (.t 0), none⟩,
 ⟨(some 20), .mov (.t 6), none⟩,
 ⟨(some 21), .indexStr (.t 19) (.t 20), none⟩,
 ⟨(some 22), .bin .lss (.t 21) (.k (.int .u8 48)), none⟩,
 ⟨(some 23), .mov (.t 22), none⟩,
 ⟨(some 24), .mov (.t 0), some (23, false)⟩,
 ⟨(some 25), .mov (.t 6), some (23, false)⟩,
 ⟨(some 26), .indexStr (.t 24) (.t 25), some (23, false)⟩,
 ⟨(some 27), .bin .gtr (.t 26) (.k (.int .u8 57)), some (23, false)⟩,
 ⟨(some 28), .pick (.t 23) (.k (.bool true)) (.t 27), none⟩])
 (.cond (.t 28) (.seq (.reg [⟨(some 2), .mov (.k (.bool false)), none⟩])
 .ret)
 .skip))
 (.seq (.reg [⟨(some 29), .mov (.t 5), none⟩,
 ⟨(some 30), .bin .eql (.t 29) (.k (.int .i64 0)), none⟩])
 (.cond (.t 30) (.reg [⟨(some 31), .mov (.t 3), none⟩,
 ⟨(some 32), .bin .add (.t 31) (.k (.int .i64 1)), none⟩,
 ⟨(some 3), .mov (.t 32), none⟩])
 (.reg [⟨(some 33), .mov (.t 4), none⟩,
 ⟨(some 34), .bin .add (.t 33) (.k (.int .i64 1)), none⟩,
 ⟨(some 4), .mov (.t 34), none⟩]))))))
 (.reg [⟨(some 11), .mov (.t 6), none⟩,
 ⟨(some 12), .bin .add (.t 11) (.k (.int .i64 1)), none⟩,
 ⟨(some 6), .mov (.t 12), none⟩])))

def a46 : AFunc := ⟨64, [.tmp 2],
 (.seq (.reg [⟨(some 2), .mov (.k (.bool false)), none⟩])
 (.seq (.reg [⟨(some 3), .mov (.k (.int .i64 0)), none⟩,
 ⟨(some 4), .mov (.k (.int .i64 0)), none⟩,
 ⟨(some 5), .mov (.k (.int .i64 0)), none⟩])
 (.seq (.seq (.reg [⟨(some 6), .mov (.k (.int .i64 0)), none⟩])
 (.block 0 (.loop a46_0)))
 (.seq (.seq (.reg [⟨(some 35), .mov (.t 3), none⟩,
 ⟨(some 36), .bin .lss (.t 35) (.k (.int .i64 1)), none⟩,
 ⟨(some 37), .mov (.t 36), none⟩,
 ⟨(some 38), .mov (.t 3), some (37, false)⟩,
 ⟨(some 39), .bin .gtr (.t 38) (.k (.int .i64 10)), some (37, false)⟩,
 ⟨(some 40), .pick (.t 37) (.k (.bool true)) (.t 39), none⟩,
 ⟨(some 41), .mov (.t 40), none⟩,
 ⟨(some 42), .mov (.t 5), some (41, false)⟩,
 ⟨(some 43), .bin .gtr (.t 42) (.k (.int .i64 1)), some (41, false)⟩,
 ⟨(some 44), .pick (.t 41) (.k (.bool true)) (.t 43), none⟩,
 ⟨(some 45), .mov (.t 44), none⟩,
 ⟨(some 46), .mov (.t 5), some (45, false)⟩,
 ⟨(some 47), .bin .eql (.t 46) (.k (.int .i64 1)), some (45, false)⟩,
 ⟨(some 48), .mov (.t 47), some (45, false)⟩,
 ⟨(some 49), .mov (.t 4), some (48, true)⟩,
 ⟨(some 50), .bin .lss (.t 49) (.k (.int .i64 1)), some (48, true)⟩,
 ⟨(some 51), .mov (.t 50), some (48, true)⟩,
 ⟨(some 52), .mov (.t 4), some (51, false)⟩,
 ⟨(some 53), .bin .gtr (.t 52) (.k (.int .i64 40)), some (51, false)⟩,
 ⟨(some 54), .pick (.t 51) (.k (.bool true)) (.t 53), some (48, true)⟩,
 ⟨(some 55), .pick (.t 48) (.t 54) (.k (.bool false)), some (45, false)⟩,
 ⟨(some 56), .pick (.t 45) (.k (.bool true)) (.t 55), none⟩])
 (.cond (.t 56) (.seq (.reg [⟨(some 2), .mov (.k (.bool false)), none⟩])
 .ret)
 .skip))
 (.seq (.reg [⟨(some 57), .mov (.t 3), none⟩,
 ⟨(some 58), .bin .eql (.t 57) (.k (.int .i64 1)), none⟩,
 ⟨(some 59), .mov (.t 58), none⟩,
 ⟨(some 60), .mov (.t 0), some (59, false)⟩,
 ⟨(some 61), .indexStr (.t 60) (.k (.int .i64 0)), some (59, false)⟩,
 ⟨(some 62), .bin .neq (.t 61) (.k (.int .u8 48)), some (59, false)⟩,
 ⟨(some 63), .pick (.t 59) (.k (.bool true)) (.t 62), none⟩,
 ⟨(some 2), .mov (.t 63), none⟩])
 .ret))))),
 [], false⟩

def a47_0 : ACode := (.seq (.seq (.reg [⟨(some 58), .mov (.t 10), none⟩,
 ⟨(some 59), .bin .geq (.t 58) (.k (.int .i64 0)), none⟩])
 (.cond (.t 59) .skip
 (.exit 6)))
 (.seq (.block 7 (.seq (.reg [⟨(some 62), .mov (.t 6), none⟩,
 ⟨(some 63), .mov (.t 10), none⟩,
 ⟨(some 64), .indexAddr 1 false none (.t 62) (.t 63), none⟩,
 ⟨(some 65), .load 1 false (.t 64), none⟩,
 ⟨(some 66), .bin .mul (.k (.int .i64 2)) (.t 65), none⟩,
 ⟨(some 67), .mov (.t 9), none⟩,
 ⟨(some 68), .bin .add (.t 66) (.t 67), none⟩,
 ⟨(some 11), .mov (.t 68), none⟩])
 (.seq (.reg [⟨(some 69), .mov (.t 6), none⟩,
 ⟨(some 70), .mov (.t 10), none⟩,
 ⟨(some 71), .mov (.t 11), none⟩,
 ⟨(some 72), .bin .rem (.t 71) (.k (.int .i64 10)), none⟩,
 ⟨(some 73), .indexAddr 1 false none (.t 69) (.t 70), none⟩,
 ⟨none, .store 1 (.t 73) (.t 72), none⟩])
 (.reg [⟨(some 74), .mov (.t 11), none⟩,
 ⟨(some 75), .bin .quo (.t 74) (.k (.int .i64 10)), none⟩,
 ⟨(some 9), .mov (.t 75), none⟩]))))
 (.reg [⟨(some 60), .mov (.t 10), none⟩,
 ⟨(some 61), .bin .sub (.t 60) (.k (.int .i64 1)), none⟩,
 ⟨(some 10), .mov (.t 61), none⟩])))

def a47_1 : ACode := (.seq (.seq (.reg [⟨(some 51), .mov (.t 8), none⟩,
 ⟨(some 52), .bin .lss (.t 51) (.k (.int .i64 32)), none⟩])
 (.cond (.t 52) .skip
 (.exit 4)))
 (.seq (.block 5 (.seq (.reg [⟨(some 9), .mov (.k (.int .i64 0)), none⟩])
 (.seq (.seq (.reg [⟨(some 55), .mov (.t 6), none⟩,
 ⟨(some 56), .lenSl (.t 55), none⟩,
 ⟨(some 57), .bin .sub (.t 56) (.k (.int .i64 1)), none⟩,
 ⟨(some 10), .mov (.t 57), none⟩])
 (.block 6 (.loop a47_0)))
 (.reg [⟨(some 76), .mov (.t 7), none⟩,
 ⟨(some 77), .bin .mul (.k (.int .u64 2)) (.t 76), none⟩,
 ⟨(some 78), .mov (.t 9), none⟩,
 ⟨(some 79), .convInt .u64 (.t 78), none⟩,
 ⟨(some 80), .bin .add (.t 77) (.t 79), none⟩,
 ⟨(some 7), .mov (.t 80), none⟩]))))
 (.reg [⟨(some 53), .mov (.t 8), none⟩,
 ⟨(some 54), .bin .add (.t 53) (.k (.int .i64 1)), none⟩,
 ⟨(some 8), .mov (.t 54), none⟩])))

def a47_2 : ACode := (.seq (.seq (.reg [⟨(some 34), .mov (.t 5), none⟩,
 ⟨(some 35), .mov (.t 0), none⟩,
 ⟨(some 36), .lenStr (.t 35), none⟩,
 ⟨(some 37), .bin .lss (.t 34) (.t 36), none⟩])
 (.cond (.t 37) .skip
 (.exit 2)))
 (.seq (.block 3 (.reg [⟨(some 40), .mov (.t 6), none⟩,
 ⟨(some 41), .mov (.t 0), none⟩,
 ⟨(some 42), .mov (.t 5), none⟩,
 ⟨(some 43), .indexStr (.t 41) (.t 42), none⟩,
 ⟨(some 44), .convInt .i64 (.t 43), none⟩,
 ⟨(some 45), .bin .sub (.t 44) (.k (.int .i64 48)), none⟩,
 ⟨(some 46), .mkLit 1 [(.int .i64 0)] [(0, 1, (.t 45))] false, none⟩,
 ⟨(some 47), .appendM 1 8 (.t 40) (.t 46), none⟩,
 ⟨(some 6), .mov (.t 47), none⟩]))
 (.reg [⟨(some 38), .mov (.t 5), none⟩,
 ⟨(some 39), .bin .add (.t 38) (.k (.int .i64 1)), none⟩,
 ⟨(some 5), .mov (.t 39), none⟩])))

def a47_3 : ACode := (.seq (.seq (.reg [⟨(some 12), .mov (.t 5), none⟩,
 ⟨(some 13), .mov (.t 0), none⟩,
 ⟨(some 14), .lenStr (.t 13), none⟩,
 ⟨(some 15), .bin .lss (.t 12) (.t 14), none⟩,
 ⟨(some 16), .mov (.t 15), none⟩,
 ⟨(some 17), .mov (.t 0), some (16, true)⟩,
 ⟨(some 18), .mov (.t 5), some (16, true)⟩,
 ⟨(some 19), .indexStr (.t 17) (.t 18), some (16, true)⟩,
 ⟨(some 20), .bin .neq (.t 19) (.k (.int .u8 46)), some (16, true)⟩,
 ⟨(some 21), .pick (.t 16) (.t 20) (.k (.bool false)), none⟩])
 (.cond (.t 21) .skip
 (.exit 0)))
 (.block 1 (.seq (.reg [⟨(some 22), .mov (.t 4), none⟩,
 ⟨(some 23), .bin .mul (.k (.int .u64 10)) (.t 22), none⟩,
 ⟨(some 24), .mov (.t 0), none⟩,
 ⟨(some 25), .mov (.t 5), none⟩,
 ⟨(some 26), .indexStr (.t 24) (.t 25), none⟩,
 ⟨(some 27), .bin .sub (.t 26) (.k (.int .u8 48)), none⟩,
 ⟨(some 28), .convInt .u64 (.t 27), none⟩,
 ⟨(some 29), .bin .add (.t 23) (.t 28), none⟩,
 ⟨(some 4), .mov (.t 29), none⟩])
 (.reg [⟨(some 30), .mov (.t 5), none⟩,
 ⟨(some 31), .bin .add (.t 30) (.k (.int .i64 1)), none⟩,
 ⟨(some 5), .mov (.t 31), none⟩]))))

def a47 : AFunc := ⟨84, [.tmp 2, .tmp 3],
 (.seq (.reg [⟨(some 2), .mov (.k (.int .u64 0)), none⟩,
 ⟨(some 3), .mov (.k (.bool false)), none⟩])
 (.seq (.reg [⟨(some 4), .mov (.k (.int .u64 0)), none⟩])
 (.seq (.reg [⟨(some 5), .mov (.k (.int .i64 0)), none⟩])
 (.seq (.block 0 (.loop a47_3))
 (.seq (.reg [⟨(some 6), .mov (.k (.lst 1 [] .tight)), none⟩])
 (.seq (.seq (.reg [⟨(some 32), .mov (.t 5), none⟩,
 ⟨(some 33), .bin .add (.t 32) (.k (.int .i64 1)), none⟩,
 ⟨(some 5), .mov (.t 33), none⟩])
 (.block 2 (.loop a47_2)))
 (.seq (.seq (.reg [⟨(some 48), .mov (.t 4), none⟩,
 ⟨(some 49), .bin .gtr (.t 48) (.k (.int .u64 2147483648)), none⟩])
 (.cond (.t 49) (.seq (.reg [⟨(some 2), .mov (.k (.int .u64 0)), none⟩,
 ⟨(some 3), .mov (.k (.bool true)), none⟩])
 .ret)
 .skip))
 (.seq (.reg [⟨(some 50), .mov (.t 4), none⟩,
 ⟨(some 7), .mov (.t 50), none⟩])
 (.seq (.seq (.reg [⟨(some 8), .mov (.k (.int .i64 0)), none⟩])
 (.block 4 (.loop a47_1)))
 (.seq (.reg [⟨(some 81), .mov (.t 7), none⟩,
 ⟨(some 82), .mov (.t 7), none⟩,
 ⟨(some 83), .bin .gtr (.t 82) (.k (.int .u64 9223372036854775808)), none⟩,
 ⟨(some 2), .mov (.t 81), none⟩,
 ⟨(some 3), .mov (.t 83), none⟩])
 .ret)))))))))),
 [], false⟩

def a53 : AFunc := ⟨34, [.tmp 2, .tmp 3],
 (.seq (.reg [⟨(some 2), .mov (.k (.int .u64 0)), none⟩,
 ⟨(some 3), .mov (.k (.bool false)), none⟩])
 (.seq (.reg [⟨(some 10), .mov (.t 0), none⟩,
 ⟨(some 11), .call (.k (.func (.func 63) [] [])) [(.t 10)], none⟩,
 ⟨(some 9), .mov (.t 11), none⟩,
 ⟨(some 12), .extract (.t 9) 0, none⟩,
 ⟨(some 13), .extract (.t 9) 1, none⟩,
 ⟨(some 14), .extract (.t 9) 2, none⟩,
 ⟨(some 4), .mov (.t 12), none⟩,
 ⟨(some 5), .mov (.t 13), none⟩,
 ⟨(some 6), .mov (.t 14), none⟩])
 (.seq (.seq (.reg [⟨(some 15), .mov (.t 6), none⟩,
 ⟨(some 16), .un .not (.t 15), none⟩])
 (.cond (.t 16) (.seq (.reg [⟨(some 2), .mov (.k (.int .u64 0)), none⟩,
 ⟨(some 3), .mov (.k (.bool false)), none⟩])
 .ret)
 .skip))
 (.seq (.reg [⟨(some 18), .mov (.t 4), none⟩,
 ⟨(some 19), .call (.k (.func (.func 64) [] [])) [(.t 18), (.k (.int .i64 10)), (.k (.int .i64 64))], none⟩,
 ⟨(some 17), .mov (.t 19), none⟩,
 ⟨(some 20), .extract (.t 17) 0, none⟩,
 ⟨(some 21), .extract (.t 17) 1, none⟩,
 ⟨(some 7), .mov (.t 20), none⟩,
 ⟨(some 8), .mov (.t 21), none⟩])
 (.seq (.seq (.reg [⟨(some 22), .mov (.t 8), none⟩,
 ⟨(some 23), .eqIface true (.t 22) (.k .nilIface), none⟩,
 ⟨(some 24), .mov (.t 23), none⟩,
 ⟨(some 25), .mov (.t 7), some (24, false)⟩,
 ⟨(some 26), .bin .gtr (.t 25) (.k (.int .u64 4294967295)), some (24, false)⟩,
 ⟨(some 27), .pick (.t 24) (.k (.bool true)) (.t 26), none⟩])
 (.cond (.t 27) (.seq (.reg [⟨(some 2), .mov (.k (.int .u64 18446744073709551615)), none⟩,
 ⟨(some 3), .mov (.k (.bool true)), none⟩])
 .ret)
 .skip))
 (.seq (.reg [⟨(some 28), .mov (.t 7), none⟩,
 ⟨(some 29), .bin .shl (.t 28) (.k (.int .u64 32)), none⟩,
 ⟨(some 30), .mov (.t 5), none⟩,
 ⟨(some 31), .call (.k (.func (.func 65) [] [])) [(.t 30)], none⟩,
 ⟨(some 32), .convInt .u64 (.t 31), none⟩,
 ⟨(some 33), .bin .or (.t 29) (.t 32), none⟩,
 ⟨(some 2), .mov (.t 33), none⟩,
 ⟨(some 3), .mov (.k (.bool true)), none⟩])
 .ret)))))),
 [], false⟩

def a54 : AFunc := ⟨8, [.tmp 4],
 (.seq (.reg [⟨(some 4), .mov (.k (.bool false)), none⟩])
 (.seq (.reg [⟨(some 5), .mov (.t 0), none⟩,
 ⟨(some 6), .mov (.t 1), none⟩,
 ⟨(some 7), .call (.k (.func (.func 66) [] [])) [(.t 5), (.t 6)], none⟩,
 ⟨(some 4), .mov (.t 7), none⟩])
 .ret)),
 [], false⟩

def a56 : AFunc := ⟨8, [.tmp 4],
 (.seq (.reg [⟨(some 4), .mov (.k (.int .i64 0)), none⟩])
 (.seq (.reg [⟨(some 5), .mov (.t 0), none⟩,
 ⟨(some 6), .mov (.t 1), none⟩,
 ⟨(some 7), .call (.k (.func (.func 67) [] [])) [(.t 5), (.t 6)], none⟩,
 ⟨(some 4), .mov (.t 7), none⟩])
 .ret)),
 [], false⟩

def a58 : AFunc := ⟨6, [.tmp 2],
 (.seq (.reg [⟨(some 2), .mov (.k (.int .i64 0)), none⟩])
 (.seq (.reg [⟨(some 3), .mov (.t 0), none⟩,
 ⟨(some 4), .bin .add (.t 3) (.k (.int .i64 16)), none⟩,
 ⟨(some 5), .bin .quo (.t 4) (.k (.int .i64 8)), none⟩,
 ⟨(some 2), .mov (.t 5), none⟩])
 .ret)),
 [], false⟩

def a59_0 : ACode := (.seq (.seq (.reg [⟨(some 41), .mov (.t 10), none⟩,
 ⟨(some 42), .mov (.t 0), none⟩,
 ⟨(some 43), .lenStr (.t 42), none⟩,
 ⟨(some 44), .bin .lss (.t 41) (.t 43), none⟩])
 (.cond (.t 44) .skip
 (.exit 2)))
 (.block 3 (.seq (.reg [⟨(some 45), .mov (.t 8), none⟩,
 ⟨(some 46), .bin .mul (.t 45) (.k (.int .u32 16777619)), none⟩,
 ⟨(some 8), .mov (.t 46), none⟩])
 (.seq (.reg [⟨(some 47), .mov (.t 8), none⟩,
 ⟨(some 48), .mov (.t 0), none⟩,
 ⟨(some 49), .mov (.t 10), none⟩,
 ⟨(some 50), .indexStr (.t 48) (.t 49), none⟩,
 ⟨(some 51), .convInt .u32 (.t 50), none⟩,
 ⟨(some 52), .bin .add (.t 47) (.t 51), none⟩,
 ⟨(some 8), .mov (.t 52), none⟩])
 (.seq (.reg [⟨(some 53), .mov (.t 8), none⟩,
 ⟨(some 54), .mov (.t 6), none⟩,
 ⟨(some 55), .mov (.t 0), none⟩,
 ⟨(some 56), .mov (.t 10), none⟩,
 ⟨(some 57), .mov (.t 7), none⟩,
 ⟨(some 58), .bin .sub (.t 56) (.t 57), none⟩,
 ⟨(some 59), .indexStr (.t 55) (.t 58), none⟩,
 ⟨(some 60), .convInt .u32 (.t 59), none⟩,
 ⟨(some 61), .bin .mul (.t 54) (.t 60), none⟩,
 ⟨(some 62), .bin .sub (.t 53) (.t 61), none⟩,
 ⟨(some 8), .mov (.t 62), none⟩])
 (.seq (.reg [⟨(some 63), .mov (.t 10), none⟩,
 ⟨(some 64), .bin .add (.t 63) (.k (.int .i64 1)), none⟩,
 ⟨(some 10), .mov (.t 64), none⟩])
 (.seq (.reg [⟨(some 65), .mov (.t 8), none⟩,
 ⟨(some 66), .mov (.t 5), none⟩,
 ⟨(some 67), .bin .eql (.t 65) (.t 66), none⟩,
 ⟨(some 68), .mov (.t 67), none⟩,
 ⟨(some 69), .mov (.t 0), some (68, true)⟩,
 ⟨(some 70), .mov (.t 10), some (68, true)⟩,
 ⟨(some 71), .mov (.t 7), some (68, true)⟩,
 ⟨(some 72), .bin .sub (.t 70) (.t 71), some (68, true)⟩,
 ⟨(some 73), .mov (.t 10), some (68, true)⟩,
 ⟨(some 74), .sliceStr (.t 69) (some (.t 72)) (some (.t 73)), some (68, true)⟩,
 ⟨(some 75), .mov (.t 1), some (68, true)⟩,
 ⟨(some 76), .bin .eql (.t 74) (.t 75), some (68, true)⟩,
 ⟨(some 77), .pick (.t 68) (.t 76) (.k (.bool false)), none⟩])
 (.cond (.t 77) (.seq (.reg [⟨(some 78), .mov (.t 10), none⟩,
 ⟨(some 79), .mov (.t 7), none⟩,
 ⟨(some 80), .bin .sub (.t 78) (.t 79), none⟩,
 ⟨(some 4), .mov (.t 80), none⟩])
 .ret)
 .skip))))))))

def a59_1 : ACode := (.seq (.seq (.reg [⟨(some 18), .mov (.t 9), none⟩,
 ⟨(some 19), .mov (.t 7), none⟩,
 ⟨(some 20), .bin .lss (.t 18) (.t 19), none⟩])
 (.cond (.t 20) .skip
 (.exit 0)))
 (.seq (.block 1 (.reg [⟨(some 23), .mov (.t 8), none⟩,
 ⟨(some 24), .bin .mul (.t 23) (.k (.int .u32 16777619)), none⟩,
 ⟨(some 25), .mov (.t 0), none⟩,
 ⟨(some 26), .mov (.t 9), none⟩,
 ⟨(some 27), .indexStr (.t 25) (.t 26), none⟩,
 ⟨(some 28), .convInt .u32 (.t 27), none⟩,
 ⟨(some 29), .bin .add (.t 24) (.t 28), none⟩,
 ⟨(some 8), .mov (.t 29), none⟩]))
 (.reg [⟨(some 21), .mov (.t 9), none⟩,
 ⟨(some 22), .bin .add (.t 21) (.k (.int .i64 1)), none⟩,
 ⟨(some 9), .mov (.t 22), none⟩])))

def a59 : AFunc := ⟨81, [.tmp 4],
 (.seq (.reg [⟨(some 4), .mov (.k (.int .i64 0)), none⟩])
 (.seq (.reg [⟨(some 12), .mov (.t 1), none⟩,
 ⟨(some 13), .call (.k (.func (.func 68) [] [])) [(.t 12)], none⟩,
 ⟨(some 11), .mov (.t 13), none⟩,
 ⟨(some 14), .extract (.t 11) 0, none⟩,
 ⟨(some 15), .extract (.t 11) 1, none⟩,
 ⟨(some 5), .mov (.t 14), none⟩,
 ⟨(some 6), .mov (.t 15), none⟩])
 (.seq (.reg [⟨(some 16), .mov (.t 1), none⟩,
 ⟨(some 17), .lenStr (.t 16), none⟩,
 ⟨(some 7), .mov (.t 17), none⟩])
 (.seq (.reg [⟨(some 8), .mov (.k (.int .u32 0)), none⟩])
 (.seq (.seq (.reg [⟨(some 9), .mov (.k (.int .i64 0)), none⟩])
 (.block 0 (.loop a59_1)))
 (.seq (.seq (.reg [⟨(some 30), .mov (.t 8), none⟩,
 ⟨(some 31), .mov (.t 5), none⟩,
 ⟨(some 32), .bin .eql (.t 30) (.t 31), none⟩,
 ⟨(some 33), .mov (.t 32), none⟩,
 ⟨(some 34), .mov (.t 0), some (33, true)⟩,
 ⟨(some 35), .mov (.t 7), some (33, true)⟩,
 ⟨(some 36), .sliceStr (.t 34) none (some (.t 35)), some (33, true)⟩,
 ⟨(some 37), .mov (.t 1), some (33, true)⟩,
 ⟨(some 38), .bin .eql (.t 36) (.t 37), some (33, true)⟩,
 ⟨(some 39), .pick (.t 33) (.t 38) (.k (.bool false)), none⟩])
 (.cond (.t 39) (.seq (.reg [⟨(some 4), .mov (.k (.int .i64 0)), none⟩])
 .ret)
 .skip))
 (.seq (.seq (.reg [⟨(some 40), .mov (.t 7), none⟩,
 ⟨(some 10), .mov (.t 40), none⟩])
 (.block 2 (.loop a59_0)))
 (.seq (.reg [⟨(some 4), .mov (.k (.int .i64 (-1))), none⟩])
 .ret)))))))),
 [], false⟩

def a60 : AFunc := ⟨59, [.tmp 4],
 (.seq (.reg [⟨(some 4), .mov (.k (.bool false)), none⟩])
 (.seq (.reg [⟨(some 8), .mov (.t 0), none⟩,
 ⟨(some 9), .nilCheck (.t 8), none⟩,
 ⟨(some 10), .fieldAddr 0 1 false (.t 9), none⟩,
 ⟨(some 11), .load 1 false (.t 10), none⟩,
 ⟨(some 5), .mov (.t 11), none⟩])
 (.seq (.seq (.reg [⟨(some 12), .mov (.t 0), none⟩,
 ⟨(some 13), .nilCheck (.t 12), none⟩,
 ⟨(some 14), .fieldAddr 2 1 false (.t 13), none⟩,
 ⟨(some 15), .load 1 false (.t 14), none⟩,
 ⟨(some 6), .mov (.t 15), none⟩])
 (.seq (.reg [⟨(some 16), .mov (.t 5), none⟩,
 ⟨(some 17), .lenSl (.t 16), none⟩,
 ⟨(some 18), .mov (.t 6), none⟩,
 ⟨(some 19), .bin .gtr (.t 17) (.t 18), none⟩,
 ⟨(some 20), .mov (.t 19), none⟩,
 ⟨(some 21), .mov (.t 1), some (20, true)⟩,
 ⟨(some 22), .convInt .u32 (.t 21), some (20, true)⟩,
 ⟨(some 23), .mov (.t 5), some (20, true)⟩,
 ⟨(some 24), .mov (.t 5), some (20, true)⟩,
 ⟨(some 25), .lenSl (.t 24), some (20, true)⟩,
 ⟨(some 26), .bin .sub (.t 25) (.k (.int .i64 1)), some (20, true)⟩,
 ⟨(some 27), .indexAddr 3 true none (.t 23) (.t 26), some (20, true)⟩,
 ⟨(some 28), .fieldAddr 1 1 false (.t 27), some (20, true)⟩,
 ⟨(some 29), .load 1 false (.t 28), some (20, true)⟩,
 ⟨(some 30), .convInt .u32 (.t 29), some (20, true)⟩,
 ⟨(some 31), .bin .leq (.t 22) (.t 30), some (20, true)⟩,
 ⟨(some 32), .pick (.t 20) (.t 31) (.k (.bool false)), none⟩])
 (.cond (.t 32) (.seq (.reg [⟨(some 33), .mov (.t 5), none⟩,
 ⟨(some 34), .mov (.t 6), none⟩,
 ⟨(some 35), .sliceLst 3 (.t 33) (some (.t 34)) none none, none⟩,
 ⟨(some 36), .mov (.t 1), none⟩,
 ⟨(some 37), .convInt .u16 (.t 36), none⟩,
 ⟨(some 38), .call (.k (.func (.func 69) [] [])) [(.t 35), (.t 37)], none⟩,
 ⟨(some 4), .mov (.t 38), none⟩])
 .ret)
 .skip)))
 (.seq (.reg [⟨(some 39), .mov (.t 0), none⟩,
 ⟨(some 40), .nilCheck (.t 39), none⟩,
 ⟨(some 41), .fieldAddr 1 1 false (.t 40), none⟩,
 ⟨(some 42), .load 1 false (.t 41), none⟩,
 ⟨(some 7), .mov (.t 42), none⟩])
 (.seq (.seq (.reg [⟨(some 43), .mov (.t 7), none⟩,
 ⟨(some 44), .lenSl (.t 43), none⟩,
 ⟨(some 45), .bin .gtr (.t 44) (.k (.int .i64 0)), none⟩,
 ⟨(some 46), .mov (.t 45), none⟩,
 ⟨(some 47), .mov (.t 1), some (46, true)⟩,
 ⟨(some 48), .mov (.t 7), some (46, true)⟩,
 ⟨(some 49), .indexAddr 3 true none (.t 48) (.k (.int .i64 0)), some (46, true)⟩,
 ⟨(some 50), .fieldAddr 0 1 false (.t 49), some (46, true)⟩,
 ⟨(some 51), .load 1 false (.t 50), some (46, true)⟩,
 ⟨(some 52), .convInt .i32 (.t 51), some (46, true)⟩,
 ⟨(some 53), .bin .geq (.t 47) (.t 52), some (46, true)⟩,
 ⟨(some 54), .pick (.t 46) (.t 53) (.k (.bool false)), none⟩])
 (.cond (.t 54) (.seq (.reg [⟨(some 55), .mov (.t 7), none⟩,
 ⟨(some 56), .mov (.t 1), none⟩,
 ⟨(some 57), .convInt .u32 (.t 56), none⟩,
 ⟨(some 58), .call (.k (.func (.func 70) [] [])) [(.t 55), (.t 57)], none⟩,
 ⟨(some 4), .mov (.t 58), none⟩])
 .ret)
 .skip))
 (.seq (.reg [⟨(some 4), .mov (.k (.bool false)), none⟩])
 .ret)))))),
 [], true⟩

def a63 : AFunc := ⟨37, [.tmp 2, .tmp 3, .tmp 4],
 (.seq (.reg [⟨(some 2), .mov (.k (.str [])), none⟩,
 ⟨(some 3), .mov (.k (.str [])), none⟩,
 ⟨(some 4), .mov (.k (.bool false)), none⟩])
 (.seq (.reg [⟨(some 9), .mov (.t 0), none⟩,
 ⟨(some 10), .call (.k (.func (.func 71) [] [])) [(.t 9), (.k (.str [46]))], none⟩,
 ⟨(some 8), .mov (.t 10), none⟩,
 ⟨(some 11), .extract (.t 8) 0, none⟩,
 ⟨(some 12), .extract (.t 8) 1, none⟩,
 ⟨(some 13), .extract (.t 8) 2, none⟩,
 ⟨(some 5), .mov (.t 11), none⟩,
 ⟨(some 6), .mov (.t 12), none⟩,
 ⟨(some 7), .mov (.t 13), none⟩])
 (.seq (.seq (.reg [⟨(some 14), .mov (.t 5), none⟩,
 ⟨(some 15), .call (.k (.func (.func 72) [] [])) [(.t 14), (.k (.int .i64 10))], none⟩,
 ⟨(some 16), .un .not (.t 15), none⟩,
 ⟨(some 17), .mov (.t 16), none⟩,
 ⟨(some 18), .mov (.t 5), some (17, false)⟩,
 ⟨(some 19), .lenStr (.t 18), some (17, false)⟩,
 ⟨(some 20), .bin .gtr (.t 19) (.k (.int .i64 1)), some (17, false)⟩,
 ⟨(some 21), .mov (.t 20), some (17, false)⟩,
 ⟨(some 22), .mov (.t 5), some (21, true)⟩,
 ⟨(some 23), .indexStr (.t 22) (.k (.int .i64 0)), some (21, true)⟩,
 ⟨(some 24), .bin .eql (.t 23) (.k (.int .u8 48)), some (21, true)⟩,
 ⟨(some 25), .pick (.t 21) (.t 24) (.k (.bool false)), some (17, false)⟩,
 ⟨(some 26), .pick (.t 17) (.k (.bool true)) (.t 25), none⟩,
 ⟨(some 27), .mov (.t 26), none⟩,
 ⟨(some 28), .mov (.t 7), some (27, false)⟩,
 ⟨(some 29), .mov (.t 28), some (27, false)⟩,
 ⟨(some 30), .mov (.t 6), some (29, true)⟩,
 ⟨(some 31), .call (.k (.func (.func 72) [] [])) [(.t 30), (.k (.int .i64 40))], some (29, true)⟩,
 ⟨(some 32), .un .not (.t 31), some (29, true)⟩,
 ⟨(some 33), .pick (.t 29) (.t 32) (.k (.bool false)), some (27, false)⟩,
 ⟨(some 34), .pick (.t 27) (.k (.bool true)) (.t 33), none⟩])
 (.cond (.t 34) (.seq (.reg [⟨(some 2), .mov (.k (.str [])), none⟩,
 ⟨(some 3), .mov (.k (.str [])), none⟩,
 ⟨(some 4), .mov (.k (.bool false)), none⟩])
 .ret)
 .skip))
 (.seq (.reg [⟨(some 35), .mov (.t 5), none⟩,
 ⟨(some 36), .mov (.t 6), none⟩,
 ⟨(some 2), .mov (.t 35), none⟩,
 ⟨(some 3), .mov (.t 36), none⟩,
 ⟨(some 4), .mov (.k (.bool true)), none⟩])
 .ret)))),
 [], false⟩

def a64 : AFunc := ⟨26, [.tmp 6, .tmp 7],
 (.seq (.reg [⟨(some 6), .mov (.k (.int .u64 0)), none⟩,
 ⟨(some 7), .mov (.k .nilIface), none⟩])
 (.seq (.reg [⟨(some 11), .mov (.t 0), none⟩,
 ⟨(some 12), .mov (.t 1), none⟩,
 ⟨(some 13), .mov (.t 2), none⟩,
 ⟨(some 14), .call (.k (.func (.func 73) [] [])) [(.t 11), (.t 12), (.t 13)], none⟩,
 ⟨(some 10), .mov (.t 14), none⟩,
 ⟨(some 15), .extract (.t 10) 0, none⟩,
 ⟨(some 16), .extract (.t 10) 1, none⟩,
 ⟨(some 8), .mov (.t 15), none⟩,
 ⟨(some 9), .mov (.t 16), none⟩])
 (.seq (.seq (.reg [⟨(some 17), .mov (.t 9), none⟩,
 ⟨(some 18), .eqIface true (.t 17) (.k .nilIface), none⟩])
 (.cond (.t 18) (.seq (.reg [⟨(some 19), .mov (.t 8), none⟩,
 ⟨(some 20), .mov (.t 0), none⟩,
 ⟨(some 21), .mov (.t 1), none⟩,
 ⟨(some 22), .mov (.t 2), none⟩,
 ⟨(some 23), .mov (.t 9), none⟩,
 ⟨(some 24), .call (.k (.func (.func 74) [] [])) [(.k (.str [80, 97, 114, 115, 101, 85, 105, 110, 116])), (.t 20), (.t 21), (.t 22), (.t 23)], none⟩,
 ⟨(some 6), .mov (.t 19), none⟩,
 ⟨(some 7), .mov (.t 24), none⟩])
 .ret)
 .skip))
 (.seq (.reg [⟨(some 25), .mov (.t 8), none⟩,
 ⟨(some 6), .mov (.t 25), none⟩,
 ⟨(some 7), .mov (.k .nilIface), none⟩])
 .ret)))),
 [], false⟩

def a65_0 : ACode := (.seq (.reg [⟨(some 10), .bin .lss (.t 9) (.k (.int .i64 32)), none⟩])
 (.seq (.cond (.t 10) .skip
 (.exit 0))
 (.seq (.block 1 (.reg [⟨(some 11), .mov (.t 5), none⟩,
 ⟨(some 12), .bin .shl (.t 11) (.k (.int .u64 1)), none⟩,
 ⟨(some 13), .mov (.t 4), none⟩,
 ⟨(some 14), .call (.t 13) [], none⟩,
 ⟨(some 15), .bin .or (.t 12) (.t 14), none⟩,
 ⟨(some 5), .mov (.t 15), none⟩]))
 (.reg [⟨(some 16), .bin .add (.t 9) (.k (.int .i64 1)), none⟩,
 ⟨(some 9), .mov (.t 16), none⟩]))))

def a65 : AFunc := ⟨18, [.tmp 2],
 (.seq (.reg [⟨(some 2), .mov (.k (.int .i64 0)), none⟩])
 (.seq (.reg [⟨(some 6), .mov (.t 0), none⟩,
 ⟨(some 7), .convBytes true (.t 6), none⟩,
 ⟨(some 3), .new (.lst 1 [] .tight) true none, none⟩,
 ⟨none, .store 1 (.t 3) (.t 7), none⟩])
 (.seq (.reg [⟨(some 8), .mkFunc 75 [] [(.t 3)], none⟩,
 ⟨(some 4), .mov (.t 8), none⟩])
 (.seq (.reg [⟨(some 5), .mov (.k (.int .i64 0)), none⟩])
 (.seq (.seq (.reg [⟨(some 9), .mov (.k (.int .i64 0)), none⟩])
 (.block 0 (.loop a65_0)))
 (.seq (.reg [⟨(some 17), .mov (.t 5), none⟩,
 ⟨(some 2), .mov (.t 17), none⟩])
 .ret)))))),
 [], false⟩

def a66 : AFunc := ⟨18, [.tmp 4],
 (.seq (.reg [⟨(some 4), .mov (.k (.bool false)), none⟩])
 (.seq (.reg [⟨(some 5), .mov (.t 0), none⟩,
 ⟨(some 6), .lenStr (.t 5), none⟩,
 ⟨(some 7), .mov (.t 1), none⟩,
 ⟨(some 8), .lenStr (.t 7), none⟩,
 ⟨(some 9), .bin .geq (.t 6) (.t 8), none⟩,
 ⟨(some 10), .mov (.t 9), none⟩,
 ⟨(some 11), .mov (.t 0), some (10, true)⟩,
 ⟨(some 12), .mov (.t 1), some (10, true)⟩,
 ⟨(some 13), .lenStr (.t 12), some (10, true)⟩,
 ⟨(some 14), .sliceStr (.t 11) none (some (.t 13)), some (10, true)⟩,
 ⟨(some 15), .mov (.t 1), some (10, true)⟩,
 ⟨(some 16), .bin .eql (.t 14) (.t 15), some (10, true)⟩,
 ⟨(some 17), .pick (.t 10) (.t 16) (.k (.bool false)), none⟩,
 ⟨(some 4), .mov (.t 17), none⟩])
 .ret)),
 [], false⟩

def a68_0 : ACode := (.seq (.seq (.reg [⟨(some 24), .mov (.t 8), none⟩,
 ⟨(some 25), .bin .gtr (.t 24) (.k (.int .i64 0)), none⟩])
 (.cond (.t 25) .skip
 (.exit 2)))
 (.seq (.block 3 (.seq (.seq (.reg [⟨(some 28), .mov (.t 8), none⟩,
 ⟨(some 29), .bin .and (.t 28) (.k (.int .i64 1)), none⟩,
 ⟨(some 30), .bin .neq (.t 29) (.k (.int .i64 0)), none⟩])
 (.cond (.t 30) (.reg [⟨(some 31), .mov (.t 6), none⟩,
 ⟨(some 32), .mov (.t 7), none⟩,
 ⟨(some 33), .bin .mul (.t 31) (.t 32), none⟩,
 ⟨(some 6), .mov (.t 33), none⟩])
 .skip))
 (.reg [⟨(some 34), .mov (.t 7), none⟩,
 ⟨(some 35), .mov (.t 7), none⟩,
 ⟨(some 36), .bin .mul (.t 34) (.t 35), none⟩,
 ⟨(some 7), .mov (.t 36), none⟩])))
 (.reg [⟨(some 26), .mov (.t 8), none⟩,
 ⟨(some 27), .bin .shr (.t 26) (.k (.int .u64 1)), none⟩,
 ⟨(some 8), .mov (.t 27), none⟩])))

def a68_1 : ACode := (.seq (.seq (.reg [⟨(some 9), .mov (.t 5), none⟩,
 ⟨(some 10), .mov (.t 0), none⟩,
 ⟨(some 11), .lenStr (.t 10), none⟩,
 ⟨(some 12), .bin .lss (.t 9) (.t 11), none⟩])
 (.cond (.t 12) .skip
 (.exit 0)))
 (.seq (.block 1 (.reg [⟨(some 15), .mov (.t 4), none⟩,
 ⟨(some 16), .bin .mul (.t 15) (.k (.int .u32 16777619)), none⟩,
 ⟨(some 17), .mov (.t 0), none⟩,
 ⟨(some 18), .mov (.t 5), none⟩,
 ⟨(some 19), .indexStr (.t 17) (.t 18), none⟩,
 ⟨(some 20), .convInt .u32 (.t 19), none⟩,
 ⟨(some 21), .bin .add (.t 16) (.t 20), none⟩,
 ⟨(some 4), .mov (.t 21), none⟩]))
 (.reg [⟨(some 13), .mov (.t 5), none⟩,
 ⟨(some 14), .bin .add (.t 13) (.k (.int .i64 1)), none⟩,
 ⟨(some 5), .mov (.t 14), none⟩])))

def a68 : AFunc := ⟨39, [.tmp 2, .tmp 3],
 (.seq (.reg [⟨(some 2), .mov (.k (.int .u32 0)), none⟩,
 ⟨(some 3), .mov (.k (.int .u32 0)), none⟩])
 (.seq (.reg [⟨(some 4), .mov (.k (.int .u32 0)), none⟩])
 (.seq (.seq (.reg [⟨(some 5), .mov (.k (.int .i64 0)), none⟩])
 (.block 0 (.loop a68_1)))
 (.seq (.reg [⟨(some 6), .mov (.k (.int .u32 1)), none⟩,
 ⟨(some 7), .mov (.k (.int .u32 16777619)), none⟩])
 (.seq (.seq (.reg [⟨(some 22), .mov (.t 0), none⟩,
 ⟨(some 23), .lenStr (.t 22), none⟩,
 ⟨(some 8), .mov (.t 23), none⟩])
 (.block 2 (.loop a68_0)))
 (.seq (.reg [⟨(some 37), .mov (.t 4), none⟩,
 ⟨(some 38), .mov (.t 6), none⟩,
 ⟨(some 2), .mov (.t 37), none⟩,
 ⟨(some 3), .mov (.t 38), none⟩])
 .ret)))))),
 [], false⟩

def a69_0 : ACode := (.seq (.seq (.reg [⟨(some 60), .mov (.t 7), none⟩,
 ⟨(some 61), .mov (.t 8), none⟩,
 ⟨(some 62), .bin .lss (.t 60) (.t 61), none⟩])
 (.cond (.t 62) .skip
 (.exit 2)))
 (.block 3 (.seq (.reg [⟨(some 63), .mov (.t 7), none⟩,
 ⟨(some 64), .mov (.t 8), none⟩,
 ⟨(some 65), .bin .add (.t 63) (.t 64), none⟩,
 ⟨(some 66), .convInt .u64 (.t 65), none⟩,
 ⟨(some 67), .bin .shr (.t 66) (.k (.int .u64 1)), none⟩,
 ⟨(some 68), .convInt .i64 (.t 67), none⟩,
 ⟨(some 9), .mov (.t 68), none⟩])
 (.seq (.reg [⟨(some 69), .mov (.t 0), none⟩,
 ⟨(some 70), .mov (.t 9), none⟩,
 ⟨(some 71), .indexAddr 3 true none (.t 69) (.t 70), none⟩,
 ⟨(some 10), .mov (.t 71), none⟩])
 (.seq (.seq (.reg [⟨(some 72), .mov (.t 10), none⟩,
 ⟨(some 73), .nilCheck (.t 72), none⟩,
 ⟨(some 74), .fieldAddr 0 1 false (.t 73), none⟩,
 ⟨(some 75), .load 1 false (.t 74), none⟩,
 ⟨(some 76), .mov (.t 1), none⟩,
 ⟨(some 77), .bin .leq (.t 75) (.t 76), none⟩,
 ⟨(some 78), .mov (.t 77), none⟩,
 ⟨(some 79), .mov (.t 1), some (78, true)⟩,
 ⟨(some 80), .mov (.t 10), some (78, true)⟩,
 ⟨(some 81), .nilCheck (.t 80), some (78, true)⟩,
 ⟨(some 82), .fieldAddr 1 1 false (.t 81), some (78, true)⟩,
 ⟨(some 83), .load 1 false (.t 82), some (78, true)⟩,
 ⟨(some 84), .bin .leq (.t 79) (.t 83), some (78, true)⟩,
 ⟨(some 85), .pick (.t 78) (.t 84) (.k (.bool false)), none⟩])
 (.cond (.t 85) (.seq (.plan [⟨0, ⟨(some 86), .mov (.t 10), none⟩, []⟩,
 ⟨1, ⟨(some 87), .nilCheck (.t 86), none⟩, []⟩,
 ⟨2, ⟨(some 88), .fieldAddr 2 1 false (.t 87), none⟩, []⟩,
 ⟨3, ⟨(some 89), .load 1 false (.t 88), none⟩, []⟩,
 ⟨4, ⟨(some 90), .bin .eql (.t 89) (.k (.int .u16 1)), none⟩, []⟩,
 ⟨5, ⟨(some 91), .mov (.t 90), none⟩, []⟩,
 ⟨6, ⟨(some 92), .mov (.t 1), some (91, false)⟩, []⟩,
 ⟨7, ⟨(some 93), .mov (.t 10), some (91, false)⟩, []⟩,
 ⟨8, ⟨(some 94), .nilCheck (.t 93), some (91, false)⟩, []⟩,
 ⟨9, ⟨(some 95), .fieldAddr 0 1 false (.t 94), some (91, false)⟩, []⟩,
 ⟨10, ⟨(some 96), .load 1 false (.t 95), some (91, false)⟩, []⟩,
 ⟨11, ⟨(some 97), .bin .sub (.t 92) (.t 96), some (91, false)⟩, []⟩,
 ⟨12, ⟨(some 98), .mov (.t 10), some (91, false)⟩, []⟩,
 ⟨13, ⟨(some 99), .nilCheck (.t 98), some (91, false)⟩, []⟩,
 ⟨14, ⟨(some 100), .fieldAddr 2 1 false (.t 99), some (91, false)⟩, []⟩,
 ⟨15, ⟨(some 101), .load 1 false (.t 100), some (91, false)⟩, []⟩,
 ⟨16, ⟨(some 102), .bin .rem (.t 97) (.t 101), some (91, false)⟩, []⟩,
 ⟨17, ⟨(some 103), .bin .eql (.t 102) (.k (.int .u16 0)), some (91, false)⟩, []⟩,
 ⟨18, ⟨(some 104), .pick (.t 91) (.k (.bool true)) (.t 103), none⟩, []⟩,
 ⟨19, ⟨(some 4), .mov (.t 104), none⟩, []⟩])
 .ret)
 .skip))
 (.seq (.reg [⟨(some 105), .mov (.t 1), none⟩,
 ⟨(some 106), .mov (.t 10), none⟩,
 ⟨(some 107), .nilCheck (.t 106), none⟩,
 ⟨(some 108), .fieldAddr 0 1 false (.t 107), none⟩,
 ⟨(some 109), .load 1 false (.t 108), none⟩,
 ⟨(some 110), .bin .lss (.t 105) (.t 109), none⟩])
 (.cond (.t 110) (.reg [⟨(some 111), .mov (.t 9), none⟩,
 ⟨(some 8), .mov (.t 111), none⟩])
 (.reg [⟨(some 112), .mov (.t 9), none⟩,
 ⟨(some 113), .bin .add (.t 112) (.k (.int .i64 1)), none⟩,
 ⟨(some 7), .mov (.t 113), none⟩]))))))))

def a69_1 : ACode := (.seq (.reg [⟨(some 21), .bin .lss (.t 20) (.t 19), none⟩])
 (.seq (.cond (.t 21) .skip
 (.exit 0))
 (.seq (.block 1 (.seq (.reg [⟨(some 22), .mov (.t 20), none⟩,
 ⟨(some 5), .mov (.t 22), none⟩])
 (.seq (.reg [⟨(some 23), .mov (.t 0), none⟩,
 ⟨(some 24), .mov (.t 5), none⟩,
 ⟨(some 25), .indexAddr 3 true none (.t 23) (.t 24), none⟩,
 ⟨(some 6), .mov (.t 25), none⟩])
 (.seq (.seq (.reg [⟨(some 26), .mov (.t 1), none⟩,
 ⟨(some 27), .mov (.t 6), none⟩,
 ⟨(some 28), .nilCheck (.t 27), none⟩,
 ⟨(some 29), .fieldAddr 0 1 false (.t 28), none⟩,
 ⟨(some 30), .load 1 false (.t 29), none⟩,
 ⟨(some 31), .bin .lss (.t 26) (.t 30), none⟩])
 (.cond (.t 31) (.seq (.reg [⟨(some 4), .mov (.k (.bool false)), none⟩])
 .ret)
 .skip))
 (.seq (.reg [⟨(some 32), .mov (.t 1), none⟩,
 ⟨(some 33), .mov (.t 6), none⟩,
 ⟨(some 34), .nilCheck (.t 33), none⟩,
 ⟨(some 35), .fieldAddr 1 1 false (.t 34), none⟩,
 ⟨(some 36), .load 1 false (.t 35), none⟩,
 ⟨(some 37), .bin .leq (.t 32) (.t 36), none⟩])
 (.cond (.t 37) (.seq (.plan [⟨0, ⟨(some 38), .mov (.t 6), none⟩, []⟩,
 ⟨1, ⟨(some 39), .nilCheck (.t 38), none⟩, []⟩,
 ⟨2, ⟨(some 40), .fieldAddr 2 1 false (.t 39), none⟩, []⟩,
 ⟨3, ⟨(some 41), .load 1 false (.t 40), none⟩, []⟩,
 ⟨4, ⟨(some 42), .bin .eql (.t 41) (.k (.int .u16 1)), none⟩, []⟩,
 ⟨5, ⟨(some 43), .mov (.t 42), none⟩, []⟩,
 ⟨6, ⟨(some 44), .mov (.t 1), some (43, false)⟩, []⟩,
 ⟨7, ⟨(some 45), .mov (.t 6), some (43, false)⟩, []⟩,
 ⟨8, ⟨(some 46), .nilCheck (.t 45), some (43, false)⟩, []⟩,
 ⟨9, ⟨(some 47), .fieldAddr 0 1 false (.t 46), some (43, false)⟩, []⟩,
 ⟨10, ⟨(some 48), .load 1 false (.t 47), some (43, false)⟩, []⟩,
 ⟨11, ⟨(some 49), .bin .sub (.t 44) (.t 48), some (43, false)⟩, []⟩,
 ⟨12, ⟨(some 50), .mov (.t 6), some (43, false)⟩, []⟩,
 ⟨13, ⟨(some 51), .nilCheck (.t 50), some (43, false)⟩, []⟩,
 ⟨14, ⟨(some 52), .fieldAddr 2 1 false (.t 51), some (43, false)⟩, []⟩,
 ⟨15, ⟨(some 53), .load 1 false (.t 52), some (43, false)⟩, []⟩,
 ⟨16, ⟨(some 54), .bin .rem (.t 49) (.t 53), some (43, false)⟩, []⟩,
 ⟨17, ⟨(some 55), .bin .eql (.t 54) (.k (.int .u16 0)), some (43, false)⟩, []⟩,
 ⟨18, ⟨(some 56), .pick (.t 43) (.k (.bool true)) (.t 55), none⟩, []⟩,
 ⟨19, ⟨(some 4), .mov (.t 56), none⟩, []⟩])
 .ret)
 .skip))))))
 (.reg [⟨(some 57), .bin .add (.t 20) (.k (.int .i64 1)), none⟩,
 ⟨(some 20), .mov (.t 57), none⟩]))))

def a69 : AFunc := ⟨114, [.tmp 4],
 (.seq (.reg [⟨(some 4), .mov (.k (.bool false)), none⟩])
 (.seq (.seq (.reg [⟨(some 11), .mov (.t 0), none⟩,
 ⟨(some 12), .lenSl (.t 11), none⟩,
 ⟨(some 13), .bin .leq (.t 12) (.k (.int .i64 18)), none⟩,
 ⟨(some 14), .mov (.t 13), none⟩,
 ⟨(some 15), .mov (.t 1), some (14, false)⟩,
 ⟨(some 16), .bin .leq (.t 15) (.k (.int .u16 255)), some (14, false)⟩,
 ⟨(some 17), .pick (.t 14) (.k (.bool true)) (.t 16), none⟩])
 (.cond (.t 17) (.seq (.seq (.reg [⟨(some 18), .mov (.t 0), none⟩,
 ⟨(some 19), .lenSl (.t 18), none⟩,
 ⟨(some 20), .mov (.k (.int .i64 0)), none⟩])
 (.block 0 (.loop a69_1)))
 (.seq (.reg [⟨(some 4), .mov (.k (.bool false)), none⟩])
 .ret))
 .skip))
 (.seq (.reg [⟨(some 7), .mov (.k (.int .i64 0)), none⟩])
 (.seq (.reg [⟨(some 58), .mov (.t 0), none⟩,
 ⟨(some 59), .lenSl (.t 58), none⟩,
 ⟨(some 8), .mov (.t 59), none⟩])
 (.seq (.block 2 (.loop a69_0))
 (.seq (.reg [⟨(some 4), .mov (.k (.bool false)), none⟩])
 .ret)))))),
 [], false⟩

def a70_0 : ACode := (.seq (.seq (.reg [⟨(some 56), .mov (.t 7), none⟩,
 ⟨(some 57), .mov (.t 8), none⟩,
 ⟨(some 58), .bin .lss (.t 56) (.t 57), none⟩])
 (.cond (.t 58) .skip
 (.exit 2)))
 (.block 3 (.seq (.reg [⟨(some 59), .mov (.t 7), none⟩,
 ⟨(some 60), .mov (.t 8), none⟩,
 ⟨(some 61), .bin .add (.t 59) (.t 60), none⟩,
 ⟨(some 62), .convInt .u64 (.t 61), none⟩,
 ⟨(some 63), .bin .shr (.t 62) (.k (.int .u64 1)), none⟩,
 ⟨(some 64), .convInt .i64 (.t 63), none⟩,
 ⟨(some 9), .mov (.t 64), none⟩])
 (.seq (.reg [⟨(some 65), .mov (.t 0), none⟩,
 ⟨(some 66), .mov (.t 9), none⟩,
 ⟨(some 67), .indexAddr 3 true none (.t 65) (.t 66), none⟩,
 ⟨(some 68), .load 3 true (.t 67), none⟩,
 ⟨(some 10), .new (.agg [(.int .u32 0), (.int .u32 0), (.int .u32 0)]) true none, none⟩,
 ⟨none, .store 3 (.t 10) (.t 68), none⟩])
 (.seq (.seq (.reg [⟨(some 69), .fieldAddr 0 1 false (.t 10), none⟩,
 ⟨(some 70), .load 1 false (.t 69), none⟩,
 ⟨(some 71), .mov (.t 1), none⟩,
 ⟨(some 72), .bin .leq (.t 70) (.t 71), none⟩,
 ⟨(some 73), .mov (.t 72), none⟩,
 ⟨(some 74), .mov (.t 1), some (73, true)⟩,
 ⟨(some 75), .fieldAddr 1 1 false (.t 10), some (73, true)⟩,
 ⟨(some 76), .load 1 false (.t 75), some (73, true)⟩,
 ⟨(some 77), .bin .leq (.t 74) (.t 76), some (73, true)⟩,
 ⟨(some 78), .pick (.t 73) (.t 77) (.k (.bool false)), none⟩])
 (.cond (.t 78) (.seq (.reg [⟨(some 79), .fieldAddr 2 1 false (.t 10), none⟩,
 ⟨(some 80), .load 1 false (.t 79), none⟩,
 ⟨(some 81), .bin .eql (.t 80) (.k (.int .u32 1)), none⟩,
 ⟨(some 82), .mov (.t 81), none⟩,
 ⟨(some 83), .mov (.t 1), some (82, false)⟩,
 ⟨(some 84), .fieldAddr 0 1 false (.t 10), some (82, false)⟩,
 ⟨(some 85), .load 1 false (.t 84), some (82, false)⟩,
 ⟨(some 86), .bin .sub (.t 83) (.t 85), some (82, false)⟩,
 ⟨(some 87), .fieldAddr 2 1 false (.t 10), some (82, false)⟩,
 ⟨(some 88), .load 1 false (.t 87), some (82, false)⟩,
 ⟨(some 89), .bin .rem (.t 86) (.t 88), some (82, false)⟩,
 ⟨(some 90), .bin .eql (.t 89) (.k (.int .u32 0)), some (82, false)⟩,
 ⟨(some 91), .pick (.t 82) (.k (.bool true)) (.t 90), none⟩,
 ⟨(some 4), .mov (.t 91), none⟩])
 .ret)
 .skip))
 (.seq (.reg [⟨(some 92), .mov (.t 1), none⟩,
 ⟨(some 93), .fieldAddr 0 1 false (.t 10), none⟩,
 ⟨(some 94), .load 1 false (.t 93), none⟩,
 ⟨(some 95), .bin .lss (.t 92) (.t 94), none⟩])
 (.cond (.t 95) (.reg [⟨(some 96), .mov (.t 9), none⟩,
 ⟨(some 8), .mov (.t 96), none⟩])
 (.reg [⟨(some 97), .mov (.t 9), none⟩,
 ⟨(some 98), .bin .add (.t 97) (.k (.int .i64 1)), none⟩,
 ⟨(some 7), .mov (.t 98), none⟩]))))))))

def a70_1 : ACode := (.seq (.reg [⟨(some 17), .bin .lss (.t 16) (.t 15), none⟩])
 (.seq (.cond (.t 17) .skip
 (.exit 0))
 (.seq (.block 1 (.seq (.reg [⟨(some 18), .mov (.t 16), none⟩,
 ⟨(some 5), .mov (.t 18), none⟩])
 (.seq (.reg [⟨(some 19), .mov (.t 0), none⟩,
 ⟨(some 20), .mov (.t 5), none⟩,
 ⟨(some 21), .indexAddr 3 true none (.t 19) (.t 20), none⟩,
 ⟨(some 6), .mov (.t 21), none⟩])
 (.seq (.seq (.reg [⟨(some 22), .mov (.t 1), none⟩,
 ⟨(some 23), .mov (.t 6), none⟩,
 ⟨(some 24), .nilCheck (.t 23), none⟩,
 ⟨(some 25), .fieldAddr 0 1 false (.t 24), none⟩,
 ⟨(some 26), .load 1 false (.t 25), none⟩,
 ⟨(some 27), .bin .lss (.t 22) (.t 26), none⟩])
 (.cond (.t 27) (.seq (.reg [⟨(some 4), .mov (.k (.bool false)), none⟩])
 .ret)
 .skip))
 (.seq (.reg [⟨(some 28), .mov (.t 1), none⟩,
 ⟨(some 29), .mov (.t 6), none⟩,
 ⟨(some 30), .nilCheck (.t 29), none⟩,
 ⟨(some 31), .fieldAddr 1 1 false (.t 30), none⟩,
 ⟨(some 32), .load 1 false (.t 31), none⟩,
 ⟨(some 33), .bin .leq (.t 28) (.t 32), none⟩])
 (.cond (.t 33) (.seq (.plan [⟨0, ⟨(some 34), .mov (.t 6), none⟩, []⟩,
 ⟨1, ⟨(some 35), .nilCheck (.t 34), none⟩, []⟩,
 ⟨2, ⟨(some 36), .fieldAddr 2 1 false (.t 35), none⟩, []⟩,
 ⟨3, ⟨(some 37), .load 1 false (.t 36), none⟩, []⟩,
 ⟨4, ⟨(some 38), .bin .eql (.t 37) (.k (.int .u32 1)), none⟩, []⟩,
 ⟨5, ⟨(some 39), .mov (.t 38), none⟩, []⟩,
 ⟨6, ⟨(some 40), .mov (.t 1), some (39, false)⟩, []⟩,
 ⟨7, ⟨(some 41), .mov (.t 6), some (39, false)⟩, []⟩,
 ⟨8, ⟨(some 42), .nilCheck (.t 41), some (39, false)⟩, []⟩,
 ⟨9, ⟨(some 43), .fieldAddr 0 1 false (.t 42), some (39, false)⟩, []⟩,
 ⟨10, ⟨(some 44), .load 1 false (.t 43), some (39, false)⟩, []⟩,
 ⟨11, ⟨(some 45), .bin .sub (.t 40) (.t 44), some (39, false)⟩, []⟩,
 ⟨12, ⟨(some 46), .mov (.t 6), some (39, false)⟩, []⟩,
 ⟨13, ⟨(some 47), .nilCheck (.t 46), some (39, false)⟩, []⟩,
 ⟨14, ⟨(some 48), .fieldAddr 2 1 false (.t 47), some (39, false)⟩, []⟩,
 ⟨15, ⟨(some 49), .load 1 false (.t 48), some (39, false)⟩, []⟩,
 ⟨16, ⟨(some 50), .bin .rem (.t 45) (.t 49), some (39, false)⟩, []⟩,
 ⟨17, ⟨(some 51), .bin .eql (.t 50) (.k (.int .u32 0)), some (39, false)⟩, []⟩,
 ⟨18, ⟨(some 52), .pick (.t 39) (.k (.bool true)) (.t 51), none⟩, []⟩,
 ⟨19, ⟨(some 4), .mov (.t 52), none⟩, []⟩])
 .ret)
 .skip))))))
 (.reg [⟨(some 53), .bin .add (.t 16) (.k (.int .i64 1)), none⟩,
 ⟨(some 16), .mov (.t 53), none⟩]))))

def a70 : AFunc := ⟨99, [.tmp 4],
 (.seq (.reg [⟨(some 4), .mov (.k (.bool false)), none⟩])
 (.seq (.seq (.reg [⟨(some 11), .mov (.t 0), none⟩,
 ⟨(some 12), .lenSl (.t 11), none⟩,
 ⟨(some 13), .bin .leq (.t 12) (.k (.int .i64 18)), none⟩])
 (.cond (.t 13) (.seq (.seq (.reg [⟨(some 14), .mov (.t 0), none⟩,
 ⟨(some 15), .lenSl (.t 14), none⟩,
 ⟨(some 16), .mov (.k (.int .i64 0)), none⟩])
 (.block 0 (.loop a70_1)))
 (.seq (.reg [⟨(some 4), .mov (.k (.bool false)), none⟩])
 .ret))
 .skip))
 (.seq (.reg [⟨(some 7), .mov (.k (.int .i64 0)), none⟩])
 (.seq (.reg [⟨(some 54), .mov (.t 0), none⟩,
 ⟨(some 55), .lenSl (.t 54), none⟩,
 ⟨(some 8), .mov (.t 55), none⟩])
 (.seq (.block 2 (.loop a70_0))
 (.seq (.reg [⟨(some 4), .mov (.k (.bool false)), none⟩])
 .ret)))))),
 [], false⟩

def a71 : AFunc := ⟨13, [.tmp 4, .tmp 5, .tmp 6],
 (.seq (.reg [⟨(some 4), .mov (.k (.str [])), none⟩,
 ⟨(some 5), .mov (.k (.str [])), none⟩,
 ⟨(some 6), .mov (.k (.bool false)), none⟩])
 (.seq (.reg [⟨(some 7), .mov (.t 0), none⟩,
 ⟨(some 8), .mov (.t 1), none⟩,
 ⟨(some 9), .call (.k (.func (.func 76) [] [])) [(.t 7), (.t 8)], none⟩,
 ⟨(some 10), .extract (.t 9) 0, none⟩,
 ⟨(some 11), .extract (.t 9) 1, none⟩,
 ⟨(some 12), .extract (.t 9) 2, none⟩,
 ⟨(some 4), .mov (.t 10), none⟩,
 ⟨(some 5), .mov (.t 11), none⟩,
 ⟨(some 6), .mov (.t 12), none⟩])
 .ret)),
 [], false⟩

def a72 : AFunc := ⟨19, [.tmp 4],
 (.seq (.reg [⟨(some 4), .mov (.k (.bool false)), none⟩])
 (.seq (.reg [⟨(some 5), .mov (.t 0), none⟩,
 ⟨(some 6), .lenStr (.t 5), none⟩,
 ⟨(some 7), .bin .geq (.t 6) (.k (.int .i64 1)), none⟩,
 ⟨(some 8), .mov (.t 7), none⟩,
 ⟨(some 9), .mov (.t 0), some (8, true)⟩,
 ⟨(some 10), .lenStr (.t 9), some (8, true)⟩,
 ⟨(some 11), .mov (.t 1), some (8, true)⟩,
 ⟨(some 12), .bin .leq (.t 10) (.t 11), some (8, true)⟩,
 ⟨(some 13), .pick (.t 8) (.t 12) (.k (.bool false)), none⟩,
 ⟨(some 14), .mov (.t 13), none⟩,
 ⟨(some 15), .mov (.t 0), some (14, true)⟩,
 ⟨(some 16), .call (.k (.func (.func 77) [] [])) [(.t 15), (.k (.str [48, 49, 50, 51, 52, 53, 54, 55, 56, 57]))], some (14, true)⟩,
 ⟨(some 17), .bin .eql (.t 16) (.k (.str [])), some (14, true)⟩,
 ⟨(some 18), .pick (.t 14) (.t 17) (.k (.bool false)), none⟩,
 ⟨(some 4), .mov (.t 18), none⟩])
 .ret)),
 [], false⟩

def a73_0 : ACode := (.seq (.reg [⟨(some 102), .bin .lss (.t 101) (.t 100), none⟩])
 (.seq (.cond (.t 102) .skip
 (.exit 3))
 (.seq (.block 4 (.seq (.reg [⟨(some 103), .indexAddr 1 false none (.t 99) (.t 101), none⟩,
 ⟨(some 104), .load 1 false (.t 103), none⟩,
 ⟨(some 15), .mov (.t 104), none⟩])
 (.seq (.reg [⟨(some 16), .mov (.k (.int .u8 0)), none⟩])
 (.seq (.block 5 (.seq (.reg [⟨(some 107), .mov (.t 15), none⟩,
 ⟨(some 108), .bin .eql (.t 107) (.k (.int .u8 95)), none⟩,
 ⟨(some 109), .mov (.t 108), none⟩,
 ⟨(some 110), .mov (.t 8), some (109, true)⟩,
 ⟨(some 111), .pick (.t 109) (.t 110) (.k (.bool false)), none⟩,
 ⟨(some 106), .mov (.t 111), none⟩])
 (.cond (.t 106) (.seq (.reg [⟨(some 12), .mov (.k (.bool true)), none⟩])
 (.exit 4))
 (.seq (.reg [⟨(some 113), .mov (.t 15), none⟩,
 ⟨(some 114), .bin .leq (.k (.int .u8 48)) (.t 113), none⟩,
 ⟨(some 115), .mov (.t 114), none⟩,
 ⟨(some 116), .mov (.t 15), some (115, true)⟩,
 ⟨(some 117), .bin .leq (.t 116) (.k (.int .u8 57)), some (115, true)⟩,
 ⟨(some 118), .pick (.t 115) (.t 117) (.k (.bool false)), none⟩,
 ⟨(some 112), .mov (.t 118), none⟩])
 (.cond (.t 112) (.reg [⟨(some 119), .mov (.t 15), none⟩,
 ⟨(some 120), .bin .sub (.t 119) (.k (.int .u8 48)), none⟩,
 ⟨(some 16), .mov (.t 120), none⟩])
 (.seq (.reg [⟨(some 122), .mov (.t 15), none⟩,
 ⟨(some 123), .call (.k (.func (.func 78) [] [])) [(.t 122)], none⟩,
 ⟨(some 124), .bin .leq (.k (.int .u8 97)) (.t 123), none⟩,
 ⟨(some 125), .mov (.t 124), none⟩,
 ⟨(some 126), .mov (.t 15), some (125, true)⟩,
 ⟨(some 127), .call (.k (.func (.func 78) [] [])) [(.t 126)], some (125, true)⟩,
 ⟨(some 128), .bin .leq (.t 127) (.k (.int .u8 122)), some (125, true)⟩,
 ⟨(some 129), .pick (.t 125) (.t 128) (.k (.bool false)), none⟩,
 ⟨(some 121), .mov (.t 129), none⟩])
 (.cond (.t 121) (.reg [⟨(some 130), .mov (.t 15), none⟩,
 ⟨(some 131), .call (.k (.func (.func 78) [] [])) [(.t 130)], none⟩,
 ⟨(some 132), .bin .sub (.t 131) (.k (.int .u8 97)), none⟩,
 ⟨(some 133), .bin .add (.t 132) (.k (.int .u8 10)), none⟩,
 ⟨(some 16), .mov (.t 133), none⟩])
 (.seq (.reg [⟨(some 105), .mkIface 112 (.k (.int .i64 2)), none⟩,
 ⟨(some 6), .mov (.k (.int .u64 0)), none⟩,
 ⟨(some 7), .mov (.t 105), none⟩])
 .ret))))))))
 (.seq (.seq (.reg [⟨(some 134), .mov (.t 16), none⟩,
 ⟨(some 135), .mov (.t 1), none⟩,
 ⟨(some 136), .convInt .u8 (.t 135), none⟩,
 ⟨(some 137), .bin .geq (.t 134) (.t 136), none⟩])
 (.cond (.t 137) (.seq (.reg [⟨(some 138), .mkIface 112 (.k (.int .i64 2)), none⟩,
 ⟨(some 6), .mov (.k (.int .u64 0)), none⟩,
 ⟨(some 7), .mov (.t 138), none⟩])
 .ret)
 .skip))
 (.seq (.seq (.reg [⟨(some 139), .mov (.t 13), none⟩,
 ⟨(some 140), .mov (.t 10), none⟩,
 ⟨(some 141), .bin .geq (.t 139) (.t 140), none⟩])
 (.cond (.t 141) (.seq (.reg [⟨(some 142), .mov (.t 11), none⟩,
 ⟨(some 143), .mkIface 112 (.k (.int .i64 1)), none⟩,
 ⟨(some 6), .mov (.t 142), none⟩,
 ⟨(some 7), .mov (.t 143), none⟩])
 .ret)
 .skip))
 (.seq (.reg [⟨(some 144), .mov (.t 13), none⟩,
 ⟨(some 145), .mov (.t 1), none⟩,
 ⟨(some 146), .convInt .u64 (.t 145), none⟩,
 ⟨(some 147), .bin .mul (.t 144) (.t 146), none⟩,
 ⟨(some 13), .mov (.t 147), none⟩])
 (.seq (.reg [⟨(some 148), .mov (.t 13), none⟩,
 ⟨(some 149), .mov (.t 16), none⟩,
 ⟨(some 150), .convInt .u64 (.t 149), none⟩,
 ⟨(some 151), .bin .add (.t 148) (.t 150), none⟩,
 ⟨(some 17), .mov (.t 151), none⟩])
 (.seq (.seq (.reg [⟨(some 152), .mov (.t 17), none⟩,
 ⟨(some 153), .mov (.t 13), none⟩,
 ⟨(some 154), .bin .lss (.t 152) (.t 153), none⟩,
 ⟨(some 155), .mov (.t 154), none⟩,
 ⟨(some 156), .mov (.t 17), some (155, false)⟩,
 ⟨(some 157), .mov (.t 11), some (155, false)⟩,
 ⟨(some 158), .bin .gtr (.t 156) (.t 157), some (155, false)⟩,
 ⟨(some 159), .pick (.t 155) (.k (.bool true)) (.t 158), none⟩])
 (.cond (.t 159) (.seq (.reg [⟨(some 160), .mov (.t 11), none⟩,
 ⟨(some 161), .mkIface 112 (.k (.int .i64 1)), none⟩,
 ⟨(some 6), .mov (.t 160), none⟩,
 ⟨(some 7), .mov (.t 161), none⟩])
 .ret)
 .skip))
 (.reg [⟨(some 162), .mov (.t 17), none⟩,
 ⟨(some 13), .mov (.t 162), none⟩]))))))))))
 (.reg [⟨(some 163), .bin .add (.t 101) (.k (.int .i64 1)), none⟩,
 ⟨(some 101), .mov (.t 163), none⟩]))))

def a73 : AFunc := ⟨172, [.tmp 6, .tmp 7],
 (.seq (.reg [⟨(some 6), .mov (.k (.int .u64 0)), none⟩,
 ⟨(some 7), .mov (.k .nilIface), none⟩])
 (.seq (.seq (.reg [⟨(some 18), .mov (.t 0), none⟩,
 ⟨(some 19), .bin .eql (.t 18) (.k (.str [])), none⟩])
 (.cond (.t 19) (.seq (.reg [⟨(some 20), .mkIface 112 (.k (.int .i64 2)), none⟩,
 ⟨(some 6), .mov (.k (.int .u64 0)), none⟩,
 ⟨(some 7), .mov (.t 20), none⟩])
 .ret)
 .skip))
 (.seq (.reg [⟨(some 21), .mov (.t 1), none⟩,
 ⟨(some 22), .bin .eql (.t 21) (.k (.int .i64 0)), none⟩,
 ⟨(some 8), .mov (.t 22), none⟩])
 (.seq (.reg [⟨(some 23), .mov (.t 0), none⟩,
 ⟨(some 9), .mov (.t 23), none⟩])
 (.seq (.block 0 (.seq (.reg [⟨(some 26), .mov (.t 1), none⟩,
 ⟨(some 27), .bin .leq (.k (.int .i64 2)) (.t 26), none⟩,
 ⟨(some 28), .mov (.t 27), none⟩,
 ⟨(some 29), .mov (.t 1), some (28, true)⟩,
 ⟨(some 30), .bin .leq (.t 29) (.k (.int .i64 36)), some (28, true)⟩,
 ⟨(some 31), .pick (.t 28) (.t 30) (.k (.bool false)), none⟩,
 ⟨(some 25), .mov (.t 31), none⟩])
 (.cond (.t 25) .skip
 (.seq (.reg [⟨(some 33), .mov (.t 1), none⟩,
 ⟨(some 34), .bin .eql (.t 33) (.k (.int .i64 0)), none⟩,
 ⟨(some 32), .mov (.t 34), none⟩])
 (.cond (.t 32) (.seq (.reg [⟨(some 1), .mov (.k (.int .i64 10)), none⟩])
 (.seq (.reg [⟨(some 35), .mov (.t 0), none⟩,
 ⟨(some 36), .indexStr (.t 35) (.k (.int .i64 0)), none⟩,
 ⟨(some 37), .bin .eql (.t 36) (.k (.int .u8 48)), none⟩])
 (.cond (.t 37) (.block 1 (.seq (.reg [⟨(some 41), .mov (.t 0), none⟩,
 ⟨(some 42), .lenStr (.t 41), none⟩,
 ⟨(some 43), .bin .geq (.t 42) (.k (.int .i64 3)), none⟩,
 ⟨(some 44), .mov (.t 43), none⟩,
 ⟨(some 45), .mov (.t 0), some (44, true)⟩,
 ⟨(some 46), .indexStr (.t 45) (.k (.int .i64 1)), some (44, true)⟩,
 ⟨(some 47), .call (.k (.func (.func 78) [] [])) [(.t 46)], some (44, true)⟩,
 ⟨(some 48), .bin .eql (.t 47) (.k (.int .u8 98)), some (44, true)⟩,
 ⟨(some 49), .pick (.t 44) (.t 48) (.k (.bool false)), none⟩,
 ⟨(some 40), .mov (.t 49), none⟩])
 (.cond (.t 40) (.seq (.reg [⟨(some 1), .mov (.k (.int .i64 2)), none⟩])
 (.reg [⟨(some 50), .mov (.t 0), none⟩,
 ⟨(some 51), .sliceStr (.t 50) (some (.k (.int .i64 2))) none, none⟩,
 ⟨(some 0), .mov (.t 51), none⟩]))
 (.seq (.reg [⟨(some 53), .mov (.t 0), none⟩,
 ⟨(some 54), .lenStr (.t 53), none⟩,
 ⟨(some 55), .bin .geq (.t 54) (.k (.int .i64 3)), none⟩,
 ⟨(some 56), .mov (.t 55), none⟩,
 ⟨(some 57), .mov (.t 0), some (56, true)⟩,
 ⟨(some 58), .indexStr (.t 57) (.k (.int .i64 1)), some (56, true)⟩,
 ⟨(some 59), .call (.k (.func (.func 78) [] [])) [(.t 58)], some (56, true)⟩,
 ⟨(some 60), .bin .eql (.t 59) (.k (.int .u8 111)), some (56, true)⟩,
 ⟨(some 61), .pick (.t 56) (.t 60) (.k (.bool false)), none⟩,
 ⟨(some 52), .mov (.t 61), none⟩])
 (.cond (.t 52) (.seq (.reg [⟨(some 1), .mov (.k (.int .i64 8)), none⟩])
 (.reg [⟨(some 62), .mov (.t 0), none⟩,
 ⟨(some 63), .sliceStr (.t 62) (some (.k (.int .i64 2))) none, none⟩,
 ⟨(some 0), .mov (.t 63), none⟩]))
 (.seq (.reg [⟨(some 65), .mov (.t 0), none⟩,
 ⟨(some 66), .lenStr (.t 65), none⟩,
 ⟨(some 67), .bin .geq (.t 66) (.k (.int .i64 3)), none⟩,
 ⟨(some 68), .mov (.t 67), none⟩,
 ⟨(some 69), .mov (.t 0), some (68, true)⟩,
 ⟨(some 70), .indexStr (.t 69) (.k (.int .i64 1)), some (68, true)⟩,
 ⟨(some 71), .call (.k (.func (.func 78) [] [])) [(.t 70)], some (68, true)⟩,
 ⟨(some 72), .bin .eql (.t 71) (.k (.int .u8 120)), some (68, true)⟩,
 ⟨(some 73), .pick (.t 68) (.t 72) (.k (.bool false)), none⟩,
 ⟨(some 64), .mov (.t 73), none⟩])
 (.cond (.t 64) (.seq (.reg [⟨(some 1), .mov (.k (.int .i64 16)), none⟩])
 (.reg [⟨(some 74), .mov (.t 0), none⟩,
 ⟨(some 75), .sliceStr (.t 74) (some (.k (.int .i64 2))) none, none⟩,
 ⟨(some 0), .mov (.t 75), none⟩]))
 (.seq (.reg [⟨(some 1), .mov (.k (.int .i64 8)), none⟩])
 (.reg [⟨(some 38), .mov (.t 0), none⟩,
 ⟨(some 39), .sliceStr (.t 38) (some (.k (.int .i64 1))) none, none⟩,
 ⟨(some 0), .mov (.t 39), none⟩])))))))))
 .skip)))
 (.seq (.reg [⟨(some 24), .mkIface 112 (.k (.int .i64 3)), none⟩,
 ⟨(some 6), .mov (.k (.int .u64 0)), none⟩,
 ⟨(some 7), .mov (.t 24), none⟩])
 .ret))))))
 (.seq (.seq (.reg [⟨(some 76), .mov (.t 2), none⟩,
 ⟨(some 77), .bin .eql (.t 76) (.k (.int .i64 0)), none⟩])
 (.cond (.t 77) (.reg [⟨(some 2), .mov (.k (.int .i64 64)), none⟩])
 (.seq (.reg [⟨(some 78), .mov (.t 2), none⟩,
 ⟨(some 79), .bin .lss (.t 78) (.k (.int .i64 0)), none⟩,
 ⟨(some 80), .mov (.t 79), none⟩,
 ⟨(some 81), .mov (.t 2), some (80, false)⟩,
 ⟨(some 82), .bin .gtr (.t 81) (.k (.int .i64 64)), some (80, false)⟩,
 ⟨(some 83), .pick (.t 80) (.k (.bool true)) (.t 82), none⟩])
 (.cond (.t 83) (.seq (.reg [⟨(some 84), .mkIface 112 (.k (.int .i64 4)), none⟩,
 ⟨(some 6), .mov (.k (.int .u64 0)), none⟩,
 ⟨(some 7), .mov (.t 84), none⟩])
 .ret)
 .skip))))
 (.seq (.reg [⟨(some 10), .mov (.k (.int .u64 0)), none⟩])
 (.seq (.seq (.reg [⟨(some 85), .mov (.t 1), none⟩])
 (.block 2 (.seq (.reg [⟨(some 91), .bin .eql (.t 85) (.k (.int .i64 10)), none⟩,
 ⟨(some 90), .mov (.t 91), none⟩])
 (.cond (.t 90) (.reg [⟨(some 10), .mov (.k (.int .u64 1844674407370955162)), none⟩])
 (.seq (.reg [⟨(some 93), .bin .eql (.t 85) (.k (.int .i64 16)), none⟩,
 ⟨(some 92), .mov (.t 93), none⟩])
 (.cond (.t 92) (.reg [⟨(some 10), .mov (.k (.int .u64 1152921504606846976)), none⟩])
 (.reg [⟨(some 86), .mov (.t 1), none⟩,
 ⟨(some 87), .convInt .u64 (.t 86), none⟩,
 ⟨(some 88), .bin .quo (.k (.int .u64 18446744073709551615)) (.t 87), none⟩,
 ⟨(some 89), .bin .add (.t 88) (.k (.int .u64 1)), none⟩,
 ⟨(some 10), .mov (.t 89), none⟩])))))))
 (.seq (.reg [⟨(some 94), .mov (.t 2), none⟩,
 ⟨(some 95), .convInt .u64 (.t 94), none⟩,
 ⟨(some 96), .bin .shl (.k (.int .u64 1)) (.t 95), none⟩,
 ⟨(some 97), .bin .sub (.t 96) (.k (.int .u64 1)), none⟩,
 ⟨(some 11), .mov (.t 97), none⟩])
 (.seq (.reg [⟨(some 12), .mov (.k (.bool false)), none⟩])
 (.seq (.reg [⟨(some 13), .mov (.k (.int .u64 0)), none⟩])
 (.seq (.seq (.reg [⟨(some 98), .mov (.t 0), none⟩,
 ⟨(some 99), .convBytes false (.t 98), none⟩,
 ⟨(some 100), .lenSl (.t 99), none⟩,
 ⟨(some 101), .mov (.k (.int .i64 0)), none⟩])
 (.block 3 (.loop a73_0)))
 (.seq (.seq (.reg [⟨(some 164), .mov (.t 12), none⟩,
 ⟨(some 165), .mov (.t 164), none⟩,
 ⟨(some 166), .mov (.t 9), some (165, true)⟩,
 ⟨(some 167), .call (.k (.func (.func 79) [] [])) [(.t 166)], some (165, true)⟩,
 ⟨(some 168), .un .not (.t 167), some (165, true)⟩,
 ⟨(some 169), .pick (.t 165) (.t 168) (.k (.bool false)), none⟩])
 (.cond (.t 169) (.seq (.reg [⟨(some 170), .mkIface 112 (.k (.int .i64 2)), none⟩,
 ⟨(some 6), .mov (.k (.int .u64 0)), none⟩,
 ⟨(some 7), .mov (.t 170), none⟩])
 .ret)
 .skip))
 (.seq (.reg [⟨(some 171), .mov (.t 13), none⟩,
 ⟨(some 6), .mov (.t 171), none⟩,
 ⟨(some 7), .mov (.k .nilIface), none⟩])
 .ret)))))))))))))),
 [], false⟩

def a75_0 : ACode := (.seq (.seq (.reg [⟨(some 8), .mov (.t 3), none⟩,
 ⟨(some 9), .bin .geq (.t 8) (.k (.int .i64 0)), none⟩])
 (.cond (.t 9) .skip
 (.exit 0)))
 (.seq (.block 1 (.seq (.reg [⟨(some 12), .load 1 false (.t 0), none⟩,
 ⟨(some 13), .mov (.t 3), none⟩,
 ⟨(some 14), .indexAddr 1 false none (.t 12) (.t 13), none⟩,
 ⟨(some 15), .load 1 false (.t 14), none⟩,
 ⟨(some 16), .bin .sub (.t 15) (.k (.int .u8 48)), none⟩,
 ⟨(some 17), .bin .mul (.k (.int .u8 2)) (.t 16), none⟩,
 ⟨(some 18), .mov (.t 2), none⟩,
 ⟨(some 19), .bin .add (.t 17) (.t 18), none⟩,
 ⟨(some 4), .mov (.t 19), none⟩])
 (.seq (.reg [⟨(some 20), .mov (.t 4), none⟩,
 ⟨(some 21), .bin .quo (.t 20) (.k (.int .u8 10)), none⟩,
 ⟨(some 2), .mov (.t 21), none⟩])
 (.reg [⟨(some 22), .load 1 false (.t 0), none⟩,
 ⟨(some 23), .mov (.t 3), none⟩,
 ⟨(some 24), .mov (.t 4), none⟩,
 ⟨(some 25), .bin .rem (.t 24) (.k (.int .u8 10)), none⟩,
 ⟨(some 26), .bin .add (.k (.int .u8 48)) (.t 25), none⟩,
 ⟨(some 27), .indexAddr 1 false none (.t 22) (.t 23), none⟩,
 ⟨none, .store 1 (.t 27) (.t 26), none⟩]))))
 (.reg [⟨(some 10), .mov (.t 3), none⟩,
 ⟨(some 11), .bin .sub (.t 10) (.k (.int .i64 1)), none⟩,
 ⟨(some 3), .mov (.t 11), none⟩])))

def a75 : AFunc := ⟨30, [.tmp 1],
 (.seq (.reg [⟨(some 1), .mov (.k (.int .i64 0)), none⟩])
 (.seq (.reg [⟨(some 2), .mov (.k (.int .u8 0)), none⟩])
 (.seq (.seq (.reg [⟨(some 5), .load 1 false (.t 0), none⟩,
 ⟨(some 6), .lenSl (.t 5), none⟩,
 ⟨(some 7), .bin .sub (.t 6) (.k (.int .i64 1)), none⟩,
 ⟨(some 3), .mov (.t 7), none⟩])
 (.block 0 (.loop a75_0)))
 (.seq (.reg [⟨(some 28), .mov (.t 2), none⟩,
 ⟨(some 29), .convInt .i64 (.t 28), none⟩,
 ⟨(some 1), .mov (.t 29), none⟩])
 .ret)))),
 [], true⟩

def a76 : AFunc := ⟨23, [.tmp 4, .tmp 5, .tmp 6],
 (.seq (.reg [⟨(some 4), .mov (.k (.str [])), none⟩,
 ⟨(some 5), .mov (.k (.str [])), none⟩,
 ⟨(some 6), .mov (.k (.bool false)), none⟩])
 (.seq (.seq (.reg [⟨(some 8), .mov (.t 0), none⟩,
 ⟨(some 9), .mov (.t 1), none⟩,
 ⟨(some 10), .call (.k (.func (.func 48) [] [])) [(.t 8), (.t 9)], none⟩,
 ⟨(some 7), .mov (.t 10), none⟩])
 (.seq (.reg [⟨(some 11), .mov (.t 7), none⟩,
 ⟨(some 12), .bin .geq (.t 11) (.k (.int .i64 0)), none⟩])
 (.cond (.t 12) (.seq (.plan [⟨0, ⟨(some 13), .mov (.t 0), none⟩, []⟩,
 ⟨1, ⟨(some 14), .mov (.t 7), none⟩, []⟩,
 ⟨2, ⟨(some 15), .sliceStr (.t 13) none (some (.t 14)), none⟩, []⟩,
 ⟨3, ⟨(some 16), .mov (.t 0), none⟩, []⟩,
 ⟨4, ⟨(some 17), .mov (.t 7), none⟩, []⟩,
 ⟨5, ⟨(some 18), .mov (.t 1), none⟩, []⟩,
 ⟨6, ⟨(some 19), .lenStr (.t 18), none⟩, []⟩,
 ⟨7, ⟨(some 20), .bin .add (.t 17) (.t 19), none⟩, []⟩,
 ⟨8, ⟨(some 21), .sliceStr (.t 16) (some (.t 20)) none, none⟩, []⟩,
 ⟨9, ⟨(some 4), .mov (.t 15), none⟩, []⟩,
 ⟨10, ⟨(some 5), .mov (.t 21), none⟩, []⟩,
 ⟨11, ⟨(some 6), .mov (.k (.bool true)), none⟩, []⟩])
 .ret)
 .skip)))
 (.seq (.reg [⟨(some 22), .mov (.t 0), none⟩,
 ⟨(some 4), .mov (.t 22), none⟩,
 ⟨(some 5), .mov (.k (.str [])), none⟩,
 ⟨(some 6), .mov (.k (.bool false)), none⟩])
 .ret))),
 [], false⟩

def a77 : AFunc := ⟨43, [.tmp 4],
 (.seq (.reg [⟨(some 4), .mov (.k (.str [])), none⟩])
 (.seq (.seq (.reg [⟨(some 7), .mov (.t 0), none⟩,
 ⟨(some 8), .bin .eql (.t 7) (.k (.str [])), none⟩,
 ⟨(some 9), .mov (.t 8), none⟩,
 ⟨(some 10), .mov (.t 1), some (9, false)⟩,
 ⟨(some 11), .bin .eql (.t 10) (.k (.str [])), some (9, false)⟩,
 ⟨(some 12), .pick (.t 9) (.k (.bool true)) (.t 11), none⟩])
 (.cond (.t 12) (.seq (.reg [⟨(some 13), .mov (.t 0), none⟩,
 ⟨(some 4), .mov (.t 13), none⟩])
 .ret)
 .skip))
 (.seq (.seq (.reg [⟨(some 14), .mov (.t 1), none⟩,
 ⟨(some 15), .lenStr (.t 14), none⟩,
 ⟨(some 16), .bin .eql (.t 15) (.k (.int .i64 1)), none⟩,
 ⟨(some 17), .mov (.t 16), none⟩,
 ⟨(some 18), .mov (.t 1), some (17, true)⟩,
 ⟨(some 19), .indexStr (.t 18) (.k (.int .i64 0)), some (17, true)⟩,
 ⟨(some 20), .bin .lss (.t 19) (.k (.int .u8 128)), some (17, true)⟩,
 ⟨(some 21), .pick (.t 17) (.t 20) (.k (.bool false)), none⟩])
 (.cond (.t 21) (.seq (.plan [⟨0, ⟨(some 22), .mov (.t 0), none⟩, []⟩,
 ⟨1, ⟨(some 23), .mov (.t 1), none⟩, []⟩,
 ⟨2, ⟨(some 24), .indexStr (.t 23) (.k (.int .i64 0)), none⟩, []⟩,
 ⟨4, ⟨(some 26), .mov (.t 1), none⟩, []⟩,
 ⟨5, ⟨(some 27), .indexStr (.t 26) (.k (.int .i64 0)), none⟩, []⟩,
 ⟨3, ⟨(some 25), .call (.k (.func (.func 85) [] [])) [(.t 22), (.t 24)], none⟩, []⟩,
 ⟨6, ⟨(some 28), .call (.k (.func (.func 84) [] [])) [(.t 25), (.t 27)], none⟩, []⟩,
 ⟨7, ⟨(some 4), .mov (.t 28), none⟩, []⟩])
 .ret)
 .skip))
 (.seq (.seq (.reg [⟨(some 30), .mov (.t 1), none⟩,
 ⟨(some 31), .call (.k (.func (.func 86) [] [])) [(.t 30)], none⟩,
 ⟨(some 29), .mov (.t 31), none⟩,
 ⟨(some 32), .extract (.t 29) 0, none⟩,
 ⟨(some 33), .extract (.t 29) 1, none⟩,
 ⟨(some 5), .new (.agg [(.bool false), (.bool false), (.bool false), (.bool false), (.bool false), (.bool false), (.bool false), (.bool false), (.bool false), (.bool false), (.bool false), (.bool false), (.bool false), (.bool false), (.bool false), (.bool false), (.bool false), (.bool false), (.bool false), (.bool false), (.bool false), (.bool false), (.bool false), (.bool false), (.bool false), (.bool false), (.bool false), (.bool false), (.bool false), (.bool false), (.bool false), (.bool false), (.bool false), (.bool false), (.bool false), (.bool false), (.bool false), (.bool false), (.bool false), (.bool false), (.bool false), (.bool false), (.bool false), (.bool false), (.bool false), (.bool false), (.bool false), (.bool false), (.bool false), (.bool false), (.bool false), (.bool false), (.bool false), (.bool false), (.bool false), (.bool false), (.bool false), (.bool false), (.bool false), (.bool false), (.bool false), (.bool false), (.bool false), (.bool false), (.bool false), (.bool false), (.bool false), (.bool false), (.bool false), (.bool false), (.bool false), (.bool false), (.bool false), (.bool false), (.bool false), (.bool false), (.bool false), (.bool false), (.bool false), (.bool false), (.bool false), (.bool false), (.bool false), (.bool false), (.bool false), (.bool false), (.bool false), (.bool false), (.bool false), (.bool false), (.bool false), (.bool false), (.bool false), (.bool false), (.bool false), (.bool false), (.bool false), (.bool false), (.bool false), (.bool false), (.bool false), (.bool false), (.bool false), (.bool false), (.bool false), (.bool false), (.bool false), (.bool false), (.bool false), (.bool false), (.bool false), (.bool false), (.bool false), (.bool false), (.bool false), (.bool false), (.bool false), (.bool false), (.bool false), (.bool false), (.bool false), (.bool false), (.bool false), (.bool false), (.bool false), (.bool false), (.bool false), (.bool false), (.bool false), (.bool false), (.bool false), (.bool false), (.bool false), (.bool false), (.bool false), (.bool false), (.bool false), (.bool false), (.bool false), (.bool false), (.bool false), (.bool false), (.bool false), (.bool false), (.bool false), (.bool false), (.bool false), (.bool false), (.bool false), (.bool false), (.bool false), (.bool false), (.bool false), (.bool false), (.bool false), (.bool false), (.bool false), (.bool false), (.bool false), (.bool false), (.bool false), (.bool false), (.bool false), (.bool false), (.bool false), (.bool false), (.bool false), (.bool false), (.bool false), (.bool false), (.bool false), (.bool false), (.bool false), (.bool false), (.bool false), (.bool false), (.bool false), (.bool false), (.bool false), (.bool false), (.bool false), (.bool false), (.bool false), (.bool false), (.bool false), (.bool false), (.bool false), (.bool false), (.bool false), (.bool false), (.bool false), (.bool false), (.bool false), (.bool false), (.bool false), (.bool false), (.bool false), (.bool false), (.bool false), (.bool false), (.bool false), (.bool false), (.bool false), (.bool false), (.bool false), (.bool false), (.bool false), (.bool false), (.bool false), (.bool false), (.bool false), (.bool false), (.bool false), (.bool false), (.bool false), (.bool false), (.bool false), (.bool false), (.bool false), (.bool false), (.bool false), (.bool false), (.bool false), (.bool false), (.bool false), (.bool false), (.bool false), (.bool false), (.bool false), (.bool false), (.bool false), (.bool false), (.bool false), (.bool false), (.bool false), (.bool false), (.bool false), (.bool false), (.bool false), (.bool false), (.bool false), (.bool false), (.bool false), (.bool false), (.bool false), (.bool false), (.bool false), (.bool false), (.bool false), (.bool false), (.bool false), (.bool false), (.bool false), (.bool false), (.bool false), (.bool false)]) true none, none⟩,
 ⟨none, .store 256 (.t 5) (.t 32), none⟩,
 ⟨(some 6), .mov (.t 33), none⟩])
 (.seq (.reg [⟨(some 34), .mov (.t 6), none⟩])
 (.cond (.t 34) (.seq (.reg [⟨(some 35), .mov (.t 0), none⟩,
 ⟨(some 36), .call (.k (.func (.func 88) [] [])) [(.t 35), (.t 5)], none⟩,
 ⟨(some 37), .call (.k (.func (.func 87) [] [])) [(.t 36), (.t 5)], none⟩,
 ⟨(some 4), .mov (.t 37), none⟩])
 .ret)
 .skip)))
 (.seq (.reg [⟨(some 38), .mov (.t 0), none⟩,
 ⟨(some 39), .mov (.t 1), none⟩,
 ⟨(some 40), .call (.k (.func (.func 90) [] [])) [(.t 38), (.t 39)], none⟩,
 ⟨(some 41), .mov (.t 1), none⟩,
 ⟨(some 42), .call (.k (.func (.func 89) [] [])) [(.t 40), (.t 41)], none⟩,
 ⟨(some 4), .mov (.t 42), none⟩])
 .ret))))),
 [], false⟩

def a78 : AFunc := ⟨5, [.tmp 2],
 (.seq (.reg [⟨(some 2), .mov (.k (.int .u8 0)), none⟩])
 (.seq (.reg [⟨(some 3), .mov (.t 0), none⟩,
 ⟨(some 4), .bin .or (.t 3) (.k (.int .u8 32)), none⟩,
 ⟨(some 2), .mov (.t 4), none⟩])
 .ret)),
 [], false⟩

def a79_0 : ACode := (.seq (.seq (.reg [⟨(some 51), .mov (.t 4), none⟩,
 ⟨(some 52), .mov (.t 0), none⟩,
 ⟨(some 53), .lenStr (.t 52), none⟩,
 ⟨(some 54), .bin .lss (.t 51) (.t 53), none⟩])
 (.cond (.t 54) .skip
 (.exit 0)))
 (.seq (.block 1 (.seq (.seq (.reg [⟨(some 57), .mov (.t 0), none⟩,
 ⟨(some 58), .mov (.t 4), none⟩,
 ⟨(some 59), .indexStr (.t 57) (.t 58), none⟩,
 ⟨(some 60), .bin .leq (.k (.int .u8 48)) (.t 59), none⟩,
 ⟨(some 61), .mov (.t 60), none⟩,
 ⟨(some 62), .mov (.t 0), some (61, true)⟩,
 ⟨(some 63), .mov (.t 4), some (61, true)⟩,
 ⟨(some 64), .indexStr (.t 62) (.t 63), some (61, true)⟩,
 ⟨(some 65), .bin .leq (.t 64) (.k (.int .u8 57)), some (61, true)⟩,
 ⟨(some 66), .pick (.t 61) (.t 65) (.k (.bool false)), none⟩,
 ⟨(some 67), .mov (.t 66), none⟩,
 ⟨(some 68), .mov (.t 5), some (67, false)⟩,
 ⟨(some 69), .mov (.t 68), some (67, false)⟩,
 ⟨(some 70), .mov (.t 0), some (69, true)⟩,
 ⟨(some 71), .mov (.t 4), some (69, true)⟩,
 ⟨(some 72), .indexStr (.t 70) (.t 71), some (69, true)⟩,
 ⟨(some 73), .call (.k (.func (.func 78) [] [])) [(.t 72)], some (69, true)⟩,
 ⟨(some 74), .bin .leq (.k (.int .u8 97)) (.t 73), some (69, true)⟩,
 ⟨(some 75), .pick (.t 69) (.t 74) (.k (.bool false)), some (67, false)⟩,
 ⟨(some 76), .mov (.t 75), some (67, false)⟩,
 ⟨(some 77), .mov (.t 0), some (76, true)⟩,
 ⟨(some 78), .mov (.t 4), some (76, true)⟩,
 ⟨(some 79), .indexStr (.t 77) (.t 78), some (76, true)⟩,
 ⟨(some 80), .call (.k (.func (.func 78) [] [])) [(.t 79)], some (76, true)⟩,
 ⟨(some 81), .bin .leq (.t 80) (.k (.int .u8 102)), some (76, true)⟩,
 ⟨(some 82), .pick (.t 76) (.t 81) (.k (.bool false)), some (67, false)⟩,
 ⟨(some 83), .pick (.t 67) (.k (.bool true)) (.t 82), none⟩])
 (.cond (.t 83) (.seq (.reg [⟨(some 3), .mov (.k (.int .i32 48)), none⟩])
 (.exit 1))
 .skip))
 (.seq (.seq (.reg [⟨(some 84), .mov (.t 0), none⟩,
 ⟨(some 85), .mov (.t 4), none⟩,
 ⟨(some 86), .indexStr (.t 84) (.t 85), none⟩,
 ⟨(some 87), .bin .eql (.t 86) (.k (.int .u8 95)), none⟩])
 (.cond (.t 87) (.seq (.seq (.reg [⟨(some 88), .mov (.t 3), none⟩,
 ⟨(some 89), .bin .neq (.t 88) (.k (.int .i32 48)), none⟩])
 (.cond (.t 89) (.seq (.reg [⟨(some 2), .mov (.k (.bool false)), none⟩])
 .ret)
 .skip))
 (.seq (.reg [⟨(some 3), .mov (.k (.int .i32 95)), none⟩])
 (.exit 1)))
 .skip))
 (.seq (.seq (.reg [⟨(some 90), .mov (.t 3), none⟩,
 ⟨(some 91), .bin .eql (.t 90) (.k (.int .i32 95)), none⟩])
 (.cond (.t 91) (.seq (.reg [⟨(some 2), .mov (.k (.bool false)), none⟩])
 .ret)
 .skip))
 (.reg [⟨(some 3), .mov (.k (.int .i32 33)), none⟩])))))
 (.reg [⟨(some 55), .mov (.t 4), none⟩,
 ⟨(some 56), .bin .add (.t 55) (.k (.int .i64 1)), none⟩,
 ⟨(some 4), .mov (.t 56), none⟩])))

def a79 : AFunc := ⟨94, [.tmp 2],
 (.seq (.reg [⟨(some 2), .mov (.k (.bool false)), none⟩])
 (.seq (.reg [⟨(some 3), .mov (.k (.int .i32 94)), none⟩])
 (.seq (.reg [⟨(some 4), .mov (.k (.int .i64 0)), none⟩])
 (.seq (.seq (.reg [⟨(some 6), .mov (.t 0), none⟩,
 ⟨(some 7), .lenStr (.t 6), none⟩,
 ⟨(some 8), .bin .geq (.t 7) (.k (.int .i64 1)), none⟩,
 ⟨(some 9), .mov (.t 8), none⟩,
 ⟨(some 10), .mov (.t 0), some (9, true)⟩,
 ⟨(some 11), .indexStr (.t 10) (.k (.int .i64 0)), some (9, true)⟩,
 ⟨(some 12), .bin .eql (.t 11) (.k (.int .u8 45)), some (9, true)⟩,
 ⟨(some 13), .mov (.t 12), some (9, true)⟩,
 ⟨(some 14), .mov (.t 0), some (13, false)⟩,
 ⟨(some 15), .indexStr (.t 14) (.k (.int .i64 0)), some (13, false)⟩,
 ⟨(some 16), .bin .eql (.t 15) (.k (.int .u8 43)), some (13, false)⟩,
 ⟨(some 17), .pick (.t 13) (.k (.bool true)) (.t 16), some (9, true)⟩,
 ⟨(some 18), .pick (.t 9) (.t 17) (.k (.bool false)), none⟩])
 (.cond (.t 18) (.reg [⟨(some 19), .mov (.t 0), none⟩,
 ⟨(some 20), .sliceStr (.t 19) (some (.k (.int .i64 1))) none, none⟩,
 ⟨(some 0), .mov (.t 20), none⟩])
 .skip))
 (.seq (.reg [⟨(some 5), .mov (.k (.bool false)), none⟩])
 (.seq (.seq (.reg [⟨(some 21), .mov (.t 0), none⟩,
 ⟨(some 22), .lenStr (.t 21), none⟩,
 ⟨(some 23), .bin .geq (.t 22) (.k (.int .i64 2)), none⟩,
 ⟨(some 24), .mov (.t 23), none⟩,
 ⟨(some 25), .mov (.t 0), some (24, true)⟩,
 ⟨(some 26), .indexStr (.t 25) (.k (.int .i64 0)), some (24, true)⟩,
 ⟨(some 27), .bin .eql (.t 26) (.k (.int .u8 48)), some (24, true)⟩,
 ⟨(some 28), .pick (.t 24) (.t 27) (.k (.bool false)), none⟩,
 ⟨(some 29), .mov (.t 28), none⟩,
 ⟨(some 30), .mov (.t 0), some (29, true)⟩,
 ⟨(some 31), .indexStr (.t 30) (.k (.int .i64 1)), some (29, true)⟩,
 ⟨(some 32), .call (.k (.func (.func 78) [] [])) [(.t 31)], some (29, true)⟩,
 ⟨(some 33), .bin .eql (.t 32) (.k (.int .u8 98)), some (29, true)⟩,
 ⟨(some 34), .mov (.t 33), some (29, true)⟩,
 ⟨(some 35), .mov (.t 0), some (34, false)⟩,
 ⟨(some 36), .indexStr (.t 35) (.k (.int .i64 1)), some (34, false)⟩,
 ⟨(some 37), .call (.k (.func (.func 78) [] [])) [(.t 36)], some (34, false)⟩,
 ⟨(some 38), .bin .eql (.t 37) (.k (.int .u8 111)), some (34, false)⟩,
 ⟨(some 39), .pick (.t 34) (.k (.bool true)) (.t 38), some (29, true)⟩,
 ⟨(some 40), .mov (.t 39), some (29, true)⟩,
 ⟨(some 41), .mov (.t 0), some (40, false)⟩,
 ⟨(some 42), .indexStr (.t 41) (.k (.int .i64 1)), some (40, false)⟩,
 ⟨(some 43), .call (.k (.func (.func 78) [] [])) [(.t 42)], some (40, false)⟩,
 ⟨(some 44), .bin .eql (.t 43) (.k (.int .u8 120)), some (40, false)⟩,
 ⟨(some 45), .pick (.t 40) (.k (.bool true)) (.t 44), some (29, true)⟩,
 ⟨(some 46), .pick (.t 29) (.t 45) (.k (.bool false)), none⟩])
 (.cond (.t 46) (.seq (.reg [⟨(some 4), .mov (.k (.int .i64 2)), none⟩])
 (.seq (.reg [⟨(some 3), .mov (.k (.int .i32 48)), none⟩])
 (.reg [⟨(some 47), .mov (.t 0), none⟩,
 ⟨(some 48), .indexStr (.t 47) (.k (.int .i64 1)), none⟩,
 ⟨(some 49), .call (.k (.func (.func 78) [] [])) [(.t 48)], none⟩,
 ⟨(some 50), .bin .eql (.t 49) (.k (.int .u8 120)), none⟩,
 ⟨(some 5), .mov (.t 50), none⟩])))
 .skip))
 (.seq (.block 0 (.loop a79_0))
 (.seq (.reg [⟨(some 92), .mov (.t 3), none⟩,
 ⟨(some 93), .bin .neq (.t 92) (.k (.int .i32 95)), none⟩,
 ⟨(some 2), .mov (.t 93), none⟩])
 .ret)))))))),
 [], false⟩

def a82 : AFunc := ⟨16, [.tmp 6],
 (.seq (.reg [⟨(some 6), .mov (.k .nilPtr), none⟩])
 (.seq (.reg [⟨(some 7), .mov (.t 0), none⟩,
 ⟨(some 8), .mov (.t 1), none⟩,
 ⟨(some 9), .call (.k (.func (.func 91) [] [])) [(.t 8)], none⟩,
 ⟨(some 10), .mov (.t 2), none⟩,
 ⟨(some 11), .call (.k (.func (.func 93) [] [])) [(.t 10)], none⟩,
 ⟨(some 12), .bin .add (.k (.str [105, 110, 118, 97, 108, 105, 100, 32, 98, 97, 115, 101, 32])) (.t 11), none⟩,
 ⟨(some 13), .call (.k (.func (.func 92) [] [])) [(.t 12)], none⟩,
 ⟨(some 14), .build [(.str []), (.str []), .nilIface] [(0, 1, (.t 7)), (1, 1, (.t 9)), (2, 1, (.t 13))], none⟩,
 ⟨(some 15), .box 3 (.t 14) false, none⟩,
 ⟨(some 6), .mov (.t 15), none⟩])
 .ret)),
 [], true⟩

def a83 : AFunc := ⟨16, [.tmp 6],
 (.seq (.reg [⟨(some 6), .mov (.k .nilPtr), none⟩])
 (.seq (.reg [⟨(some 7), .mov (.t 0), none⟩,
 ⟨(some 8), .mov (.t 1), none⟩,
 ⟨(some 9), .call (.k (.func (.func 91) [] [])) [(.t 8)], none⟩,
 ⟨(some 10), .mov (.t 2), none⟩,
 ⟨(some 11), .call (.k (.func (.func 93) [] [])) [(.t 10)], none⟩,
 ⟨(some 12), .bin .add (.k (.str [105, 110, 118, 97, 108, 105, 100, 32, 98, 105, 116, 32, 115, 105, 122, 101, 32])) (.t 11), none⟩,
 ⟨(some 13), .call (.k (.func (.func 92) [] [])) [(.t 12)], none⟩,
 ⟨(some 14), .build [(.str []), (.str []), .nilIface] [(0, 1, (.t 7)), (1, 1, (.t 9)), (2, 1, (.t 13))], none⟩,
 ⟨(some 15), .box 3 (.t 14) false, none⟩,
 ⟨(some 6), .mov (.t 15), none⟩])
 .ret)),
 [], true⟩

def a84_0 : ACode := (.seq (.seq (.reg [⟨(some 5), .mov (.t 0), none⟩,
 ⟨(some 6), .lenStr (.t 5), none⟩,
 ⟨(some 7), .bin .gtr (.t 6) (.k (.int .i64 0)), none⟩,
 ⟨(some 8), .mov (.t 7), none⟩,
 ⟨(some 9), .mov (.t 0), some (8, true)⟩,
 ⟨(some 10), .indexStr (.t 9) (.k (.int .i64 0)), some (8, true)⟩,
 ⟨(some 11), .mov (.t 1), some (8, true)⟩,
 ⟨(some 12), .bin .eql (.t 10) (.t 11), some (8, true)⟩,
 ⟨(some 13), .pick (.t 8) (.t 12) (.k (.bool false)), none⟩])
 (.cond (.t 13) .skip
 (.exit 0)))
 (.block 1 (.reg [⟨(some 14), .mov (.t 0), none⟩,
 ⟨(some 15), .sliceStr (.t 14) (some (.k (.int .i64 1))) none, none⟩,
 ⟨(some 0), .mov (.t 15), none⟩])))

def a84 : AFunc := ⟨17, [.tmp 4],
 (.seq (.reg [⟨(some 4), .mov (.k (.str [])), none⟩])
 (.seq (.block 0 (.loop a84_0))
 (.seq (.reg [⟨(some 16), .mov (.t 0), none⟩,
 ⟨(some 4), .mov (.t 16), none⟩])
 .ret))),
 [], false⟩

def a85_0 : ACode := (.seq (.seq (.reg [⟨(some 5), .mov (.t 0), none⟩,
 ⟨(some 6), .lenStr (.t 5), none⟩,
 ⟨(some 7), .bin .gtr (.t 6) (.k (.int .i64 0)), none⟩,
 ⟨(some 8), .mov (.t 7), none⟩,
 ⟨(some 9), .mov (.t 0), some (8, true)⟩,
 ⟨(some 10), .mov (.t 0), some (8, true)⟩,
 ⟨(some 11), .lenStr (.t 10), some (8, true)⟩,
 ⟨(some 12), .bin .sub (.t 11) (.k (.int .i64 1)), some (8, true)⟩,
 ⟨(some 13), .indexStr (.t 9) (.t 12), some (8, true)⟩,
 ⟨(some 14), .mov (.t 1), some (8, true)⟩,
 ⟨(some 15), .bin .eql (.t 13) (.t 14), some (8, true)⟩,
 ⟨(some 16), .pick (.t 8) (.t 15) (.k (.bool false)), none⟩])
 (.cond (.t 16) .skip
 (.exit 0)))
 (.block 1 (.reg [⟨(some 17), .mov (.t 0), none⟩,
 ⟨(some 18), .mov (.t 0), none⟩,
 ⟨(some 19), .lenStr (.t 18), none⟩,
 ⟨(some 20), .bin .sub (.t 19) (.k (.int .i64 1)), none⟩,
 ⟨(some 21), .sliceStr (.t 17) none (some (.t 20)), none⟩,
 ⟨(some 0), .mov (.t 21), none⟩])))

def a85 : AFunc := ⟨23, [.tmp 4],
 (.seq (.reg [⟨(some 4), .mov (.k (.str [])), none⟩])
 (.seq (.block 0 (.loop a85_0))
 (.seq (.reg [⟨(some 22), .mov (.t 0), none⟩,
 ⟨(some 4), .mov (.t 22), none⟩])
 .ret))),
 [], false⟩

def a86_0 : ACode := (.seq (.seq (.reg [⟨(some 6), .mov (.t 4), none⟩,
 ⟨(some 7), .mov (.t 0), none⟩,
 ⟨(some 8), .lenStr (.t 7), none⟩,
 ⟨(some 9), .bin .lss (.t 6) (.t 8), none⟩])
 (.cond (.t 9) .skip
 (.exit 0)))
 (.seq (.block 1 (.seq (.reg [⟨(some 12), .mov (.t 0), none⟩,
 ⟨(some 13), .mov (.t 4), none⟩,
 ⟨(some 14), .indexStr (.t 12) (.t 13), none⟩,
 ⟨(some 5), .mov (.t 14), none⟩])
 (.seq (.seq (.reg [⟨(some 15), .mov (.t 5), none⟩,
 ⟨(some 16), .bin .geq (.t 15) (.k (.int .u8 128)), none⟩])
 (.cond (.t 16) (.seq (.reg [⟨(some 17), .load 256 true (.t 2), none⟩,
 ⟨none, .store 256 (.t 2) (.t 17), none⟩,
 ⟨(some 3), .mov (.k (.bool false)), none⟩])
 .ret)
 .skip))
 (.reg [⟨(some 18), .mov (.t 5), none⟩,
 ⟨(some 19), .indexAddr 1 false (some 256) (.t 2) (.t 18), none⟩,
 ⟨none, .store 1 (.t 19) (.k (.bool true)), none⟩]))))
 (.reg [⟨(some 10), .mov (.t 4), none⟩,
 ⟨(some 11), .bin .add (.t 10) (.k (.int .i64 1)), none⟩,
 ⟨(some 4), .mov (.t 11), none⟩])))

def a86 : AFunc := ⟨21, [.cell 2 256 true, .tmp 3],
 (.seq (.reg [⟨(some 2), .new (.agg [(.bool false), (.bool false), (.bool false), (.bool false), (.bool false), (.bool false), (.bool false), (.bool false), (.bool false), (.bool false), (.bool false), (.bool false), (.bool false), (.bool false), (.bool false), (.bool false), (.bool false), (.bool false), (.bool false), (.bool false), (.bool false), (.bool false), (.bool false), (.bool false), (.bool false), (.bool false), (.bool false), (.bool false), (.bool false), (.bool false), (.bool false), (.bool false), (.bool false), (.bool false), (.bool false), (.bool false), (.bool false), (.bool false), (.bool false), (.bool false), (.bool false), (.bool false), (.bool false), (.bool false), (.bool false), (.bool false), (.bool false), (.bool false), (.bool false), (.bool false), (.bool false), (.bool false), (.bool false), (.bool false), (.bool false), (.bool false), (.bool false), (.bool false), (.bool false), (.bool false), (.bool false), (.bool false), (.bool false), (.bool false), (.bool false), (.bool false), (.bool false), (.bool false), (.bool false), (.bool false), (.bool false), (.bool false), (.bool false), (.bool false), (.bool false), (.bool false), (.bool false), (.bool false), (.bool false), (.bool false), (.bool false), (.bool false), (.bool false), (.bool false), (.bool false), (.bool false), (.bool false), (.bool false), (.bool false), (.bool false), (.bool false), (.bool false), (.bool false), (.bool false), (.bool false), (.bool false), (.bool false), (.bool false), (.bool false), (.bool false), (.bool false), (.bool false), (.bool false), (.bool false), (.bool false), (.bool false), (.bool false), (.bool false), (.bool false), (.bool false), (.bool false), (.bool false), (.bool false), (.bool false), (.bool false), (.bool false), (.bool false), (.bool false), (.bool false), (.bool false), (.bool false), (.bool false), (.bool false), (.bool false), (.bool false), (.bool false), (.bool false), (.bool false), (.bool false), (.bool false), (.bool false), (.bool false), (.bool false), (.bool false), (.bool false), (.bool false), (.bool false), (.bool false), (.bool false), (.bool false), (.bool false), (.bool false), (.bool false), (.bool false), (.bool false), (.bool false), (.bool false), (.bool false), (.bool false), (.bool false), (.bool false), (.bool false), (.bool false), (.bool false), (.bool false), (.bool false), (.bool false), (.bool false), (.bool false), (.bool false), (.bool false), (.bool false), (.bool false), (.bool false), (.bool false), (.bool false), (.bool false), (.bool false), (.bool false), (.bool false), (.bool false), (.bool false), (.bool false), (.bool false), (.bool false), (.bool false), (.bool false), (.bool false), (.bool false), (.bool false), (.bool false), (.bool false), (.bool false), (.bool false), (.bool false), (.bool false), (.bool false), (.bool false), (.bool false), (.bool false), (.bool false), (.bool false), (.bool false), (.bool false), (.bool false), (.bool false), (.bool false), (.bool false), (.bool false), (.bool false), (.bool false), (.bool false), (.bool false), (.bool false), (.bool false), (.bool false), (.bool false), (.bool false), (.bool false), (.bool false), (.bool false), (.bool false), (.bool false), (.bool false), (.bool false), (.bool false), (.bool false), (.bool false), (.bool false), (.bool false), (.bool false), (.bool false), (.bool false), (.bool false), (.bool false), (.bool false), (.bool false), (.bool false), (.bool false), (.bool false), (.bool false), (.bool false), (.bool false), (.bool false), (.bool false), (.bool false), (.bool false), (.bool false), (.bool false), (.bool false), (.bool false), (.bool false), (.bool false), (.bool false), (.bool false), (.bool false), (.bool false), (.bool false), (.bool false), (.bool false), (.bool false), (.bool false), (.bool false), (.bool false), (.bool false), (.bool false)]) true none, none⟩,
 ⟨(some 3), .mov (.k (.bool false)), none⟩])
 (.seq (.seq (.reg [⟨(some 4), .mov (.k (.int .i64 0)), none⟩])
 (.block 0 (.loop a86_0)))
 (.seq (.reg [⟨(some 20), .load 256 true (.t 2), none⟩,
 ⟨none, .store 256 (.t 2) (.t 20), none⟩,
 ⟨(some 3), .mov (.k (.bool true)), none⟩])
 .ret))),
 [], false⟩

def a87_0 : ACode := (.seq (.seq (.reg [⟨(some 5), .mov (.t 0), none⟩,
 ⟨(some 6), .lenStr (.t 5), none⟩,
 ⟨(some 7), .bin .gtr (.t 6) (.k (.int .i64 0)), none⟩])
 (.cond (.t 7) .skip
 (.exit 0)))
 (.block 1 (.seq (.seq (.reg [⟨(some 8), .mov (.t 1), none⟩,
 ⟨(some 9), .mov (.t 0), none⟩,
 ⟨(some 10), .indexStr (.t 9) (.k (.int .i64 0)), none⟩,
 ⟨(some 11), .call (.k (.func (.func 94) [] [])) [(.t 8), (.t 10)], none⟩,
 ⟨(some 12), .un .not (.t 11), none⟩])
 (.cond (.t 12) (.exit 0)
 .skip))
 (.reg [⟨(some 13), .mov (.t 0), none⟩,
 ⟨(some 14), .sliceStr (.t 13) (some (.k (.int .i64 1))) none, none⟩,
 ⟨(some 0), .mov (.t 14), none⟩]))))

def a87 : AFunc := ⟨16, [.tmp 4],
 (.seq (.reg [⟨(some 4), .mov (.k (.str [])), none⟩])
 (.seq (.block 0 (.loop a87_0))
 (.seq (.reg [⟨(some 15), .mov (.t 0), none⟩,
 ⟨(some 4), .mov (.t 15), none⟩])
 .ret))),
 [], true⟩

def a88_0 : ACode := (.seq (.seq (.reg [⟨(some 5), .mov (.t 0), none⟩,
 ⟨(some 6), .lenStr (.t 5), none⟩,
 ⟨(some 7), .bin .gtr (.t 6) (.k (.int .i64 0)), none⟩])
 (.cond (.t 7) .skip
 (.exit 0)))
 (.block 1 (.seq (.seq (.reg [⟨(some 8), .mov (.t 1), none⟩,
 ⟨(some 9), .mov (.t 0), none⟩,
 ⟨(some 10), .mov (.t 0), none⟩,
 ⟨(some 11), .lenStr (.t 10), none⟩,
 ⟨(some 12), .bin .sub (.t 11) (.k (.int .i64 1)), none⟩,
 ⟨(some 13), .indexStr (.t 9) (.t 12), none⟩,
 ⟨(some 14), .call (.k (.func (.func 94) [] [])) [(.t 8), (.t 13)], none⟩,
 ⟨(some 15), .un .not (.t 14), none⟩])
 (.cond (.t 15) (.exit 0)
 .skip))
 (.reg [⟨(some 16), .mov (.t 0), none⟩,
 ⟨(some 17), .mov (.t 0), none⟩,
 ⟨(some 18), .lenStr (.t 17), none⟩,
 ⟨(some 19), .bin .sub (.t 18) (.k (.int .i64 1)), none⟩,
 ⟨(some 20), .sliceStr (.t 16) none (some (.t 19)), none⟩,
 ⟨(some 0), .mov (.t 20), none⟩]))))

def a88 : AFunc := ⟨22, [.tmp 4],
 (.seq (.reg [⟨(some 4), .mov (.k (.str [])), none⟩])
 (.seq (.block 0 (.loop a88_0))
 (.seq (.reg [⟨(some 21), .mov (.t 0), none⟩,
 ⟨(some 4), .mov (.t 21), none⟩])
 .ret))),
 [], true⟩

def a89_0 : ACode := (.seq (.seq (.reg [⟨(some 7), .mov (.t 0), none⟩,
 ⟨(some 8), .lenStr (.t 7), none⟩,
 ⟨(some 9), .bin .gtr (.t 8) (.k (.int .i64 0)), none⟩])
 (.cond (.t 9) .skip
 (.exit 0)))
 (.block 1 (.seq (.reg [⟨(some 11), .mov (.t 0), none⟩,
 ⟨(some 12), .call (.k (.func (.func 95) [] [])) [(.t 11)], none⟩,
 ⟨(some 10), .mov (.t 12), none⟩,
 ⟨(some 13), .extract (.t 10) 0, none⟩,
 ⟨(some 14), .extract (.t 10) 1, none⟩,
 ⟨(some 5), .mov (.t 13), none⟩,
 ⟨(some 6), .mov (.t 14), none⟩])
 (.seq (.seq (.reg [⟨(some 15), .mov (.t 1), none⟩,
 ⟨(some 16), .mov (.t 5), none⟩,
 ⟨(some 17), .call (.k (.func (.func 96) [] [])) [(.t 15), (.t 16)], none⟩,
 ⟨(some 18), .un .not (.t 17), none⟩])
 (.cond (.t 18) (.exit 0)
 .skip))
 (.reg [⟨(some 19), .mov (.t 0), none⟩,
 ⟨(some 20), .mov (.t 6), none⟩,
 ⟨(some 21), .sliceStr (.t 19) (some (.t 20)) none, none⟩,
 ⟨(some 0), .mov (.t 21), none⟩])))))

def a89 : AFunc := ⟨23, [.tmp 4],
 (.seq (.reg [⟨(some 4), .mov (.k (.str [])), none⟩])
 (.seq (.block 0 (.loop a89_0))
 (.seq (.reg [⟨(some 22), .mov (.t 0), none⟩,
 ⟨(some 4), .mov (.t 22), none⟩])
 .ret))),
 [], false⟩

def a90_0 : ACode := (.seq (.seq (.reg [⟨(some 7), .mov (.t 0), none⟩,
 ⟨(some 8), .lenStr (.t 7), none⟩,
 ⟨(some 9), .bin .gtr (.t 8) (.k (.int .i64 0)), none⟩])
 (.cond (.t 9) .skip
 (.exit 0)))
 (.block 1 (.seq (.reg [⟨(some 10), .mov (.t 0), none⟩,
 ⟨(some 11), .mov (.t 0), none⟩,
 ⟨(some 12), .lenStr (.t 11), none⟩,
 ⟨(some 13), .bin .sub (.t 12) (.k (.int .i64 1)), none⟩,
 ⟨(some 14), .indexStr (.t 10) (.t 13), none⟩,
 ⟨(some 15), .convInt .i32 (.t 14), none⟩,
 ⟨(some 5), .mov (.t 15), none⟩,
 ⟨(some 6), .mov (.k (.int .i64 1)), none⟩])
 (.seq (.seq (.reg [⟨(some 16), .mov (.t 5), none⟩,
 ⟨(some 17), .bin .geq (.t 16) (.k (.int .i32 128)), none⟩])
 (.cond (.t 17) (.reg [⟨(some 19), .mov (.t 0), none⟩,
 ⟨(some 20), .call (.k (.func (.func 97) [] [])) [(.t 19)], none⟩,
 ⟨(some 18), .mov (.t 20), none⟩,
 ⟨(some 21), .extract (.t 18) 0, none⟩,
 ⟨(some 22), .extract (.t 18) 1, none⟩,
 ⟨(some 5), .mov (.t 21), none⟩,
 ⟨(some 6), .mov (.t 22), none⟩])
 .skip))
 (.seq (.seq (.reg [⟨(some 23), .mov (.t 1), none⟩,
 ⟨(some 24), .mov (.t 5), none⟩,
 ⟨(some 25), .call (.k (.func (.func 96) [] [])) [(.t 23), (.t 24)], none⟩,
 ⟨(some 26), .un .not (.t 25), none⟩])
 (.cond (.t 26) (.exit 0)
 .skip))
 (.reg [⟨(some 27), .mov (.t 0), none⟩,
 ⟨(some 28), .mov (.t 0), none⟩,
 ⟨(some 29), .lenStr (.t 28), none⟩,
 ⟨(some 30), .mov (.t 6), none⟩,
 ⟨(some 31), .bin .sub (.t 29) (.t 30), none⟩,
 ⟨(some 32), .sliceStr (.t 27) none (some (.t 31)), none⟩,
 ⟨(some 0), .mov (.t 32), none⟩]))))))

def a90 : AFunc := ⟨34, [.tmp 4],
 (.seq (.reg [⟨(some 4), .mov (.k (.str [])), none⟩])
 (.seq (.block 0 (.loop a90_0))
 (.seq (.reg [⟨(some 33), .mov (.t 0), none⟩,
 ⟨(some 4), .mov (.t 33), none⟩])
 .ret))),
 [], false⟩

def a92 : AFunc := ⟨7, [.tmp 2],
 (.seq (.reg [⟨(some 2), .mov (.k .nilIface), none⟩])
 (.seq (.reg [⟨(some 3), .mov (.t 0), none⟩,
 ⟨(some 4), .build [(.str [])] [(0, 1, (.t 3))], none⟩,
 ⟨(some 5), .box 1 (.t 4) false, none⟩,
 ⟨(some 6), .mkIface 131 (.t 5), none⟩,
 ⟨(some 2), .mov (.t 6), none⟩])
 .ret)),
 [], false⟩

def a93 : AFunc := ⟨5, [.tmp 2],
 (.seq (.reg [⟨(some 2), .mov (.k (.str [])), none⟩])
 (.seq (.reg [⟨(some 3), .mov (.t 0), none⟩,
 ⟨(some 4), .call (.k (.func (.func 98) [] [])) [(.t 3)], none⟩,
 ⟨(some 2), .mov (.t 4), none⟩])
 .ret)),
 [], false⟩

def a94 : AFunc := ⟨10, [.tmp 4],
 (.seq (.reg [⟨(some 4), .mov (.k (.bool false)), none⟩])
 (.seq (.reg [⟨(some 5), .mov (.t 0), none⟩,
 ⟨(some 6), .mov (.t 1), none⟩,
 ⟨(some 7), .nilCheck (.t 5), none⟩,
 ⟨(some 8), .indexAddr 1 false (some 256) (.t 7) (.t 6), none⟩,
 ⟨(some 9), .load 1 false (.t 8), none⟩,
 ⟨(some 4), .mov (.t 9), none⟩])
 .ret)),
 [], true⟩

def a95 : AFunc := ⟨19, [.tmp 2, .tmp 3],
 (.seq (.reg [⟨(some 2), .mov (.k (.int .i32 0)), none⟩,
 ⟨(some 3), .mov (.k (.int .i64 0)), none⟩])
 (.seq (.seq (.reg [⟨(some 4), .mov (.t 0), none⟩,
 ⟨(some 5), .bin .neq (.t 4) (.k (.str [])), none⟩,
 ⟨(some 6), .mov (.t 5), none⟩,
 ⟨(some 7), .mov (.t 0), some (6, true)⟩,
 ⟨(some 8), .indexStr (.t 7) (.k (.int .i64 0)), some (6, true)⟩,
 ⟨(some 9), .bin .lss (.t 8) (.k (.int .u8 128)), some (6, true)⟩,
 ⟨(some 10), .pick (.t 6) (.t 9) (.k (.bool false)), none⟩])
 (.cond (.t 10) (.seq (.reg [⟨(some 11), .mov (.t 0), none⟩,
 ⟨(some 12), .indexStr (.t 11) (.k (.int .i64 0)), none⟩,
 ⟨(some 13), .convInt .i32 (.t 12), none⟩,
 ⟨(some 2), .mov (.t 13), none⟩,
 ⟨(some 3), .mov (.k (.int .i64 1)), none⟩])
 .ret)
 (.reg [⟨(some 15), .mov (.t 0), none⟩,
 ⟨(some 16), .call (.k (.func (.func 99) [] [])) [(.t 15)], none⟩,
 ⟨(some 14), .mov (.t 16), none⟩,
 ⟨(some 17), .extract (.t 14) 0, none⟩,
 ⟨(some 18), .extract (.t 14) 1, none⟩,
 ⟨(some 2), .mov (.t 17), none⟩,
 ⟨(some 3), .mov (.t 18), none⟩])))
 .ret)),
 [], false⟩

def a96 : AFunc := ⟨9, [.tmp 4],
 (.seq (.reg [⟨(some 4), .mov (.k (.bool false)), none⟩])
 (.seq (.reg [⟨(some 5), .mov (.t 0), none⟩,
 ⟨(some 6), .mov (.t 1), none⟩,
 ⟨(some 7), .call (.k (.func (.func 100) [] [])) [(.t 5), (.t 6)], none⟩,
 ⟨(some 8), .bin .geq (.t 7) (.k (.int .i64 0)), none⟩,
 ⟨(some 4), .mov (.t 8), none⟩])
 .ret)),
 [], false⟩

def a97_0 : ACode := (.seq (.seq (.reg [⟨(some 25), .mov (.t 5), none⟩,
 ⟨(some 26), .mov (.t 6), none⟩,
 ⟨(some 27), .bin .geq (.t 25) (.t 26), none⟩])
 (.cond (.t 27) .skip
 (.exit 0)))
 (.seq (.block 1 (.seq (.reg [⟨(some 30), .mov (.t 0), none⟩,
 ⟨(some 31), .mov (.t 5), none⟩,
 ⟨(some 32), .indexStr (.t 30) (.t 31), none⟩,
 ⟨(some 33), .call (.k (.func (.func 101) [] [])) [(.t 32)], none⟩])
 (.cond (.t 33) (.exit 0)
 .skip)))
 (.reg [⟨(some 28), .mov (.t 5), none⟩,
 ⟨(some 29), .bin .sub (.t 28) (.k (.int .i64 1)), none⟩,
 ⟨(some 5), .mov (.t 29), none⟩])))

def a97 : AFunc := ⟨51, [.tmp 2, .tmp 3],
 (.seq (.reg [⟨(some 2), .mov (.k (.int .i32 0)), none⟩,
 ⟨(some 3), .mov (.k (.int .i64 0)), none⟩])
 (.seq (.reg [⟨(some 7), .mov (.t 0), none⟩,
 ⟨(some 8), .lenStr (.t 7), none⟩,
 ⟨(some 4), .mov (.t 8), none⟩])
 (.seq (.seq (.reg [⟨(some 9), .mov (.t 4), none⟩,
 ⟨(some 10), .bin .eql (.t 9) (.k (.int .i64 0)), none⟩])
 (.cond (.t 10) (.seq (.reg [⟨(some 2), .mov (.k (.int .i32 65533)), none⟩,
 ⟨(some 3), .mov (.k (.int .i64 0)), none⟩])
 .ret)
 .skip))
 (.seq (.reg [⟨(some 11), .mov (.t 4), none⟩,
 ⟨(some 12), .bin .sub (.t 11) (.k (.int .i64 1)), none⟩,
 ⟨(some 5), .mov (.t 12), none⟩])
 (.seq (.reg [⟨(some 13), .mov (.t 0), none⟩,
 ⟨(some 14), .mov (.t 5), none⟩,
 ⟨(some 15), .indexStr (.t 13) (.t 14), none⟩,
 ⟨(some 16), .convInt .i32 (.t 15), none⟩,
 ⟨(some 2), .mov (.t 16), none⟩])
 (.seq (.seq (.reg [⟨(some 17), .mov (.t 2), none⟩,
 ⟨(some 18), .bin .lss (.t 17) (.k (.int .i32 128)), none⟩])
 (.cond (.t 18) (.seq (.reg [⟨(some 19), .mov (.t 2), none⟩,
 ⟨(some 2), .mov (.t 19), none⟩,
 ⟨(some 3), .mov (.k (.int .i64 1)), none⟩])
 .ret)
 .skip))
 (.seq (.reg [⟨(some 20), .mov (.t 4), none⟩,
 ⟨(some 21), .bin .sub (.t 20) (.k (.int .i64 4)), none⟩,
 ⟨(some 22), .minmax true [(.t 21), (.k (.int .i64 0))], none⟩,
 ⟨(some 6), .mov (.t 22), none⟩])
 (.seq (.seq (.reg [⟨(some 23), .mov (.t 5), none⟩,
 ⟨(some 24), .bin .sub (.t 23) (.k (.int .i64 1)), none⟩,
 ⟨(some 5), .mov (.t 24), none⟩])
 (.block 0 (.loop a97_0)))
 (.seq (.seq (.reg [⟨(some 34), .mov (.t 5), none⟩,
 ⟨(some 35), .bin .lss (.t 34) (.k (.int .i64 0)), none⟩])
 (.cond (.t 35) (.reg [⟨(some 5), .mov (.k (.int .i64 0)), none⟩])
 .skip))
 (.seq (.reg [⟨(some 37), .mov (.t 0), none⟩,
 ⟨(some 38), .mov (.t 5), none⟩,
 ⟨(some 39), .mov (.t 4), none⟩,
 ⟨(some 40), .sliceStr (.t 37) (some (.t 38)) (some (.t 39)), none⟩,
 ⟨(some 41), .call (.k (.func (.func 95) [] [])) [(.t 40)], none⟩,
 ⟨(some 36), .mov (.t 41), none⟩,
 ⟨(some 42), .extract (.t 36) 0, none⟩,
 ⟨(some 43), .extract (.t 36) 1, none⟩,
 ⟨(some 2), .mov (.t 42), none⟩,
 ⟨(some 3), .mov (.t 43), none⟩])
 (.seq (.seq (.reg [⟨(some 44), .mov (.t 5), none⟩,
 ⟨(some 45), .mov (.t 3), none⟩,
 ⟨(some 46), .bin .add (.t 44) (.t 45), none⟩,
 ⟨(some 47), .mov (.t 4), none⟩,
 ⟨(some 48), .bin .neq (.t 46) (.t 47), none⟩])
 (.cond (.t 48) (.seq (.reg [⟨(some 2), .mov (.k (.int .i32 65533)), none⟩,
 ⟨(some 3), .mov (.k (.int .i64 1)), none⟩])
 .ret)
 .skip))
 (.seq (.reg [⟨(some 49), .mov (.t 2), none⟩,
 ⟨(some 50), .mov (.t 3), none⟩,
 ⟨(some 2), .mov (.t 49), none⟩,
 ⟨(some 3), .mov (.t 50), none⟩])
 .ret)))))))))))),
 [], false⟩

def a98 : AFunc := ⟨5, [.tmp 2],
 (.seq (.reg [⟨(some 2), .mov (.k (.str [])), none⟩])
 (.seq (.reg [⟨(some 3), .mov (.t 0), none⟩,
 ⟨(some 4), .call (.k (.func (.func 102) [] [])) [(.t 3), (.k (.int .i64 10))], none⟩,
 ⟨(some 2), .mov (.t 4), none⟩])
 .ret)),
 [], false⟩

def a101 : AFunc := ⟨6, [.tmp 2],
 (.seq (.reg [⟨(some 2), .mov (.k (.bool false)), none⟩])
 (.seq (.reg [⟨(some 3), .mov (.t 0), none⟩,
 ⟨(some 4), .bin .and (.t 3) (.k (.int .u8 192)), none⟩,
 ⟨(some 5), .bin .neq (.t 4) (.k (.int .u8 128)), none⟩,
 ⟨(some 2), .mov (.t 5), none⟩])
 .ret)),
 [], false⟩

def a102 : AFunc := ⟨54, [.tmp 4],
 (.seq (.reg [⟨(some 4), .mov (.k (.str [])), none⟩])
 (.seq (.seq (.reg [⟨(some 10), .mov (.t 1), none⟩,
 ⟨(some 11), .bin .eql (.t 10) (.k (.int .i64 10)), none⟩])
 (.cond (.t 11) (.seq (.seq (.reg [⟨(some 12), .mov (.t 0), none⟩,
 ⟨(some 13), .bin .leq (.k (.int .i64 0)) (.t 12), none⟩,
 ⟨(some 14), .mov (.t 13), none⟩,
 ⟨(some 15), .mov (.t 0), some (14, true)⟩,
 ⟨(some 16), .bin .lss (.t 15) (.k (.int .i64 100)), some (14, true)⟩,
 ⟨(some 17), .pick (.t 14) (.t 16) (.k (.bool false)), none⟩])
 (.cond (.t 17) (.seq (.reg [⟨(some 18), .mov (.t 0), none⟩,
 ⟨(some 19), .call (.k (.func (.func 104) [] [])) [(.t 18)], none⟩,
 ⟨(some 4), .mov (.t 19), none⟩])
 .ret)
 .skip))
 (.seq (.reg [⟨(some 5), .new (.agg [(.int .u8 0), (.int .u8 0), (.int .u8 0), (.int .u8 0), (.int .u8 0), (.int .u8 0), (.int .u8 0), (.int .u8 0), (.int .u8 0), (.int .u8 0), (.int .u8 0), (.int .u8 0), (.int .u8 0), (.int .u8 0), (.int .u8 0), (.int .u8 0), (.int .u8 0), (.int .u8 0), (.int .u8 0), (.int .u8 0), (.int .u8 0), (.int .u8 0), (.int .u8 0), (.int .u8 0)]) true none, none⟩])
 (.seq (.reg [⟨(some 20), .mov (.t 0), none⟩,
 ⟨(some 21), .convInt .u64 (.t 20), none⟩,
 ⟨(some 6), .mov (.t 21), none⟩])
 (.seq (.seq (.reg [⟨(some 22), .mov (.t 0), none⟩,
 ⟨(some 23), .bin .lss (.t 22) (.k (.int .i64 0)), none⟩])
 (.cond (.t 23) (.reg [⟨(some 24), .mov (.t 6), none⟩,
 ⟨(some 25), .un .neg (.t 24), none⟩,
 ⟨(some 6), .mov (.t 25), none⟩])
 .skip))
 (.seq (.reg [⟨(some 26), .mov (.t 6), none⟩,
 ⟨(some 27), .call (.k (.func (.func 105) [] [])) [(.t 26)], none⟩,
 ⟨(some 7), .mov (.t 27), none⟩])
 (.seq (.reg [⟨(some 28), .mov (.t 7), none⟩,
 ⟨(some 29), .bin .add (.k (.int .i64 1)) (.t 28), none⟩,
 ⟨(some 30), .sliceArr 24 1 (.t 5) (some (.k (.int .i64 1))) (some (.t 29)), none⟩,
 ⟨(some 31), .mov (.t 6), none⟩,
 ⟨(some 32), .call (.k (.func (.func 106) [] [])) [(.t 30), (.t 31)], none⟩])
 (.seq (.seq (.reg [⟨(some 33), .mov (.t 0), none⟩,
 ⟨(some 34), .bin .lss (.t 33) (.k (.int .i64 0)), none⟩])
 (.cond (.t 34) (.seq (.reg [⟨(some 35), .indexAddr 1 false (some 24) (.t 5) (.k (.int .i64 0)), none⟩,
 ⟨none, .store 1 (.t 35) (.k (.int .u8 45)), none⟩])
 (.seq (.reg [⟨(some 36), .mov (.t 7), none⟩,
 ⟨(some 37), .bin .add (.k (.int .i64 1)) (.t 36), none⟩,
 ⟨(some 38), .sliceArr 24 1 (.t 5) none (some (.t 37)), none⟩,
 ⟨(some 39), .convStr (.t 38), none⟩,
 ⟨(some 4), .mov (.t 39), none⟩])
 .ret))
 .skip))
 (.seq (.reg [⟨(some 40), .mov (.t 7), none⟩,
 ⟨(some 41), .bin .add (.k (.int .i64 1)) (.t 40), none⟩,
 ⟨(some 42), .sliceArr 24 1 (.t 5) (some (.k (.int .i64 1))) (some (.t 41)), none⟩,
 ⟨(some 43), .convStr (.t 42), none⟩,
 ⟨(some 4), .mov (.t 43), none⟩])
 .ret))))))))
 .skip))
 (.seq (.reg [⟨(some 45), .mov (.t 0), none⟩,
 ⟨(some 46), .convInt .u64 (.t 45), none⟩,
 ⟨(some 47), .mov (.t 1), none⟩,
 ⟨(some 48), .mov (.t 0), none⟩,
 ⟨(some 49), .bin .lss (.t 48) (.k (.int .i64 0)), none⟩,
 ⟨(some 50), .call (.k (.func (.func 107) [] [])) [(.k (.lst 1 [] .tight)), (.t 46), (.t 47), (.t 49), (.k (.bool false))], none⟩,
 ⟨(some 44), .mov (.t 50), none⟩,
 ⟨(some 51), .extract (.t 44) 0, none⟩,
 ⟨(some 52), .extract (.t 44) 1, none⟩,
 ⟨(some 8), .mov (.t 51), none⟩,
 ⟨(some 9), .mov (.t 52), none⟩])
 (.seq (.reg [⟨(some 53), .mov (.t 9), none⟩,
 ⟨(some 4), .mov (.t 53), none⟩])
 .ret)))),
 [], false⟩

def a103 : AFunc := ⟨17, [.tmp 2],
 (.seq (.reg [⟨(some 2), .mov (.k (.bool false)), none⟩])
 (.seq (.block 0 (.seq (.reg [⟨(some 4), .mov (.t 0), none⟩,
 ⟨(some 5), .bin .leq (.k (.int .i32 0)) (.t 4), none⟩,
 ⟨(some 6), .mov (.t 5), none⟩,
 ⟨(some 7), .mov (.t 0), some (6, true)⟩,
 ⟨(some 8), .bin .lss (.t 7) (.k (.int .i32 55296)), some (6, true)⟩,
 ⟨(some 9), .pick (.t 6) (.t 8) (.k (.bool false)), none⟩,
 ⟨(some 3), .mov (.t 9), none⟩])
 (.cond (.t 3) (.seq (.reg [⟨(some 2), .mov (.k (.bool true)), none⟩])
 .ret)
 (.seq (.reg [⟨(some 11), .mov (.t 0), none⟩,
 ⟨(some 12), .bin .lss (.k (.int .i32 57343)) (.t 11), none⟩,
 ⟨(some 13), .mov (.t 12), none⟩,
 ⟨(some 14), .mov (.t 0), some (13, true)⟩,
 ⟨(some 15), .bin .leq (.t 14) (.k (.int .i32 1114111)), some (13, true)⟩,
 ⟨(some 16), .pick (.t 13) (.t 15) (.k (.bool false)), none⟩,
 ⟨(some 10), .mov (.t 16), none⟩])
 (.cond (.t 10) (.seq (.reg [⟨(some 2), .mov (.k (.bool true)), none⟩])
 .ret)
 .skip)))))
 (.seq (.reg [⟨(some 2), .mov (.k (.bool false)), none⟩])
 .ret))),
 [], false⟩

def a104 : AFunc := ⟨15, [.tmp 2],
 (.seq (.reg [⟨(some 2), .mov (.k (.str [])), none⟩])
 (.seq (.seq (.reg [⟨(some 3), .mov (.t 0), none⟩,
 ⟨(some 4), .bin .lss (.t 3) (.k (.int .i64 10)), none⟩])
 (.cond (.t 4) (.seq (.reg [⟨(some 5), .mov (.t 0), none⟩,
 ⟨(some 6), .mov (.t 0), none⟩,
 ⟨(some 7), .bin .add (.t 6) (.k (.int .i64 1)), none⟩,
 ⟨(some 8), .sliceStr (.k (.str [48, 49, 50, 51, 52, 53, 54, 55, 56, 57, 97, 98, 99, 100, 101, 102, 103, 104, 105, 106, 107, 108, 109, 110, 111, 112, 113, 114, 115, 116, 117, 118, 119, 120, 121, 122])) (some (.t 5)) (some (.t 7)), none⟩,
 ⟨(some 2), .mov (.t 8), none⟩])
 .ret)
 .skip))
 (.seq (.reg [⟨(some 9), .mov (.t 0), none⟩,
 ⟨(some 10), .bin .mul (.t 9) (.k (.int .i64 2)), none⟩,
 ⟨(some 11), .mov (.t 0), none⟩,
 ⟨(some 12), .bin .mul (.t 11) (.k (.int .i64 2)), none⟩,
 ⟨(some 13), .bin .add (.t 12) (.k (.int .i64 2)), none⟩,
 ⟨(some 14), .sliceStr (.k (.str [48, 48, 48, 49, 48, 50, 48, 51, 48, 52, 48, 53, 48, 54, 48, 55, 48, 56, 48, 57, 49, 48, 49, 49, 49, 50, 49, 51, 49, 52, 49, 53, 49, 54, 49, 55, 49, 56, 49, 57, 50, 48, 50, 49, 50, 50, 50, 51, 50, 52, 50, 53, 50, 54, 50, 55, 50, 56, 50, 57, 51, 48, 51, 49, 51, 50, 51, 51, 51, 52, 51, 53, 51, 54, 51, 55, 51, 56, 51, 57, 52, 48, 52, 49, 52, 50, 52, 51, 52, 52, 52, 53, 52, 54, 52, 55, 52, 56, 52, 57, 53, 48, 53, 49, 53, 50, 53, 51, 53, 52, 53, 53, 53, 54, 53, 55, 53, 56, 53, 57, 54, 48, 54, 49, 54, 50, 54, 51, 54, 52, 54, 53, 54, 54, 54, 55, 54, 56, 54, 57, 55, 48, 55, 49, 55, 50, 55, 51, 55, 52, 55, 53, 55, 54, 55, 55, 55, 56, 55, 57, 56, 48, 56, 49, 56, 50, 56, 51, 56, 52, 56, 53, 56, 54, 56, 55, 56, 56, 56, 57, 57, 48, 57, 49, 57, 50, 57, 51, 57, 52, 57, 53, 57, 54, 57, 55, 57, 56, 57, 57])) (some (.t 10)) (some (.t 13)), none⟩,
 ⟨(some 2), .mov (.t 14), none⟩])
 .ret))),
 [], false⟩

def a106_0 : ACode := (.seq (.seq (.reg [⟨(some 19), .mov (.t 4), none⟩,
 ⟨(some 20), .bin .geq (.t 19) (.k (.int .i64 8)), none⟩])
 (.cond (.t 20) .skip
 (.exit 0)))
 (.block 1 (.seq (.reg [⟨(some 21), .mov (.t 1), none⟩,
 ⟨(some 22), .bin .rem (.t 21) (.k (.int .u64 100000000)), none⟩,
 ⟨(some 23), .convInt .u32 (.t 22), none⟩,
 ⟨(some 5), .mov (.t 23), none⟩])
 (.seq (.reg [⟨(some 24), .mov (.t 1), none⟩,
 ⟨(some 25), .bin .quo (.t 24) (.k (.int .u64 100000000)), none⟩,
 ⟨(some 1), .mov (.t 25), none⟩])
 (.seq (.reg [⟨(some 26), .mov (.t 5), none⟩,
 ⟨(some 27), .bin .quo (.t 26) (.k (.int .u32 10000)), none⟩,
 ⟨(some 28), .mov (.t 5), none⟩,
 ⟨(some 29), .bin .rem (.t 28) (.k (.int .u32 10000)), none⟩,
 ⟨(some 6), .mov (.t 27), none⟩,
 ⟨(some 7), .mov (.t 29), none⟩])
 (.seq (.reg [⟨(some 30), .mov (.t 7), none⟩,
 ⟨(some 31), .bin .quo (.t 30) (.k (.int .u32 100)), none⟩,
 ⟨(some 32), .bin .mul (.t 31) (.k (.int .u32 2)), none⟩,
 ⟨(some 33), .mov (.t 7), none⟩,
 ⟨(some 34), .bin .rem (.t 33) (.k (.int .u32 100)), none⟩,
 ⟨(some 35), .bin .mul (.t 34) (.k (.int .u32 2)), none⟩,
 ⟨(some 8), .mov (.t 32), none⟩,
 ⟨(some 9), .mov (.t 35), none⟩])
 (.seq (.reg [⟨(some 36), .mov (.t 6), none⟩,
 ⟨(some 37), .bin .quo (.t 36) (.k (.int .u32 100)), none⟩,
 ⟨(some 38), .bin .mul (.t 37) (.k (.int .u32 2)), none⟩,
 ⟨(some 39), .mov (.t 6), none⟩,
 ⟨(some 40), .bin .rem (.t 39) (.k (.int .u32 100)), none⟩,
 ⟨(some 41), .bin .mul (.t 40) (.k (.int .u32 2)), none⟩,
 ⟨(some 10), .mov (.t 38), none⟩,
 ⟨(some 11), .mov (.t 41), none⟩])
 (.seq (.plan [⟨0, ⟨(some 42), .mov (.t 0), none⟩, []⟩,
 ⟨1, ⟨(some 43), .mov (.t 4), none⟩, []⟩,
 ⟨2, ⟨(some 44), .bin .sub (.t 43) (.k (.int .i64 1)), none⟩, []⟩,
 ⟨3, ⟨(some 45), .mov (.t 0), none⟩, []⟩,
 ⟨4, ⟨(some 46), .mov (.t 4), none⟩, []⟩,
 ⟨5, ⟨(some 47), .bin .sub (.t 46) (.k (.int .i64 2)), none⟩, []⟩,
 ⟨6, ⟨(some 48), .mov (.t 9), none⟩, []⟩,
 ⟨7, ⟨(some 49), .bin .add (.t 48) (.k (.int .u32 1)), none⟩, []⟩,
 ⟨8, ⟨(some 50), .indexStr (.k (.str [48, 48, 48, 49, 48, 50, 48, 51, 48, 52, 48, 53, 48, 54, 48, 55, 48, 56, 48, 57, 49, 48, 49, 49, 49, 50, 49, 51, 49, 52, 49, 53, 49, 54, 49, 55, 49, 56, 49, 57, 50, 48, 50, 49, 50, 50, 50, 51, 50, 52, 50, 53, 50, 54, 50, 55, 50, 56, 50, 57, 51, 48, 51, 49, 51, 50, 51, 51, 51, 52, 51, 53, 51, 54, 51, 55, 51, 56, 51, 57, 52, 48, 52, 49, 52, 50, 52, 51, 52, 52, 52, 53, 52, 54, 52, 55, 52, 56, 52, 57, 53, 48, 53, 49, 53, 50, 53, 51, 53, 52, 53, 53, 53, 54, 53, 55, 53, 56, 53, 57, 54, 48, 54, 49, 54, 50, 54, 51, 54, 52, 54, 53, 54, 54, 54, 55, 54, 56, 54, 57, 55, 48, 55, 49, 55, 50, 55, 51, 55, 52, 55, 53, 55, 54, 55, 55, 55, 56, 55, 57, 56, 48, 56, 49, 56, 50, 56, 51, 56, 52, 56, 53, 56, 54, 56, 55, 56, 56, 56, 57, 57, 48, 57, 49, 57, 50, 57, 51, 57, 52, 57, 53, 57, 54, 57, 55, 57, 56, 57, 57])) (.t 49), none⟩, []⟩,
 ⟨9, ⟨(some 51), .mov (.t 9), none⟩, []⟩,
 ⟨10, ⟨(some 52), .indexStr (.k (.str [48, 48, 48, 49, 48, 50, 48, 51, 48, 52, 48, 53, 48, 54, 48, 55, 48, 56, 48, 57, 49, 48, 49, 49, 49, 50, 49, 51, 49, 52, 49, 53, 49, 54, 49, 55, 49, 56, 49, 57, 50, 48, 50, 49, 50, 50, 50, 51, 50, 52, 50, 53, 50, 54, 50, 55, 50, 56, 50, 57, 51, 48, 51, 49, 51, 50, 51, 51, 51, 52, 51, 53, 51, 54, 51, 55, 51, 56, 51, 57, 52, 48, 52, 49, 52, 50, 52, 51, 52, 52, 52, 53, 52, 54, 52, 55, 52, 56, 52, 57, 53, 48, 53, 49, 53, 50, 53, 51, 53, 52, 53, 53, 53, 54, 53, 55, 53, 56, 53, 57, 54, 48, 54, 49, 54, 50, 54, 51, 54, 52, 54, 53, 54, 54, 54, 55, 54, 56, 54, 57, 55, 48, 55, 49, 55, 50, 55, 51, 55, 52, 55, 53, 55, 54, 55, 55, 55, 56, 55, 57, 56, 48, 56, 49, 56, 50, 56, 51, 56, 52, 56, 53, 56, 54, 56, 55, 56, 56, 56, 57, 57, 48, 57, 49, 57, 50, 57, 51, 57, 52, 57, 53, 57, 54, 57, 55, 57, 56, 57, 57])) (.t 51), none⟩, []⟩,
 ⟨11, ⟨(some 53), .indexAddr 1 false none (.t 42) (.t 44), none⟩, []⟩,
 ⟨12, ⟨none, .store 1 (.t 53) (.t 50), none⟩, []⟩,
 ⟨13, ⟨(some 54), .indexAddr 1 false none (.t 45) (.t 47), none⟩, []⟩,
 ⟨14, ⟨none, .store 1 (.t 54) (.t 52), none⟩, []⟩])
 (.seq (.plan [⟨0, ⟨(some 55), .mov (.t 0), none⟩, []⟩,
 ⟨1, ⟨(some 56), .mov (.t 4), none⟩, []⟩,
 ⟨2, ⟨(some 57), .bin .sub (.t 56) (.k (.int .i64 3)), none⟩, []⟩,
 ⟨3, ⟨(some 58), .mov (.t 0), none⟩, []⟩,
 ⟨4, ⟨(some 59), .mov (.t 4), none⟩, []⟩,
 ⟨5, ⟨(some 60), .bin .sub (.t 59) (.k (.int .i64 4)), none⟩, []⟩,
 ⟨6, ⟨(some 61), .mov (.t 8), none⟩, []⟩,
 ⟨7, ⟨(some 62), .bin .add (.t 61) (.k (.int .u32 1)), none⟩, []⟩,
 ⟨8, ⟨(some 63), .indexStr (.k (.str [48, 48, 48, 49, 48, 50, 48, 51, 48, 52, 48, 53, 48, 54, 48, 55, 48, 56, 48, 57, 49, 48, 49, 49, 49, 50, 49, 51, 49, 52, 49, 53, 49, 54, 49, 55, 49, 56, 49, 57, 50, 48, 50, 49, 50, 50, 50, 51, 50, 52, 50, 53, 50, 54, 50, 55, 50, 56, 50, 57, 51, 48, 51, 49, 51, 50, 51, 51, 51, 52, 51, 53, 51, 54, 51, 55, 51, 56, 51, 57, 52, 48, 52, 49, 52, 50, 52, 51, 52, 52, 52, 53, 52, 54, 52, 55, 52, 56, 52, 57, 53, 48, 53, 49, 53, 50, 53, 51, 53, 52, 53, 53, 53, 54, 53, 55, 53, 56, 53, 57, 54, 48, 54, 49, 54, 50, 54, 51, 54, 52, 54, 53, 54, 54, 54, 55, 54, 56, 54, 57, 55, 48, 55, 49, 55, 50, 55, 51, 55, 52, 55, 53, 55, 54, 55, 55, 55, 56, 55, 57, 56, 48, 56, 49, 56, 50, 56, 51, 56, 52, 56, 53, 56, 54, 56, 55, 56, 56, 56, 57, 57, 48, 57, 49, 57, 50, 57, 51, 57, 52, 57, 53, 57, 54, 57, 55, 57, 56, 57, 57])) (.t 62), none⟩, []⟩,
 ⟨9, ⟨(some 64), .mov (.t 8), none⟩, []⟩,
 ⟨10, ⟨(some 65), .indexStr (.k (.str [48, 48, 48, 49, 48, 50, 48, 51, 48, 52, 48, 53, 48, 54, 48, 55, 48, 56, 48, 57, 49, 48, 49, 49, 49, 50, 49, 51, 49, 52, 49, 53, 49, 54, 49, 55, 49, 56, 49, 57, 50, 48, 50, 49, 50, 50, 50, 51, 50, 52, 50, 53, 50, 54, 50, 55, 50, 56, 50, 57, 51, 48, 51, 49, 51, 50, 51, 51, 51, 52, 51, 53, 51, 54, 51, 55, 51, 56, 51, 57, 52, 48, 52, 49, 52, 50, 52, 51, 52, 52, 52, 53, 52, 54, 52, 55, 52, 56, 52, 57, 53, 48, 53, 49, 53, 50, 53, 51, 53, 52, 53, 53, 53, 54, 53, 55, 53, 56, 53, 57, 54, 48, 54, 49, 54, 50, 54, 51, 54, 52, 54, 53, 54, 54, 54, 55, 54, 56, 54, 57, 55, 48, 55, 49, 55, 50, 55, 51, 55, 52, 55, 53, 55, 54, 55, 55, 55, 56, 55, 57, 56, 48, 56, 49, 56, 50, 56, 51, 56, 52, 56, 53, 56, 54, 56, 55, 56, 56, 56, 57, 57, 48, 57, 49, 57, 50, 57, 51, 57, 52, 57, 53, 57, 54, 57, 55, 57, 56, 57, 57])) (.t 64), none⟩, []⟩,
 ⟨11, ⟨(some 66), .indexAddr 1 false none (.t 55) (.t 57), none⟩, []⟩,
 ⟨12, ⟨none, .store 1 (.t 66) (.t 63), none⟩, []⟩,
 ⟨13, ⟨(some 67), .indexAddr 1 false none (.t 58) (.t 60), none⟩, []⟩,
 ⟨14, ⟨none, .store 1 (.t 67) (.t 65), none⟩, []⟩])
 (.seq (.plan [⟨0, ⟨(some 68), .mov (.t 0), none⟩, []⟩,
 ⟨1, ⟨(some 69), .mov (.t 4), none⟩, []⟩,
 ⟨2, ⟨(some 70), .bin .sub (.t 69) (.k (.int .i64 5)), none⟩, []⟩,
 ⟨3, ⟨(some 71), .mov (.t 0), none⟩, []⟩,
 ⟨4, ⟨(some 72), .mov (.t 4), none⟩, []⟩,
 ⟨5, ⟨(some 73), .bin .sub (.t 72) (.k (.int .i64 6)), none⟩, []⟩,
 ⟨6, ⟨(some 74), .mov (.t 11), none⟩, []⟩,
 ⟨7, ⟨(some 75), .bin .add (.t 74) (.k (.int .u32 1)), none⟩, []⟩,
 ⟨8, ⟨(some 76), .indexStr (.k (.str [48, 48, 48, 49, 48, 50, 48, 51, 48, 52, 48, 53, 48, 54, 48, 55, 48, 56, 48, 57, 49, 48, 49, 49, 49, 50, 49, 51, 49, 52, 49, 53, 49, 54, 49, 55, 49, 56, 49, 57, 50, 48, 50, 49, 50, 50, 50, 51, 50, 52, 50, 53, 50, 54, 50, 55, 50, 56, 50, 57, 51, 48, 51, 49, 51, 50, 51, 51, 51, 52, 51, 53, 51, 54, 51, 55, 51, 56, 51, 57, 52, 48, 52, 49, 52, 50, 52, 51, 52, 52, 52, 53, 52, 54, 52, 55, 52, 56, 52, 57, 53, 48, 53, 49, 53, 50, 53, 51, 53, 52, 53, 53, 53, 54, 53, 55, 53, 56, 53, 57, 54, 48, 54, 49, 54, 50, 54, 51, 54, 52, 54, 53, 54, 54, 54, 55, 54, 56, 54, 57, 55, 48, 55, 49, 55, 50, 55, 51, 55, 52, 55, 53, 55, 54, 55, 55, 55, 56, 55, 57, 56, 48, 56, 49, 56, 50, 56, 51, 56, 52, 56, 53, 56, 54, 56, 55, 56, 56, 56, 57, 57, 48, 57, 49, 57, 50, 57, 51, 57, 52, 57, 53, 57, 54, 57, 55, 57, 56, 57, 57])) (.t 75), none⟩, []⟩,
 ⟨9, ⟨(some 77), .mov (.t 11), none⟩, []⟩,
 ⟨10, ⟨(some 78), .indexStr (.k (.str [48, 48, 48, 49, 48, 50, 48, 51, 48, 52, 48, 53, 48, 54, 48, 55, 48, 56, 48, 57, 49, 48, 49, 49, 49, 50, 49, 51, 49, 52, 49, 53, 49, 54, 49, 55, 49, 56, 49, 57, 50, 48, 50, 49, 50, 50, 50, 51, 50, 52, 50, 53, 50, 54, 50, 55, 50, 56, 50, 57, 51, 48, 51, 49, 51, 50, 51, 51, 51, 52, 51, 53, 51, 54, 51, 55, 51, 56, 51, 57, 52, 48, 52, 49, 52, 50, 52, 51, 52, 52, 52, 53, 52, 54, 52, 55, 52, 56, 52, 57, 53, 48, 53, 49, 53, 50, 53, 51, 53, 52, 53, 53, 53, 54, 53, 55, 53, 56, 53, 57, 54, 48, 54, 49, 54, 50, 54, 51, 54, 52, 54, 53, 54, 54, 54, 55, 54, 56, 54, 57, 55, 48, 55, 49, 55, 50, 55, 51, 55, 52, 55, 53, 55, 54, 55, 55, 55, 56, 55, 57, 56, 48, 56, 49, 56, 50, 56, 51, 56, 52, 56, 53, 56, 54, 56, 55, 56, 56, 56, 57, 57, 48, 57, 49, 57, 50, 57, 51, 57, 52, 57, 53, 57, 54, 57, 55, 57, 56, 57, 57])) (.t 77), none⟩, []⟩,
 ⟨11, ⟨(some 79), .indexAddr 1 false none (.t 68) (.t 70), none⟩, []⟩,
 ⟨12, ⟨none, .store 1 (.t 79) (.t 76), none⟩, []⟩,
 ⟨13, ⟨(some 80), .indexAddr 1 false none (.t 71) (.t 73), none⟩, []⟩,
 ⟨14, ⟨none, .store 1 (.t 80) (.t 78), none⟩, []⟩])
 (.seq (.plan [⟨0, ⟨(some 81), .mov (.t 0), none⟩, []⟩,
 ⟨1, ⟨(some 82), .mov (.t 4), none⟩, []⟩,
 ⟨2, ⟨(some 83), .bin .sub (.t 82) (.k (.int .i64 7)), none⟩, []⟩,
 ⟨3, ⟨(some 84), .mov (.t 0), none⟩, []⟩,
 ⟨4, ⟨(some 85), .mov (.t 4), none⟩, []⟩,
 ⟨5, ⟨(some 86), .bin .sub (.t 85) (.k (.int .i64 8)), none⟩, []⟩,
 ⟨6, ⟨(some 87), .mov (.t 10), none⟩, []⟩,
 ⟨7, ⟨(some 88), .bin .add (.t 87) (.k (.int .u32 1)), none⟩, []⟩,
 ⟨8, ⟨(some 89), .indexStr (.k (.str [48, 48, 48, 49, 48, 50, 48, 51, 48, 52, 48, 53, 48, 54, 48, 55, 48, 56, 48, 57, 49, 48, 49, 49, 49, 50, 49, 51, 49, 52, 49, 53, 49, 54, 49, 55, 49, 56, 49, 57, 50, 48, 50, 49, 50, 50, 50, 51, 50, 52, 50, 53, 50, 54, 50, 55, 50, 56, 50, 57, 51, 48, 51, 49, 51, 50, 51, 51, 51, 52, 51, 53, 51, 54, 51, 55, 51, 56, 51, 57, 52, 48, 52, 49, 52, 50, 52, 51, 52, 52, 52, 53, 52, 54, 52, 55, 52, 56, 52, 57, 53, 48, 53, 49, 53, 50, 53, 51, 53, 52, 53, 53, 53, 54, 53, 55, 53, 56, 53, 57, 54, 48, 54, 49, 54, 50, 54, 51, 54, 52, 54, 53, 54, 54, 54, 55, 54, 56, 54, 57, 55, 48, 55, 49, 55, 50, 55, 51, 55, 52, 55, 53, 55, 54, 55, 55, 55, 56, 55, 57, 56, 48, 56, 49, 56, 50, 56, 51, 56, 52, 56, 53, 56, 54, 56, 55, 56, 56, 56, 57, 57, 48, 57, 49, 57, 50, 57, 51, 57, 52, 57, 53, 57, 54, 57, 55, 57, 56, 57, 57])) (.t 88), none⟩, []⟩,
 ⟨9, ⟨(some 90), .mov (.t 10), none⟩, []⟩,
 ⟨10, ⟨(some 91), .indexStr (.k (.str [48, 48, 48, 49, 48, 50, 48, 51, 48, 52, 48, 53, 48, 54, 48, 55, 48, 56, 48, 57, 49, 48, 49, 49, 49, 50, 49, 51, 49, 52, 49, 53, 49, 54, 49, 55, 49, 56, 49, 57, 50, 48, 50, 49, 50, 50, 50, 51, 50, 52, 50, 53, 50, 54, 50, 55, 50, 56, 50, 57, 51, 48, 51, 49, 51, 50, 51, 51, 51, 52, 51, 53, 51, 54, 51, 55, 51, 56, 51, 57, 52, 48, 52, 49, 52, 50, 52, 51, 52, 52, 52, 53, 52, 54, 52, 55, 52, 56, 52, 57, 53, 48, 53, 49, 53, 50, 53, 51, 53, 52, 53, 53, 53, 54, 53, 55, 53, 56, 53, 57, 54, 48, 54, 49, 54, 50, 54, 51, 54, 52, 54, 53, 54, 54, 54, 55, 54, 56, 54, 57, 55, 48, 55, 49, 55, 50, 55, 51, 55, 52, 55, 53, 55, 54, 55, 55, 55, 56, 55, 57, 56, 48, 56, 49, 56, 50, 56, 51, 56, 52, 56, 53, 56, 54, 56, 55, 56, 56, 56, 57, 57, 48, 57, 49, 57, 50, 57, 51, 57, 52, 57, 53, 57, 54, 57, 55, 57, 56, 57, 57])) (.t 90), none⟩, []⟩,
 ⟨11, ⟨(some 92), .indexAddr 1 false none (.t 81) (.t 83), none⟩, []⟩,
 ⟨12, ⟨none, .store 1 (.t 92) (.t 89), none⟩, []⟩,
 ⟨13, ⟨(some 93), .indexAddr 1 false none (.t 84) (.t 86), none⟩, []⟩,
 ⟨14, ⟨none, .store 1 (.t 93) (.t 91), none⟩, []⟩])
 (.reg [⟨(some 94), .mov (.t 4), none⟩,
 ⟨(some 95), .bin .sub (.t 94) (.k (.int .i64 8)), none⟩,
 ⟨(some 4), .mov (.t 95), none⟩]))))))))))))

def a106 : AFunc := ⟨167, [],
 (.seq (.reg [⟨(some 17), .mov (.t 0), none⟩,
 ⟨(some 18), .lenSl (.t 17), none⟩,
 ⟨(some 4), .mov (.t 18), none⟩])
 (.seq (.block 0 (.loop a106_0))
 (.seq (.reg [⟨(some 96), .mov (.t 1), none⟩,
 ⟨(some 97), .convInt .u32 (.t 96), none⟩,
 ⟨(some 12), .mov (.t 97), none⟩])
 (.seq (.seq (.reg [⟨(some 98), .mov (.t 4), none⟩,
 ⟨(some 99), .bin .geq (.t 98) (.k (.int .i64 4)), none⟩])
 (.cond (.t 99) (.seq (.reg [⟨(some 100), .mov (.t 12), none⟩,
 ⟨(some 101), .bin .rem (.t 100) (.k (.int .u32 10000)), none⟩,
 ⟨(some 13), .mov (.t 101), none⟩])
 (.seq (.reg [⟨(some 102), .mov (.t 12), none⟩,
 ⟨(some 103), .bin .quo (.t 102) (.k (.int .u32 10000)), none⟩,
 ⟨(some 12), .mov (.t 103), none⟩])
 (.seq (.reg [⟨(some 104), .mov (.t 13), none⟩,
 ⟨(some 105), .bin .quo (.t 104) (.k (.int .u32 100)), none⟩,
 ⟨(some 106), .bin .mul (.t 105) (.k (.int .u32 2)), none⟩,
 ⟨(some 107), .mov (.t 13), none⟩,
 ⟨(some 108), .bin .rem (.t 107) (.k (.int .u32 100)), none⟩,
 ⟨(some 109), .bin .mul (.t 108) (.k (.int .u32 2)), none⟩,
 ⟨(some 14), .mov (.t 106), none⟩,
 ⟨(some 15), .mov (.t 109), none⟩])
 (.seq (.plan [⟨0, ⟨(some 110), .mov (.t 0), none⟩, []⟩,
 ⟨1, ⟨(some 111), .mov (.t 4), none⟩, []⟩,
 ⟨2, ⟨(some 112), .bin .sub (.t 111) (.k (.int .i64 1)), none⟩, []⟩,
 ⟨3, ⟨(some 113), .mov (.t 0), none⟩, []⟩,
 ⟨4, ⟨(some 114), .mov (.t 4), none⟩, []⟩,
 ⟨5, ⟨(some 115), .bin .sub (.t 114) (.k (.int .i64 2)), none⟩, []⟩,
 ⟨6, ⟨(some 116), .mov (.t 15), none⟩, []⟩,
 ⟨7, ⟨(some 117), .bin .add (.t 116) (.k (.int .u32 1)), none⟩, []⟩,
 ⟨8, ⟨(some 118), .indexStr (.k (.str [48, 48, 48, 49, 48, 50, 48, 51, 48, 52, 48, 53, 48, 54, 48, 55, 48, 56, 48, 57, 49, 48, 49, 49, 49, 50, 49, 51, 49, 52, 49, 53, 49, 54, 49, 55, 49, 56, 49, 57, 50, 48, 50, 49, 50, 50, 50, 51, 50, 52, 50, 53, 50, 54, 50, 55, 50, 56, 50, 57, 51, 48, 51, 49, 51, 50, 51, 51, 51, 52, 51, 53, 51, 54, 51, 55, 51, 56, 51, 57, 52, 48, 52, 49, 52, 50, 52, 51, 52, 52, 52, 53, 52, 54, 52, 55, 52, 56, 52, 57, 53, 48, 53, 49, 53, 50, 53, 51, 53, 52, 53, 53, 53, 54, 53, 55, 53, 56, 53, 57, 54, 48, 54, 49, 54, 50, 54, 51, 54, 52, 54, 53, 54, 54, 54, 55, 54, 56, 54, 57, 55, 48, 55, 49, 55, 50, 55, 51, 55, 52, 55, 53, 55, 54, 55, 55, 55, 56, 55, 57, 56, 48, 56, 49, 56, 50, 56, 51, 56, 52, 56, 53, 56, 54, 56, 55, 56, 56, 56, 57, 57, 48, 57, 49, 57, 50, 57, 51, 57, 52, 57, 53, 57, 54, 57, 55, 57, 56, 57, 57])) (.t 117), none⟩, []⟩,
 ⟨9, ⟨(some 119), .mov (.t 15), none⟩, []⟩,
 ⟨10, ⟨(some 120), .indexStr (.k (.str [48, 48, 48, 49, 48, 50, 48, 51, 48, 52, 48, 53, 48, 54, 48, 55, 48, 56, 48, 57, 49, 48, 49, 49, 49, 50, 49, 51, 49, 52, 49, 53, 49, 54, 49, 55, 49, 56, 49, 57, 50, 48, 50, 49, 50, 50, 50, 51, 50, 52, 50, 53, 50, 54, 50, 55, 50, 56, 50, 57, 51, 48, 51, 49, 51, 50, 51, 51, 51, 52, 51, 53, 51, 54, 51, 55, 51, 56, 51, 57, 52, 48, 52, 49, 52, 50, 52, 51, 52, 52, 52, 53, 52, 54, 52, 55, 52, 56, 52, 57, 53, 48, 53, 49, 53, 50, 53, 51, 53, 52, 53, 53, 53, 54, 53, 55, 53, 56, 53, 57, 54, 48, 54, 49, 54, 50, 54, 51, 54, 52, 54, 53, 54, 54, 54, 55, 54, 56, 54, 57, 55, 48, 55, 49, 55, 50, 55, 51, 55, 52, 55, 53, 55, 54, 55, 55, 55, 56, 55, 57, 56, 48, 56, 49, 56, 50, 56, 51, 56, 52, 56, 53, 56, 54, 56, 55, 56, 56, 56, 57, 57, 48, 57, 49, 57, 50, 57, 51, 57, 52, 57, 53, 57, 54, 57, 55, 57, 56, 57, 57])) (.t 119), none⟩, []⟩,
 ⟨11, ⟨(some 121), .indexAddr 1 false none (.t 110) (.t 112), none⟩, []⟩,
 ⟨12, ⟨none, .store 1 (.t 121) (.t 118), none⟩, []⟩,
 ⟨13, ⟨(some 122), .indexAddr 1 false none (.t 113) (.t 115), none⟩, []⟩,
 ⟨14, ⟨none, .store 1 (.t 122) (.t 120), none⟩, []⟩])
 (.seq (.plan [⟨0, ⟨(some 123), .mov (.t 0), none⟩, []⟩,
 ⟨1, ⟨(some 124), .mov (.t 4), none⟩, []⟩,
 ⟨2, ⟨(some 125), .bin .sub (.t 124) (.k (.int .i64 3)), none⟩, []⟩,
 ⟨3, ⟨(some 126), .mov (.t 0), none⟩, []⟩,
 ⟨4, ⟨(some 127), .mov (.t 4), none⟩, []⟩,
 ⟨5, ⟨(some 128), .bin .sub (.t 127) (.k (.int .i64 4)), none⟩, []⟩,
 ⟨6, ⟨(some 129), .mov (.t 14), none⟩, []⟩,
 ⟨7, ⟨(some 130), .bin .add (.t 129) (.k (.int .u32 1)), none⟩, []⟩,
 ⟨8, ⟨(some 131), .indexStr (.k (.str [48, 48, 48, 49, 48, 50, 48, 51, 48, 52, 48, 53, 48, 54, 48, 55, 48, 56, 48, 57, 49, 48, 49, 49, 49, 50, 49, 51, 49, 52, 49, 53, 49, 54, 49, 55, 49, 56, 49, 57, 50, 48, 50, 49, 50, 50, 50, 51, 50, 52, 50, 53, 50, 54, 50, 55, 50, 56, 50, 57, 51, 48, 51, 49, 51, 50, 51, 51, 51, 52, 51, 53, 51, 54, 51, 55, 51, 56, 51, 57, 52, 48, 52, 49, 52, 50, 52, 51, 52, 52, 52, 53, 52, 54, 52, 55, 52, 56, 52, 57, 53, 48, 53, 49, 53, 50, 53, 51, 53, 52, 53, 53, 53, 54, 53, 55, 53, 56, 53, 57, 54, 48, 54, 49, 54, 50, 54, 51, 54, 52, 54, 53, 54, 54, 54, 55, 54, 56, 54, 57, 55, 48, 55, 49, 55, 50, 55, 51, 55, 52, 55, 53, 55, 54, 55, 55, 55, 56, 55, 57, 56, 48, 56, 49, 56, 50, 56, 51, 56, 52, 56, 53, 56, 54, 56, 55, 56, 56, 56, 57, 57, 48, 57, 49, 57, 50, 57, 51, 57, 52, 57, 53, 57, 54, 57, 55, 57, 56, 57, 57])) (.t 130), none⟩, []⟩,
 ⟨9, ⟨(some 132), .mov (.t 14), none⟩, []⟩,
 ⟨10, ⟨(some 133), .indexStr (.k (.str [48, 48, 48, 49, 48, 50, 48, 51, 48, 52, 48, 53, 48, 54, 48, 55, 48, 56, 48, 57, 49, 48, 49, 49, 49, 50, 49, 51, 49, 52, 49, 53, 49, 54, 49, 55, 49, 56, 49, 57, 50, 48, 50, 49, 50, 50, 50, 51, 50, 52, 50, 53, 50, 54, 50, 55, 50, 56, 50, 57, 51, 48, 51, 49, 51, 50, 51, 51, 51, 52, 51, 53, 51, 54, 51, 55, 51, 56, 51, 57, 52, 48, 52, 49, 52, 50, 52, 51, 52, 52, 52, 53, 52, 54, 52, 55, 52, 56, 52, 57, 53, 48, 53, 49, 53, 50, 53, 51, 53, 52, 53, 53, 53, 54, 53, 55, 53, 56, 53, 57, 54, 48, 54, 49, 54, 50, 54, 51, 54, 52, 54, 53, 54, 54, 54, 55, 54, 56, 54, 57, 55, 48, 55, 49, 55, 50, 55, 51, 55, 52, 55, 53, 55, 54, 55, 55, 55, 56, 55, 57, 56, 48, 56, 49, 56, 50, 56, 51, 56, 52, 56, 53, 56, 54, 56, 55, 56, 56, 56, 57, 57, 48, 57, 49, 57, 50, 57, 51, 57, 52, 57, 53, 57, 54, 57, 55, 57, 56, 57, 57])) (.t 132), none⟩, []⟩,
 ⟨11, ⟨(some 134), .indexAddr 1 false none (.t 123) (.t 125), none⟩, []⟩,
 ⟨12, ⟨none, .store 1 (.t 134) (.t 131), none⟩, []⟩,
 ⟨13, ⟨(some 135), .indexAddr 1 false none (.t 126) (.t 128), none⟩, []⟩,
 ⟨14, ⟨none, .store 1 (.t 135) (.t 133), none⟩, []⟩])
 (.reg [⟨(some 136), .mov (.t 4), none⟩,
 ⟨(some 137), .bin .sub (.t 136) (.k (.int .i64 4)), none⟩,
 ⟨(some 4), .mov (.t 137), none⟩]))))))
 .skip))
 (.seq (.seq (.reg [⟨(some 138), .mov (.t 4), none⟩,
 ⟨(some 139), .bin .geq (.t 138) (.k (.int .i64 2)), none⟩])
 (.cond (.t 139) (.seq (.reg [⟨(some 140), .mov (.t 12), none⟩,
 ⟨(some 141), .bin .rem (.t 140) (.k (.int .u32 100)), none⟩,
 ⟨(some 142), .bin .mul (.t 141) (.k (.int .u32 2)), none⟩,
 ⟨(some 16), .mov (.t 142), none⟩])
 (.seq (.reg [⟨(some 143), .mov (.t 12), none⟩,
 ⟨(some 144), .bin .quo (.t 143) (.k (.int .u32 100)), none⟩,
 ⟨(some 12), .mov (.t 144), none⟩])
 (.seq (.plan [⟨0, ⟨(some 145), .mov (.t 0), none⟩, []⟩,
 ⟨1, ⟨(some 146), .mov (.t 4), none⟩, []⟩,
 ⟨2, ⟨(some 147), .bin .sub (.t 146) (.k (.int .i64 1)), none⟩, []⟩,
 ⟨3, ⟨(some 148), .mov (.t 0), none⟩, []⟩,
 ⟨4, ⟨(some 149), .mov (.t 4), none⟩, []⟩,
 ⟨5, ⟨(some 150), .bin .sub (.t 149) (.k (.int .i64 2)), none⟩, []⟩,
 ⟨6, ⟨(some 151), .mov (.t 16), none⟩, []⟩,
 ⟨7, ⟨(some 152), .bin .add (.t 151) (.k (.int .u32 1)), none⟩, []⟩,
 ⟨8, ⟨(some 153), .indexStr (.k (.str [48, 48, 48, 49, 48, 50, 48, 51, 48, 52, 48, 53, 48, 54, 48, 55, 48, 56, 48, 57, 49, 48, 49, 49, 49, 50, 49, 51, 49, 52, 49, 53, 49, 54, 49, 55, 49, 56, 49, 57, 50, 48, 50, 49, 50, 50, 50, 51, 50, 52, 50, 53, 50, 54, 50, 55, 50, 56, 50, 57, 51, 48, 51, 49, 51, 50, 51, 51, 51, 52, 51, 53, 51, 54, 51, 55, 51, 56, 51, 57, 52, 48, 52, 49, 52, 50, 52, 51, 52, 52, 52, 53, 52, 54, 52, 55, 52, 56, 52, 57, 53, 48, 53, 49, 53, 50, 53, 51, 53, 52, 53, 53, 53, 54, 53, 55, 53, 56, 53, 57, 54, 48, 54, 49, 54, 50, 54, 51, 54, 52, 54, 53, 54, 54, 54, 55, 54, 56, 54, 57, 55, 48, 55, 49, 55, 50, 55, 51, 55, 52, 55, 53, 55, 54, 55, 55, 55, 56, 55, 57, 56, 48, 56, 49, 56, 50, 56, 51, 56, 52, 56, 53, 56, 54, 56, 55, 56, 56, 56, 57, 57, 48, 57, 49, 57, 50, 57, 51, 57, 52, 57, 53, 57, 54, 57, 55, 57, 56, 57, 57])) (.t 152), none⟩, []⟩,
 ⟨9, ⟨(some 154), .mov (.t 16), none⟩, []⟩,
 ⟨10, ⟨(some 155), .indexStr (.k (.str [48, 48, 48, 49, 48, 50, 48, 51, 48, 52, 48, 53, 48, 54, 48, 55, 48, 56, 48, 57, 49, 48, 49, 49, 49, 50, 49, 51, 49, 52, 49, 53, 49, 54, 49, 55, 49, 56, 49, 57, 50, 48, 50, 49, 50, 50, 50, 51, 50, 52, 50, 53, 50, 54, 50, 55, 50, 56, 50, 57, 51, 48, 51, 49, 51, 50, 51, 51, 51, 52, 51, 53, 51, 54, 51, 55, 51, 56, 51, 57, 52, 48, 52, 49, 52, 50, 52, 51, 52, 52, 52, 53, 52, 54, 52, 55, 52, 56, 52, 57, 53, 48, 53, 49, 53, 50, 53, 51, 53, 52, 53, 53, 53, 54, 53, 55, 53, 56, 53, 57, 54, 48, 54, 49, 54, 50, 54, 51, 54, 52, 54, 53, 54, 54, 54, 55, 54, 56, 54, 57, 55, 48, 55, 49, 55, 50, 55, 51, 55, 52, 55, 53, 55, 54, 55, 55, 55, 56, 55, 57, 56, 48, 56, 49, 56, 50, 56, 51, 56, 52, 56, 53, 56, 54, 56, 55, 56, 56, 56, 57, 57, 48, 57, 49, 57, 50, 57, 51, 57, 52, 57, 53, 57, 54, 57, 55, 57, 56, 57, 57])) (.t 154), none⟩, []⟩,
 ⟨11, ⟨(some 156), .indexAddr 1 false none (.t 145) (.t 147), none⟩, []⟩,
 ⟨12, ⟨none, .store 1 (.t 156) (.t 153), none⟩, []⟩,
 ⟨13, ⟨(some 157), .indexAddr 1 false none (.t 148) (.t 150), none⟩, []⟩,
 ⟨14, ⟨none, .store 1 (.t 157) (.t 155), none⟩, []⟩])
 (.reg [⟨(some 158), .mov (.t 4), none⟩,
 ⟨(some 159), .bin .sub (.t 158) (.k (.int .i64 2)), none⟩,
 ⟨(some 4), .mov (.t 159), none⟩]))))
 .skip))
 (.seq (.reg [⟨(some 160), .mov (.t 4), none⟩,
 ⟨(some 161), .bin .gtr (.t 160) (.k (.int .i64 0)), none⟩])
 (.cond (.t 161) (.reg [⟨(some 162), .mov (.t 0), none⟩,
 ⟨(some 163), .mov (.t 12), none⟩,
 ⟨(some 164), .bin .add (.k (.int .u32 48)) (.t 163), none⟩,
 ⟨(some 165), .convInt .u8 (.t 164), none⟩,
 ⟨(some 166), .indexAddr 1 false none (.t 162) (.k (.int .i64 0)), none⟩,
 ⟨none, .store 1 (.t 166) (.t 165), none⟩])
 .skip))))))),
 [], false⟩

def a107_0 : ACode := (.seq (.seq (.reg [⟨(some 66), .mov (.t 1), none⟩,
 ⟨(some 67), .mov (.t 17), none⟩,
 ⟨(some 68), .bin .geq (.t 66) (.t 67), none⟩])
 (.cond (.t 68) .skip
 (.exit 2)))
 (.block 3 (.seq (.reg [⟨(some 69), .mov (.t 13), none⟩,
 ⟨(some 70), .bin .sub (.t 69) (.k (.int .i64 1)), none⟩,
 ⟨(some 13), .mov (.t 70), none⟩])
 (.seq (.reg [⟨(some 71), .mov (.t 1), none⟩,
 ⟨(some 72), .mov (.t 17), none⟩,
 ⟨(some 73), .bin .quo (.t 71) (.t 72), none⟩,
 ⟨(some 18), .mov (.t 73), none⟩])
 (.seq (.reg [⟨(some 74), .mov (.t 13), none⟩,
 ⟨(some 75), .mov (.t 1), none⟩,
 ⟨(some 76), .mov (.t 18), none⟩,
 ⟨(some 77), .mov (.t 17), none⟩,
 ⟨(some 78), .bin .mul (.t 76) (.t 77), none⟩,
 ⟨(some 79), .bin .sub (.t 75) (.t 78), none⟩,
 ⟨(some 80), .indexStr (.k (.str [48, 49, 50, 51, 52, 53, 54, 55, 56, 57, 97, 98, 99, 100, 101, 102, 103, 104, 105, 106, 107, 108, 109, 110, 111, 112, 113, 114, 115, 116, 117, 118, 119, 120, 121, 122])) (.t 79), none⟩,
 ⟨(some 81), .indexAddr 1 false (some 65) (.t 12) (.t 74), none⟩,
 ⟨none, .store 1 (.t 81) (.t 80), none⟩])
 (.reg [⟨(some 82), .mov (.t 18), none⟩,
 ⟨(some 1), .mov (.t 82), none⟩]))))))

def a107_1 : ACode := (.seq (.seq (.reg [⟨(some 44), .mov (.t 1), none⟩,
 ⟨(some 45), .mov (.t 15), none⟩,
 ⟨(some 46), .bin .geq (.t 44) (.t 45), none⟩])
 (.cond (.t 46) .skip
 (.exit 0)))
 (.block 1 (.seq (.reg [⟨(some 47), .mov (.t 13), none⟩,
 ⟨(some 48), .bin .sub (.t 47) (.k (.int .i64 1)), none⟩,
 ⟨(some 13), .mov (.t 48), none⟩])
 (.seq (.reg [⟨(some 49), .mov (.t 13), none⟩,
 ⟨(some 50), .mov (.t 1), none⟩,
 ⟨(some 51), .mov (.t 16), none⟩,
 ⟨(some 52), .bin .and (.t 50) (.t 51), none⟩,
 ⟨(some 53), .indexStr (.k (.str [48, 49, 50, 51, 52, 53, 54, 55, 56, 57, 97, 98, 99, 100, 101, 102, 103, 104, 105, 106, 107, 108, 109, 110, 111, 112, 113, 114, 115, 116, 117, 118, 119, 120, 121, 122])) (.t 52), none⟩,
 ⟨(some 54), .indexAddr 1 false (some 65) (.t 12) (.t 49), none⟩,
 ⟨none, .store 1 (.t 54) (.t 53), none⟩])
 (.reg [⟨(some 55), .mov (.t 1), none⟩,
 ⟨(some 56), .mov (.t 14), none⟩,
 ⟨(some 57), .bin .shr (.t 55) (.t 56), none⟩,
 ⟨(some 1), .mov (.t 57), none⟩])))))

def a107 : AFunc := ⟨102, [.tmp 10, .tmp 11],
 (.seq (.reg [⟨(some 10), .mov (.k (.lst 1 [] .tight)), none⟩,
 ⟨(some 11), .mov (.k (.str [])), none⟩])
 (.seq (.seq (.reg [⟨(some 19), .mov (.t 2), none⟩,
 ⟨(some 20), .bin .lss (.t 19) (.k (.int .i64 2)), none⟩,
 ⟨(some 21), .mov (.t 20), none⟩,
 ⟨(some 22), .mov (.t 2), some (21, false)⟩,
 ⟨(some 23), .bin .eql (.t 22) (.k (.int .i64 10)), some (21, false)⟩,
 ⟨(some 24), .pick (.t 21) (.k (.bool true)) (.t 23), none⟩,
 ⟨(some 25), .mov (.t 24), none⟩,
 ⟨(some 26), .mov (.t 2), some (25, false)⟩,
 ⟨(some 27), .bin .gtr (.t 26) (.k (.int .i64 36)), some (25, false)⟩,
 ⟨(some 28), .pick (.t 25) (.k (.bool true)) (.t 27), none⟩])
 (.cond (.t 28) (.reg [⟨(some 29), .mkIface 9 (.k (.str [115, 116, 114, 99, 111, 110, 118, 58, 32, 105, 108, 108, 101, 103, 97, 108, 32, 65, 112, 112, 101, 110, 100, 73, 110, 116, 47, 70, 111, 114, 109, 97, 116, 73, 110, 116, 32, 98, 97, 115, 101])), none⟩,
 ⟨none, .panic (.t 29), none⟩])
 .skip))
 (.seq (.reg [⟨(some 12), .new (.agg [(.int .u8 0), (.int .u8 0), (.int .u8 0), (.int .u8 0), (.int .u8 0), (.int .u8 0), (.int .u8 0), (.int .u8 0), (.int .u8 0), (.int .u8 0), (.int .u8 0), (.int .u8 0), (.int .u8 0), (.int .u8 0), (.int .u8 0), (.int .u8 0), (.int .u8 0), (.int .u8 0), (.int .u8 0), (.int .u8 0), (.int .u8 0), (.int .u8 0), (.int .u8 0), (.int .u8 0), (.int .u8 0), (.int .u8 0), (.int .u8 0), (.int .u8 0), (.int .u8 0), (.int .u8 0), (.int .u8 0), (.int .u8 0), (.int .u8 0), (.int .u8 0), (.int .u8 0), (.int .u8 0), (.int .u8 0), (.int .u8 0), (.int .u8 0), (.int .u8 0), (.int .u8 0), (.int .u8 0), (.int .u8 0), (.int .u8 0), (.int .u8 0), (.int .u8 0), (.int .u8 0), (.int .u8 0), (.int .u8 0), (.int .u8 0), (.int .u8 0), (.int .u8 0), (.int .u8 0), (.int .u8 0), (.int .u8 0), (.int .u8 0), (.int .u8 0), (.int .u8 0), (.int .u8 0), (.int .u8 0), (.int .u8 0), (.int .u8 0), (.int .u8 0), (.int .u8 0), (.int .u8 0)]) true none, none⟩])
 (.seq (.reg [⟨(some 13), .mov (.k (.int .i64 65)), none⟩])
 (.seq (.seq (.reg [⟨(some 30), .mov (.t 3), none⟩])
 (.cond (.t 30) (.reg [⟨(some 31), .mov (.t 1), none⟩,
 ⟨(some 32), .un .neg (.t 31), none⟩,
 ⟨(some 1), .mov (.t 32), none⟩])
 .skip))
 (.seq (.seq (.reg [⟨(some 33), .mov (.t 2), none⟩,
 ⟨(some 34), .call (.k (.func (.func 111) [] [])) [(.t 33)], none⟩])
 (.cond (.t 34) (.seq (.reg [⟨(some 35), .mov (.t 2), none⟩,
 ⟨(some 36), .convInt .u64 (.t 35), none⟩,
 ⟨(some 37), .call (.k (.func (.func 112) [] [])) [(.t 36)], none⟩,
 ⟨(some 38), .convInt .u64 (.t 37), none⟩,
 ⟨(some 14), .mov (.t 38), none⟩])
 (.seq (.reg [⟨(some 39), .mov (.t 2), none⟩,
 ⟨(some 40), .convInt .u64 (.t 39), none⟩,
 ⟨(some 15), .mov (.t 40), none⟩])
 (.seq (.reg [⟨(some 41), .mov (.t 2), none⟩,
 ⟨(some 42), .convInt .u64 (.t 41), none⟩,
 ⟨(some 43), .bin .sub (.t 42) (.k (.int .u64 1)), none⟩,
 ⟨(some 16), .mov (.t 43), none⟩])
 (.seq (.block 0 (.loop a107_1))
 (.seq (.reg [⟨(some 58), .mov (.t 13), none⟩,
 ⟨(some 59), .bin .sub (.t 58) (.k (.int .i64 1)), none⟩,
 ⟨(some 13), .mov (.t 59), none⟩])
 (.reg [⟨(some 60), .mov (.t 13), none⟩,
 ⟨(some 61), .mov (.t 1), none⟩,
 ⟨(some 62), .indexStr (.k (.str [48, 49, 50, 51, 52, 53, 54, 55, 56, 57, 97, 98, 99, 100, 101, 102, 103, 104, 105, 106, 107, 108, 109, 110, 111, 112, 113, 114, 115, 116, 117, 118, 119, 120, 121, 122])) (.t 61), none⟩,
 ⟨(some 63), .indexAddr 1 false (some 65) (.t 12) (.t 60), none⟩,
 ⟨none, .store 1 (.t 63) (.t 62), none⟩]))))))
 (.seq (.reg [⟨(some 64), .mov (.t 2), none⟩,
 ⟨(some 65), .convInt .u64 (.t 64), none⟩,
 ⟨(some 17), .mov (.t 65), none⟩])
 (.seq (.block 2 (.loop a107_0))
 (.seq (.reg [⟨(some 83), .mov (.t 13), none⟩,
 ⟨(some 84), .bin .sub (.t 83) (.k (.int .i64 1)), none⟩,
 ⟨(some 13), .mov (.t 84), none⟩])
 (.reg [⟨(some 85), .mov (.t 13), none⟩,
 ⟨(some 86), .mov (.t 1), none⟩,
 ⟨(some 87), .indexStr (.k (.str [48, 49, 50, 51, 52, 53, 54, 55, 56, 57, 97, 98, 99, 100, 101, 102, 103, 104, 105, 106, 107, 108, 109, 110, 111, 112, 113, 114, 115, 116, 117, 118, 119, 120, 121, 122])) (.t 86), none⟩,
 ⟨(some 88), .indexAddr 1 false (some 65) (.t 12) (.t 85), none⟩,
 ⟨none, .store 1 (.t 88) (.t 87), none⟩]))))))
 (.seq (.seq (.reg [⟨(some 89), .mov (.t 3), none⟩])
 (.cond (.t 89) (.seq (.reg [⟨(some 90), .mov (.t 13), none⟩,
 ⟨(some 91), .bin .sub (.t 90) (.k (.int .i64 1)), none⟩,
 ⟨(some 13), .mov (.t 91), none⟩])
 (.reg [⟨(some 92), .mov (.t 13), none⟩,
 ⟨(some 93), .indexAddr 1 false (some 65) (.t 12) (.t 92), none⟩,
 ⟨none, .store 1 (.t 93) (.k (.int .u8 45)), none⟩]))
 .skip))
 (.seq (.seq (.reg [⟨(some 94), .mov (.t 4), none⟩])
 (.cond (.t 94) (.seq (.reg [⟨(some 95), .mov (.t 0), none⟩,
 ⟨(some 96), .mov (.t 13), none⟩,
 ⟨(some 97), .sliceArr 65 1 (.t 12) (some (.t 96)) none, none⟩,
 ⟨(some 98), .append 1 1 (some 5) (.t 95) (.t 97), none⟩,
 ⟨(some 10), .mov (.t 98), none⟩])
 .ret)
 .skip))
 (.seq (.reg [⟨(some 99), .mov (.t 13), none⟩,
 ⟨(some 100), .sliceArr 65 1 (.t 12) (some (.t 99)) none, none⟩,
 ⟨(some 101), .convStr (.t 100), none⟩,
 ⟨(some 11), .mov (.t 101), none⟩])
 .ret))))))))),
 [], false⟩

def a108 : AFunc := ⟨6, [.tmp 2],
 (.seq (.reg [⟨(some 2), .mov (.k (.int .i64 0)), none⟩])
 (.seq (.reg [⟨(some 3), .mov (.t 0), none⟩,
 ⟨(some 4), .bin .mul (.t 3) (.k (.int .i64 78913)), none⟩,
 ⟨(some 5), .bin .shr (.t 4) (.k (.int .u64 18)), none⟩,
 ⟨(some 2), .mov (.t 5), none⟩])
 .ret)),
 [], false⟩

def a109 : AFunc := ⟨25, [.tmp 2],
 (.seq (.reg [⟨(some 2), .mov (.k (.int .i64 0)), none⟩])
 (.seq (.seq (.reg [⟨(some 3), .mov (.t 0), none⟩,
 ⟨(some 4), .bin .geq (.t 3) (.k (.int .u64 4294967296)), none⟩])
 (.cond (.t 4) (.seq (.reg [⟨(some 5), .mov (.t 0), none⟩,
 ⟨(some 6), .bin .shr (.t 5) (.k (.int .u64 32)), none⟩,
 ⟨(some 0), .mov (.t 6), none⟩])
 (.reg [⟨(some 2), .mov (.k (.int .i64 32)), none⟩]))
 .skip))
 (.seq (.seq (.reg [⟨(some 7), .mov (.t 0), none⟩,
 ⟨(some 8), .bin .geq (.t 7) (.k (.int .u64 65536)), none⟩])
 (.cond (.t 8) (.seq (.reg [⟨(some 9), .mov (.t 0), none⟩,
 ⟨(some 10), .bin .shr (.t 9) (.k (.int .u64 16)), none⟩,
 ⟨(some 0), .mov (.t 10), none⟩])
 (.reg [⟨(some 11), .mov (.t 2), none⟩,
 ⟨(some 12), .bin .add (.t 11) (.k (.int .i64 16)), none⟩,
 ⟨(some 2), .mov (.t 12), none⟩]))
 .skip))
 (.seq (.seq (.reg [⟨(some 13), .mov (.t 0), none⟩,
 ⟨(some 14), .bin .geq (.t 13) (.k (.int .u64 256)), none⟩])
 (.cond (.t 14) (.seq (.reg [⟨(some 15), .mov (.t 0), none⟩,
 ⟨(some 16), .bin .shr (.t 15) (.k (.int .u64 8)), none⟩,
 ⟨(some 0), .mov (.t 16), none⟩])
 (.reg [⟨(some 17), .mov (.t 2), none⟩,
 ⟨(some 18), .bin .add (.t 17) (.k (.int .i64 8)), none⟩,
 ⟨(some 2), .mov (.t 18), none⟩]))
 .skip))
 (.seq (.reg [⟨(some 19), .mov (.t 2), none⟩,
 ⟨(some 20), .mov (.t 0), none⟩,
 ⟨(some 21), .convInt .u8 (.t 20), none⟩,
 ⟨(some 22), .indexStr (.k (.str [0, 1, 2, 2, 3, 3, 3, 3, 4, 4, 4, 4, 4, 4, 4, 4, 5, 5, 5, 5, 5, 5, 5, 5, 5, 5, 5, 5, 5, 5, 5, 5, 6, 6, 6, 6, 6, 6, 6, 6, 6, 6, 6, 6, 6, 6, 6, 6, 6, 6, 6, 6, 6, 6, 6, 6, 6, 6, 6, 6, 6, 6, 6, 6, 7, 7, 7, 7, 7, 7, 7, 7, 7, 7, 7, 7, 7, 7, 7, 7, 7, 7, 7, 7, 7, 7, 7, 7, 7, 7, 7, 7, 7, 7, 7, 7, 7, 7, 7, 7, 7, 7, 7, 7, 7, 7, 7, 7, 7, 7, 7, 7, 7, 7, 7, 7, 7, 7, 7, 7, 7, 7, 7, 7, 7, 7, 7, 7, 8, 8, 8, 8, 8, 8, 8, 8, 8, 8, 8, 8, 8, 8, 8, 8, 8, 8, 8, 8, 8, 8, 8, 8, 8, 8, 8, 8, 8, 8, 8, 8, 8, 8, 8, 8, 8, 8, 8, 8, 8, 8, 8, 8, 8, 8, 8, 8, 8, 8, 8, 8, 8, 8, 8, 8, 8, 8, 8, 8, 8, 8, 8, 8, 8, 8, 8, 8, 8, 8, 8, 8, 8, 8, 8, 8, 8, 8, 8, 8, 8, 8, 8, 8, 8, 8, 8, 8, 8, 8, 8, 8, 8, 8, 8, 8, 8, 8, 8, 8, 8, 8, 8, 8, 8, 8, 8, 8, 8, 8, 8, 8, 8, 8, 8, 8, 8, 8, 8, 8, 8, 8, 8, 8, 8, 8, 8, 8])) (.t 21), none⟩,
 ⟨(some 23), .convInt .i64 (.t 22), none⟩,
 ⟨(some 24), .bin .add (.t 19) (.t 23), none⟩,
 ⟨(some 2), .mov (.t 24), none⟩])
 .ret))))),
 [], false⟩

def a110 : AFunc := ⟨4, [.tmp 2],
 (.seq (.reg [⟨(some 2), .mov (.k (.int .i64 0)), none⟩])
 (.seq (.seq (.reg [⟨(some 3), .mov (.t 0), none⟩])
 (.cond (.t 3) (.seq (.reg [⟨(some 2), .mov (.k (.int .i64 1)), none⟩])
 .ret)
 .skip))
 (.seq (.reg [⟨(some 2), .mov (.k (.int .i64 0)), none⟩])
 .ret))),
 [], false⟩

def a111 : AFunc := ⟨8, [.tmp 2],
 (.seq (.reg [⟨(some 2), .mov (.k (.bool false)), none⟩])
 (.seq (.reg [⟨(some 3), .mov (.t 0), none⟩,
 ⟨(some 4), .mov (.t 0), none⟩,
 ⟨(some 5), .bin .sub (.t 4) (.k (.int .i64 1)), none⟩,
 ⟨(some 6), .bin .and (.t 3) (.t 5), none⟩,
 ⟨(some 7), .bin .eql (.t 6) (.k (.int .i64 0)), none⟩,
 ⟨(some 2), .mov (.t 7), none⟩])
 .ret)),
 [], false⟩

def a112 : AFunc := ⟨8, [.tmp 2],
 (.seq (.reg [⟨(some 2), .mov (.k (.int .i64 0)), none⟩])
 (.seq (.cond (.k (.bool false)) (.seq (.reg [⟨(some 3), .mov (.t 0), none⟩,
 ⟨(some 4), .convInt .u32 (.t 3), none⟩,
 ⟨(some 5), .call (.k (.func (.func 113) [] [])) [(.t 4)], none⟩,
 ⟨(some 2), .mov (.t 5), none⟩])
 .ret)
 .skip)
 (.seq (.reg [⟨(some 6), .mov (.t 0), none⟩,
 ⟨(some 7), .call (.k (.func (.func 114) [] [])) [(.t 6)], none⟩,
 ⟨(some 2), .mov (.t 7), none⟩])
 .ret))),
 [], false⟩


def tab : List (Nat × AFunc) := [(2, a2), (3, a3), (4, a4), (5, a5), (6, a6), (7, a7), (8, a8), (9, a9), (10, a10), (11, a11), (12, a12), (13, a13), (14, a14), (15, a15), (16, a16), (17, a17), (18, a18), (20, a20), (21, a21), (23, a23), (24, a24), (25, a25), (26, a26), (27, a27), (28, a28), (31, a31), (32, a32), (35, a35), (37, a37), (38, a38), (39, a39), (40, a40), (41, a41), (42, a42), (43, a43), (44, a44), (45, a45), (46, a46), (47, a47), (53, a53), (54, a54), (56, a56), (58, a58), (59, a59), (60, a60), (63, a63), (64, a64), (65, a65), (66, a66), (68, a68), (69, a69), (70, a70), (71, a71), (72, a72), (73, a73), (75, a75), (76, a76), (77, a77), (78, a78), (79, a79), (82, a82), (83, a83), (84, a84), (85, a85), (86, a86), (87, a87), (88, a88), (89, a89), (90, a90), (92, a92), (93, a93), (94, a94), (95, a95), (96, a96), (97, a97), (98, a98), (101, a101), (102, a102), (103, a103), (104, a104), (106, a106), (107, a107), (108, a108), (109, a109), (110, a110), (111, a111), (112, a112)]
def gl : List (Nat × AV) := []
def prims : List (Nat × (List AV → St → Option (AOut × St))) := [(22, pureP joinA), (33, pureP fieldsA), (48, pureP indexOneA), (55, pureP indexByteA), (19, pureP countA)]
def A : AProg := ⟨fun f => (tab.find? fun e => e.1 == f).map (·.2), fun f => (prims.find? fun e => e.1 == f).map (·.2)⟩
set_option maxRecDepth 100000 in
theorem tabFits : (tab.all fun e => funcFits Tryd.prog gl e.1 e.2) = true := by kernel_rfl
theorem fits : ∀ f F, A.fn f = some F → funcFits Tryd.prog gl f F = true := by
  intro f F h
  simp only [A, Option.map_eq_some_iff] at h
  obtain ⟨e, he, rfl⟩ := h
  have h1 := List.mem_of_find?_eq_some he
  have h2 := List.find?_some he
  have := List.all_eq_true.1 tabFits e h1
  rw [beq_iff_eq] at h2
  rwa [h2] at this
end Go.Proofs.YtjgbbdmpddddhaaDoor

namespace Go.Proofs.YtjgbbdmpddddhaaDoor
open Go Ai
set_option maxRecDepth 1000000 in
theorem alive_run : (match runA A 400 (.seqc 8 []) [] with | some ⟨.ret, fr, st⟩ => AV.beqs fr.env [.bool true] && st.isEmpty && fr.defs.isEmpty | _ => false) = true := by kernel_rfl
end Go.Proofs.YtjgbbdmpddddhaaDoor

