/- Chapter 25: the library's contracts at this dump; the abstract code; the example. No condition. -/
import Derived.Shelf.Strings.Builder1
import Derived.Shelf.Strings.OnBuilder
import Derived.Shelf.Strconv.Itoa3
import Derived.Shelf.Strings.Trim
import Derived.Test.YtfkmdajlpnkebaaDoorChecked
import Derived.Test.YtfkmdajlpnkebaaDoorEg
import Derived.Lib.Walk
import Derived.Lib.ItoaMem
import Derived.WalkKit
import Derived.BigCall
import Derived.BigGuard
import Derived.KernelRfl
set_option linter.unusedVariables false
set_option linter.unusedSimpArgs false
namespace Go.Proofs
open Go.Shelf
def Tryd.lays169_ren : Go.Shelf.Ren := ⟨fun | 169 => 21 | n => n, fun | 70 => 45 | 9 => 9 | 0 => 0 | 72 => 48 | 37 => 46 | 127 => 67 | 3 => 3 | 5 => 5 | n => n, fun | n => n⟩
theorem Tryd.lays169 : Go.Proofs.Lays.n169 Tryd.prog Tryd.lays169_ren := {
  mixed := by kernel_rfl
  f169 := Tryd.func21.trans (congrArg some (by kernel_rfl))
  t0 := Tryd.underlying0
  a0 := Tryd.isAgg0
  z0 := Tryd.sizeOf0
  v0 := Tryd.zeroValue0
  t3 := Tryd.underlying3
  a3 := Tryd.isAgg3
  z3 := Tryd.sizeOf3
  v3 := Tryd.zeroValue3
  t9 := Tryd.underlying9
  a9 := Tryd.isAgg9
  z9 := Tryd.sizeOf9
  v9 := Tryd.zeroValue9
  t37 := Tryd.underlying46
  a37 := Tryd.isAgg46
  z37 := Tryd.sizeOf46
  v37 := Tryd.zeroValue46
  t70 := Tryd.underlying45
  a70 := Tryd.isAgg45
  z70 := Tryd.sizeOf45
  v70 := Tryd.zeroValue45
  t72 := Tryd.underlying48
  a72 := Tryd.isAgg48
  z72 := Tryd.sizeOf48
  v72 := Tryd.zeroValue48
  t127 := Tryd.underlying67
  a127 := Tryd.isAgg67
  z127 := Tryd.sizeOf67
  v127 := Tryd.zeroValue67 }
theorem Tryd.bx169 : Builder.Extra Tryd.prog Tryd.lays169_ren := {
  sizeBuilder := by kernel_rfl
  liesBuilder := by kernel_rfl
  t5 := Tryd.underlying5
  a5 := Tryd.isAgg5
  z5 := Tryd.sizeOf5
  v5 := Tryd.zeroValue5
  infoByte := by kernel_rfl
  cellsByte := by kernel_rfl
  sizeByte := by kernel_rfl
  neB5 := by decide }
def Tryd.lays156_ren : Go.Shelf.Ren := ⟨fun | 156 => 31 | 165 => 37 | 166 => 17 | 169 => 21 | 240 => 27 | 241 => 43 | 276 => 35 | 277 => 50 | n => n, fun | 31 => 26 | 9 => 9 | 3 => 3 | 4 => 4 | 0 => 0 | 20 => 20 | 72 => 48 | 76 => 51 | 70 => 45 | 37 => 46 | 75 => 50 | 127 => 67 | 164 => 71 | 5 => 5 | 80 => 56 | n => n, fun | n => n⟩
theorem Tryd.lays156 : Go.Proofs.Lays.n156 Tryd.prog Tryd.lays156_ren := {
  mixed := by kernel_rfl
  f156 := Tryd.func31.trans (congrArg some (by kernel_rfl))
  f165 := Tryd.func37.trans (congrArg some (by kernel_rfl))
  f166 := Tryd.func17.trans (congrArg some (by kernel_rfl))
  f169 := Tryd.func21.trans (congrArg some (by kernel_rfl))
  f240 := Tryd.func27.trans (congrArg some (by kernel_rfl))
  f241 := Tryd.func43.trans (congrArg some (by kernel_rfl))
  f276 := Tryd.func35.trans (congrArg some (by kernel_rfl))
  f277 := Tryd.func50.trans (congrArg some (by kernel_rfl))
  t0 := Tryd.underlying0
  a0 := Tryd.isAgg0
  z0 := Tryd.sizeOf0
  v0 := Tryd.zeroValue0
  t3 := Tryd.underlying3
  a3 := Tryd.isAgg3
  z3 := Tryd.sizeOf3
  v3 := Tryd.zeroValue3
  t4 := Tryd.underlying4
  a4 := Tryd.isAgg4
  z4 := Tryd.sizeOf4
  v4 := Tryd.zeroValue4
  t9 := Tryd.underlying9
  a9 := Tryd.isAgg9
  z9 := Tryd.sizeOf9
  v9 := Tryd.zeroValue9
  t20 := Tryd.underlying20
  a20 := Tryd.isAgg20
  z20 := Tryd.sizeOf20
  v20 := Tryd.zeroValue20
  t31 := Tryd.underlying26
  a31 := Tryd.isAgg26
  z31 := Tryd.sizeOf26
  v31 := Tryd.zeroValue26
  t37 := Tryd.underlying46
  a37 := Tryd.isAgg46
  z37 := Tryd.sizeOf46
  v37 := Tryd.zeroValue46
  t70 := Tryd.underlying45
  a70 := Tryd.isAgg45
  z70 := Tryd.sizeOf45
  v70 := Tryd.zeroValue45
  t72 := Tryd.underlying48
  a72 := Tryd.isAgg48
  z72 := Tryd.sizeOf48
  v72 := Tryd.zeroValue48
  t75 := Tryd.underlying50
  a75 := Tryd.isAgg50
  z75 := Tryd.sizeOf50
  v75 := Tryd.zeroValue50
  t76 := Tryd.underlying51
  a76 := Tryd.isAgg51
  z76 := Tryd.sizeOf51
  v76 := Tryd.zeroValue51
  t127 := Tryd.underlying67
  a127 := Tryd.isAgg67
  z127 := Tryd.sizeOf67
  v127 := Tryd.zeroValue67
  t164 := Tryd.underlying71
  a164 := Tryd.isAgg71
  z164 := Tryd.sizeOf71
  v164 := Tryd.zeroValue71 }
theorem Tryd.bx156 : Builder.Extra Tryd.prog Tryd.lays156_ren := {
  sizeBuilder := by kernel_rfl
  liesBuilder := by kernel_rfl
  t5 := Tryd.underlying5
  a5 := Tryd.isAgg5
  z5 := Tryd.sizeOf5
  v5 := Tryd.zeroValue5
  infoByte := by kernel_rfl
  cellsByte := by kernel_rfl
  sizeByte := by kernel_rfl
  neB5 := by decide }
def Tryd.lays171_ren : Go.Shelf.Ren := ⟨fun | 171 => 20 | 243 => 32 | 246 => 38 | 283 => 44 | 284 => 45 | 285 => 46 | 286 => 47 | 129 => 52 | 317 => 51 | 318 => 53 | 319 => 54 | 320 => 55 | 337 => 60 | 338 => 61 | n => n, fun | 3 => 3 | 9 => 9 | 2 => 2 | 4 => 4 | 171 => 78 | 0 => 0 | 53 => 68 | 37 => 46 | 5 => 5 | 173 => 81 | 212 => 87 | 51 => 88 | 20 => 20 | 213 => 89 | 46 => 77 | 232 => 104 | 233 => 105 | n => n, fun | 17 => 0 | 18 => 2 | 19 => 3 | n => n⟩
theorem Tryd.lays171 : Go.Proofs.LaysM.n171 Tryd.prog Tryd.lays171_ren := {
  mixed := by kernel_rfl
  f129 := Tryd.func52.trans (congrArg some (by kernel_rfl))
  f171 := Tryd.func20.trans (congrArg some (by kernel_rfl))
  f243 := Tryd.func32.trans (congrArg some (by kernel_rfl))
  f246 := Tryd.func38.trans (congrArg some (by kernel_rfl))
  f283 := Tryd.func44.trans (congrArg some (by kernel_rfl))
  f284 := Tryd.func45.trans (congrArg some (by kernel_rfl))
  f285 := Tryd.func46.trans (congrArg some (by kernel_rfl))
  f286 := Tryd.func47.trans (congrArg some (by kernel_rfl))
  f317 := Tryd.func51.trans (congrArg some (by kernel_rfl))
  f318 := Tryd.func53.trans (congrArg some (by kernel_rfl))
  f319 := Tryd.func54.trans (congrArg some (by kernel_rfl))
  f320 := Tryd.func55.trans (congrArg some (by kernel_rfl))
  f337 := Tryd.func60.trans (congrArg some (by kernel_rfl))
  f338 := Tryd.func61.trans (congrArg some (by kernel_rfl))
  t0 := Tryd.underlying0
  a0 := Tryd.isAgg0
  z0 := Tryd.sizeOf0
  v0 := Tryd.zeroValue0
  t2 := Tryd.underlying2
  a2 := Tryd.isAgg2
  z2 := Tryd.sizeOf2
  v2 := Tryd.zeroValue2
  t3 := Tryd.underlying3
  a3 := Tryd.isAgg3
  z3 := Tryd.sizeOf3
  v3 := Tryd.zeroValue3
  t4 := Tryd.underlying4
  a4 := Tryd.isAgg4
  z4 := Tryd.sizeOf4
  v4 := Tryd.zeroValue4
  t5 := Tryd.underlying5
  a5 := Tryd.isAgg5
  z5 := Tryd.sizeOf5
  v5 := Tryd.zeroValue5
  t9 := Tryd.underlying9
  a9 := Tryd.isAgg9
  z9 := Tryd.sizeOf9
  v9 := Tryd.zeroValue9
  t20 := Tryd.underlying20
  a20 := Tryd.isAgg20
  z20 := Tryd.sizeOf20
  v20 := Tryd.zeroValue20
  t37 := Tryd.underlying46
  a37 := Tryd.isAgg46
  z37 := Tryd.sizeOf46
  v37 := Tryd.zeroValue46
  t46 := Tryd.underlying77
  a46 := Tryd.isAgg77
  z46 := Tryd.sizeOf77
  v46 := Tryd.zeroValue77
  t51 := Tryd.underlying88
  a51 := Tryd.isAgg88
  z51 := Tryd.sizeOf88
  v51 := Tryd.zeroValue88
  t53 := Tryd.underlying68
  a53 := Tryd.isAgg68
  z53 := Tryd.sizeOf68
  v53 := Tryd.zeroValue68
  t171 := Tryd.underlying78
  a171 := Tryd.isAgg78
  z171 := Tryd.sizeOf78
  v171 := Tryd.zeroValue78
  t173 := Tryd.underlying81
  a173 := Tryd.isAgg81
  z173 := Tryd.sizeOf81
  v173 := Tryd.zeroValue81
  t212 := Tryd.underlying87
  a212 := Tryd.isAgg87
  z212 := Tryd.sizeOf87
  v212 := Tryd.zeroValue87
  t213 := Tryd.underlying89
  a213 := Tryd.isAgg89
  z213 := Tryd.sizeOf89
  t232 := Tryd.underlying104
  a232 := Tryd.isAgg104
  z232 := Tryd.sizeOf104
  v232 := Tryd.zeroValue104
  t233 := Tryd.underlying105
  a233 := Tryd.isAgg105
  z233 := Tryd.sizeOf105
  v233 := Tryd.zeroValue105
  g17 := by kernel_rfl
  g18 := by kernel_rfl
  g19 := by kernel_rfl
  i0 := by kernel_rfl
  i2 := by kernel_rfl
  i3 := by kernel_rfl
  i4 := by kernel_rfl
  i5 := by kernel_rfl
  i9 := by kernel_rfl
  i20 := by kernel_rfl
  i37 := by kernel_rfl
  i46 := by kernel_rfl
  i51 := by kernel_rfl
  i53 := by kernel_rfl
  i171 := by kernel_rfl
  i173 := by kernel_rfl
  i212 := by kernel_rfl
  i232 := by kernel_rfl
  i233 := by kernel_rfl
  m17 := by kernel_rfl
  m18 := by kernel_rfl
  m19 := by kernel_rfl }
def Tryd.lays162_ren : Go.Shelf.Ren := ⟨fun | 162 => 49 | 232 => 56 | 227 => 57 | 234 => 58 | 236 => 59 | 228 => 62 | 271 => 63 | 151 => 64 | 120 => 65 | 197 => 66 | 152 => 67 | 260 => 68 | 137 => 69 | 119 => 70 | 224 => 71 | 225 => 72 | 217 => 73 | 266 => 74 | n => n, fun | 9 => 9 | 4 => 4 | 3 => 3 | 5 => 5 | 117 => 95 | 116 => 94 | 0 => 0 | 124 => 98 | 21 => 21 | 105 => 101 | 46 => 77 | 119 => 110 | 139 => 113 | 138 => 112 | n => n, fun | 3 => 4 | 4 => 5 | n => n⟩
theorem Tryd.lays162 : Go.Proofs.Lays.n162 Tryd.prog Tryd.lays162_ren := {
  mixed := by kernel_rfl
  f119 := Tryd.func70.trans (congrArg some (by kernel_rfl))
  f120 := Tryd.func65.trans (congrArg some (by kernel_rfl))
  f137 := Tryd.func69.trans (congrArg some (by kernel_rfl))
  f151 := Tryd.func64.trans (congrArg some (by kernel_rfl))
  f152 := Tryd.func67.trans (congrArg some (by kernel_rfl))
  f162 := Tryd.func49.trans (congrArg some (by kernel_rfl))
  f197 := Tryd.func66.trans (congrArg some (by kernel_rfl))
  f217 := Tryd.func73.trans (congrArg some (by kernel_rfl))
  f224 := Tryd.func71.trans (congrArg some (by kernel_rfl))
  f225 := Tryd.func72.trans (congrArg some (by kernel_rfl))
  f227 := Tryd.func57.trans (congrArg some (by kernel_rfl))
  f228 := Tryd.func62.trans (congrArg some (by kernel_rfl))
  f232 := Tryd.func56.trans (congrArg some (by kernel_rfl))
  f234 := Tryd.func58.trans (congrArg some (by kernel_rfl))
  f236 := Tryd.func59.trans (congrArg some (by kernel_rfl))
  f260 := Tryd.func68.trans (congrArg some (by kernel_rfl))
  f266 := Tryd.func74.trans (congrArg some (by kernel_rfl))
  f271 := Tryd.func63.trans (congrArg some (by kernel_rfl))
  t0 := Tryd.underlying0
  a0 := Tryd.isAgg0
  z0 := Tryd.sizeOf0
  v0 := Tryd.zeroValue0
  t3 := Tryd.underlying3
  a3 := Tryd.isAgg3
  z3 := Tryd.sizeOf3
  v3 := Tryd.zeroValue3
  t4 := Tryd.underlying4
  a4 := Tryd.isAgg4
  z4 := Tryd.sizeOf4
  v4 := Tryd.zeroValue4
  t5 := Tryd.underlying5
  a5 := Tryd.isAgg5
  z5 := Tryd.sizeOf5
  v5 := Tryd.zeroValue5
  t9 := Tryd.underlying9
  a9 := Tryd.isAgg9
  z9 := Tryd.sizeOf9
  v9 := Tryd.zeroValue9
  t21 := Tryd.underlying21
  a21 := Tryd.isAgg21
  z21 := Tryd.sizeOf21
  v21 := Tryd.zeroValue21
  t46 := Tryd.underlying77
  a46 := Tryd.isAgg77
  z46 := Tryd.sizeOf77
  v46 := Tryd.zeroValue77
  t105 := Tryd.underlying101
  a105 := Tryd.isAgg101
  z105 := Tryd.sizeOf101
  v105 := Tryd.zeroValue101
  t116 := Tryd.underlying94
  a116 := Tryd.isAgg94
  z116 := Tryd.sizeOf94
  t117 := Tryd.underlying95
  a117 := Tryd.isAgg95
  z117 := Tryd.sizeOf95
  v117 := Tryd.zeroValue95
  t119 := Tryd.underlying110
  a119 := Tryd.isAgg110
  z119 := Tryd.sizeOf110
  t124 := Tryd.underlying98
  a124 := Tryd.isAgg98
  z124 := Tryd.sizeOf98
  v124 := Tryd.zeroValue98
  t138 := Tryd.underlying112
  a138 := Tryd.isAgg112
  z138 := Tryd.sizeOf112
  v138 := Tryd.zeroValue112
  t139 := Tryd.underlying113
  a139 := Tryd.isAgg113
  z139 := Tryd.sizeOf113
  v139 := Tryd.zeroValue113
  g3 := by kernel_rfl
  g4 := by kernel_rfl }
end Go.Proofs

namespace Go.Proofs.YtfkmdajlpnkebaaDoor
open Go Go.Shelf Go.RowKit Go.Sort Go.Lib

theorem enters44 : ∀ args w, (callFunc 44 args).run Tryd.prog w = .ok (.enter 44 args) w := enters_of Tryd.func44 (by kernel_rfl) rfl
theorem enters45 : ∀ args w, (callFunc 45 args).run Tryd.prog w = .ok (.enter 45 args) w := enters_of Tryd.func45 (by kernel_rfl) rfl
theorem enters46 : ∀ args w, (callFunc 46 args).run Tryd.prog w = .ok (.enter 46 args) w := enters_of Tryd.func46 (by kernel_rfl) rfl
theorem enters48 : ∀ args w, (callFunc 48 args).run Tryd.prog w = .ok (.enter 48 args) w := enters_of Tryd.func48 (by kernel_rfl) rfl

set_option maxHeartbeats 6400000 in
set_option maxRecDepth 100000 in
theorem formatUint48 (u : Nat) (hu64 : u < 18446744073709551616) (w : World) (htab : Lib.TabIs Tryd.prog w "internal/strconv.uint64pow10" .u64 Lib.pow10Tab) :
    Calls Tryd.prog 48 #[.int .u64 u, .int .i64 10] w fun e w' => e = .returned (.string ⟨(Lib.decDigits u).toArray⟩) ∧ ∃ k os, w' = grow (w.drewN k) os := by
  by_cases hs : u < 100
  · have hc : IntKind.i64.wrap (u : Int) = (u : Int) := by
      simp [IntKind.wrap, IntKind.signed, IntKind.bits]; split <;> omega
    have e44 := enters44
    have hsm := Any.internal_strconv_small (P := Tryd.prog) (ρ := Tryd.lays171_ren) { Tryd.lays171 with } u hs
    go_enter Tryd.func48, Tryd.ntmps48
    go_wp2_with (go_at_fn 44; refine (hsm _).mono ?_; rintro e w' ⟨rfl, rfl⟩)
    go_ret
    exact ⟨rfl, 0, #[], by simp [World.drewN_zero]⟩
  · have hu1 : 1 ≤ u := by omega
    have hnd20 : Lib.nDigits u ≤ 20 := by have := Lib.numDigits_eq u hu1 hu64; split at this <;> omega
    have hb3 : Lib.nDigits u ≤ 24 := by omega
    have hal : Tryd.prog.arrayLen 78 = 24 := by kernel_rfl
    have hsl : ∀ W, (Instr.sliceAt 78 (.pointer (some ⟨w.heap.size, 0, none⟩)) none (some (.int .i64 (Lib.nDigits u : Int))) none).run Tryd.prog W = .ok (.slice (some ⟨w.heap.size, 0, none⟩) (Lib.nDigits u) 24) W := fun W => by
      rw [run_sliceAt_array_h W 78 ⟨w.heap.size, 0, none⟩ (by kernel_rfl) .i64 (Lib.nDigits u : Int) (by omega) (by rw [hal]; omega)]
      go_simp
    have hH0 := Lib.holds_zero0 w 78 (Lib.nDigits u) (by omega)
    have hfmt := Any.internal_strconv_formatBase10 (P := Tryd.prog) (ρ := Tryd.lays171_ren) { Tryd.lays171 with } w.heap.size 0 24 u (Array.replicate (Lib.nDigits u) 0) (w.alloc (.cells Lib.zeros24 78)) hH0 (by rw [Array.size_replicate]; exact Lib.lt_pow_nDigits u) hu64 (by rw [Array.size_replicate]; omega)
    rw [Array.size_replicate] at hfmt
    have HH0 := Lib.hid hH0
    clear hH0 hal
    have hnd := Any.internal_strconv_numDigits (P := Tryd.prog) (ρ := Tryd.lays171_ren) { Tryd.lays171 with } u hu1 hu64
    have e45 := enters45
    have e46 := enters46
    go_enter Tryd.func48, Tryd.ntmps48
    go_wp2_with (first
      | (go_at_fn 45; refine (hnd _ (Lib.tabIs_alloc htab _)).mono ?_; rintro e w' ⟨rfl, rfl⟩))
    go_at_fn 46
    refine hfmt.mono ?_
    rintro e w' ⟨rfl, k, v', dk, rfl, hF⟩
    have hcv : (convert 46 9 (.slice (some ⟨w.heap.size, 0, none⟩) (Lib.nDigits u) 24)).run Tryd.prog ((putRow (fun (b : UInt8) => Value.int .u8 (b.toNat : Int)) (w.alloc (.cells Lib.zeros24 78)) w.heap.size 0 dk).drewN k) = .ok (.string ⟨(Lib.decDigits u).toArray⟩) ((putRow (fun (b : UInt8) => Value.int .u8 (b.toNat : Int)) (w.alloc (.cells Lib.zeros24 78)) w.heap.size 0 dk).drewN k) := by
      have h := run_convert_bytes_back (P := Tryd.prog) ((putRow (fun (b : UInt8) => Value.int .u8 (b.toNat : Int)) (w.alloc (.cells Lib.zeros24 78)) w.heap.size 0 dk).drewN k) 46 9 5 ⟨w.heap.size, 0, none⟩ 24 (Lib.decDigits u) Tryd.underlying46 Tryd.underlying5 Tryd.underlying9 (fun j hj => by
        rw [Lib.row_is_numeral hF j hj, Lib.add_plain, World.cell?_drewN]
        exact cell?_putRow (fun (b : UInt8) => Value.int .u8 (b.toNat : Int)) _ w.heap.size 0 _ dk HH0.out (by rw [hF.size, Array.size_replicate]) j (by rw [hF.size]; rw [Lib.decDigits_length] at hj; exact hj))
      rw [Lib.decDigits_length] at h
      exact h
    go_wp2
    go_ret
    obtain ⟨os, eo⟩ := Lib.fin_at w (.cells Lib.zeros24 78) dk k 0
    exact ⟨rfl, k, os, eo⟩

set_option maxRecDepth 100000 in
theorem formatUint40 (u : Nat) (hu64 : u < 18446744073709551616) (w : World) (htab : Lib.TabIs Tryd.prog w "internal/strconv.uint64pow10" .u64 Lib.pow10Tab) :
    Calls Tryd.prog 40 #[.int .u64 u, .int .i64 10] w fun e w' => e = .returned (.string ⟨(Lib.decDigits u).toArray⟩) ∧ ∃ k os, w' = grow (w.drewN k) os := by
  have e48 := enters48
  have h48 := formatUint48 u hu64
  go_enter Tryd.func40, Tryd.ntmps40
  go_wp2_with (go_at_fn 48; refine (h48 _ htab).mono ?_; rintro e w' ⟨rfl, k, os, rfl⟩)
  go_ret
  exact ⟨rfl, k, os, rfl⟩

theorem enters40 : ∀ args w, (callFunc 40 args).run Tryd.prog w = .ok (.enter 40 args) w := enters_of Tryd.func40 (by kernel_rfl) rfl
open Ai

/-- The digits, by so many steps. -/
def decF : Nat → Nat → List UInt8
  | 0, _ => []
  | n + 1, u => if u < 10 then [UInt8.ofNat (48 + u)] else decF n (u / 10) ++ [UInt8.ofNat (48 + u % 10)]
theorem decF_eq : ∀ (n u : Nat), u < 10 ^ n → 0 < n → decF n u = Lib.decDigits u
  | n + 1, u, h, _ => by
    rw [decF, Lib.decDigits]
    split
    · rfl
    · congr 1
      cases n with
      | zero => simp at h; omega
      | succ n =>
        refine decF_eq (n + 1) (u / 10) ?_ (by omega)
        rw [Nat.pow_succ] at h
        exact Nat.div_lt_of_lt_mul (by rw [Nat.mul_comm]; exact h)
def fmtUintA : List AV → Option AV
  | [.int .u64 n, .int .i64 b] => if 0 ≤ n ∧ n < 18446744073709551616 ∧ b = 10 then some (.str (decF 20 n.toNat)) else none
  | _ => none

theorem fmtUint40 {gl : List (Nat × AV)} {B : World → Prop} (hB : ∀ w, B w → Lib.TabIs Tryd.prog w pow10Name .u64 Lib.pow10Tab) : PureOk Tryd.prog gl B 40 fmtUintA := by
  intro avs v hv K J base st w args hS hG hR
  unfold fmtUintA at hv
  split at hv
  · rename_i n b
    split at hv
    · rename_i hn
      cases hv
      obtain ⟨h0, h1, rfl⟩ := hn
      obtain ⟨u, rfl⟩ : ∃ u : Nat, n = u := ⟨n.toNat, by omega⟩
      simp only [Reps, Rep] at hR
      obtain ⟨y, ys, e1, rfl, y2, ys2, e2, rfl, rfl⟩ := hR
      subst e2
      obtain rfl : args = #[.int .u64 u, .int .i64 10] := by apply Array.toList_inj.1; simpa using e1
      have hu : u < 18446744073709551616 := by omega
      refine ⟨enters40 _ _, (formatUint40 u hu w (tab_of_sim hS (hB _ hG.2))).mono fun e w' ⟨h1, k, os, h2⟩ => ⟨_, h1, by simp only [Rep]; exact ⟨_, rfl, by simp [decF_eq 20 u (by omega) (by omega)]⟩, ?_⟩⟩
      subst h2
      exact Kept.of_below (Lib.below_grow _ w (Nat.le_refl _) k os)
    · cases hv
  · cases hv
end Go.Proofs.YtfkmdajlpnkebaaDoor

namespace Go.Proofs.YtfkmdajlpnkebaaDoor
open Go.Shelf

theorem enters27 : ∀ args w, (callFunc 27 args).run Tryd.prog w = .ok (.enter 27 args) w := enters_of Tryd.func27 (by kernel_rfl) rfl
theorem enters21 : ∀ args w, (callFunc 21 args).run Tryd.prog w = .ok (.enter 21 args) w := enters_of Tryd.func21 (by kernel_rfl) rfl
theorem enters31 : ∀ args w, (callFunc 31 args).run Tryd.prog w = .ok (.enter 31 args) w := enters_of Tryd.func31 (by kernel_rfl) rfl
theorem enters20 : ∀ args w, (callFunc 20 args).run Tryd.prog w = .ok (.enter 20 args) w := enters_of Tryd.func20 (by kernel_rfl) rfl

open Ai

theorem copy27 {gl : List (Nat × AV)} {A : AProg} {B : World → Prop} {args : List AV} {st : St} {o : AOut} {st' : St} (hh : copyA 48 args st = some (o, st')) : TaskOk Tryd.prog gl A B (.call 27 args) st (outRes st' o) :=
  copy_task enters27 (fun b w h => Any.Builder_copyCheck_used (P := Tryd.prog) (ρ := Tryd.lays156_ren) { Tryd.lays156 with } Tryd.bx156.toX72 b w h)
    (fun b w h1 h2 h3 => Any.Builder_copyCheck_fresh (P := Tryd.prog) (ρ := Tryd.lays156_ren) { Tryd.lays156 with } Tryd.bx156.toX72 b w h1 h2 h3) hh
theorem string21 {gl : List (Nat × AV)} {A : AProg} {B : World → Prop} {args : List AV} {st : St} {o : AOut} {st' : St} (hh : stringA 48 5 args st = some (o, st')) : TaskOk Tryd.prog gl A B (.call 21 args) st (outRes st' o) :=
  string_task enters21 (fun b w h => builder_string_nil (P := Tryd.prog) (ρ := Tryd.lays169_ren) Tryd.lays169 Tryd.bx169 b w h)
    (fun b g cap cur fr l w h0 h1 h2 h3 h4 h5 h6 => builder_string_row (P := Tryd.prog) (ρ := Tryd.lays169_ren) Tryd.lays169 Tryd.bx169 b g cap cur fr l w h0 h1 h2 h3 h4 h5 h6) hh
theorem join31 {gl : List (Nat × AV)} {B : World → Prop} : PureOk Tryd.prog gl B 31 joinA :=
  join_ok enters31 (fun a c sep w => Any.strings_Join_none (P := Tryd.prog) (ρ := Tryd.lays156_ren) Tryd.lays156 Tryd.bx156 a c sep w)
    (fun bk o c xs sep w h1 h2 h3 h4 h5 => Any.strings_Join (P := Tryd.prog) (ρ := Tryd.lays156_ren) Tryd.lays156 Tryd.bx156 bk o c xs sep w h1 h2 h3 h4 h5)
theorem itoa20 {gl : List (Nat × AV)} {B : World → Prop} (hB : ∀ w, B w → Lib.TabIs Tryd.prog w pow10Name .u64 Lib.pow10Tab) : PureOk Tryd.prog gl B 20 itoaA :=
  itoa_ok hB enters20 (fun n w h0 h1 ht => Any.strconv_Itoa (P := Tryd.prog) (ρ := Tryd.lays171_ren) Tryd.lays171 n h0 h1 w ht)
theorem enters49 : ∀ args w, (callFunc 49 args).run Tryd.prog w = .ok (.enter 49 args) w := enters_of Tryd.func49 (by kernel_rfl) rfl
theorem trim49 {gl : List (Nat × AV)} {B : World → Prop} : PureOk Tryd.prog gl B 49 trimRightA :=
  trimRight_ok enters49 (fun s c w h1 h2 => Any.strings_TrimRight_one (P := Tryd.prog) (ρ := Tryd.lays162_ren) Tryd.lays162 s c h1 w h2)
end Go.Proofs.YtfkmdajlpnkebaaDoor

namespace Go.Proofs.YtfkmdajlpnkebaaDoor
open Go Ai

def a3_0 : ACode := (.seq (.seq (.reg [⟨(some 46), .mov (.t 9), none⟩,
 ⟨(some 47), .mov (.t 5), none⟩,
 ⟨(some 48), .lenStr (.t 47), none⟩,
 ⟨(some 49), .bin .lss (.t 46) (.t 48), none⟩])
 (.cond (.t 49) .skip
 (.exit 4)))
 (.seq (.block 5 (.seq (.reg [⟨(some 52), .mov (.t 5), none⟩,
 ⟨(some 53), .mov (.t 9), none⟩,
 ⟨(some 54), .indexStr (.t 52) (.t 53), none⟩,
 ⟨(some 55), .bin .eql (.t 54) (.k (.int .u8 10)), none⟩])
 (.cond (.t 55) (.reg [⟨(some 56), .mov (.t 8), none⟩,
 ⟨(some 57), .bin .add (.t 56) (.k (.int .i64 1)), none⟩,
 ⟨(some 8), .mov (.t 57), none⟩])
 .skip)))
 (.reg [⟨(some 50), .mov (.t 9), none⟩,
 ⟨(some 51), .bin .add (.t 50) (.k (.int .i64 1)), none⟩,
 ⟨(some 9), .mov (.t 51), none⟩])))

def a3_1 : ACode := (.seq (.seq (.reg [⟨(some 25), .mov (.t 7), none⟩,
 ⟨(some 26), .mov (.t 1), none⟩,
 ⟨(some 27), .mov (.t 6), none⟩,
 ⟨(some 28), .indexAddr 1 false none (.t 26) (.t 27), none⟩,
 ⟨(some 29), .load 1 false (.t 28), none⟩,
 ⟨(some 30), .lenStr (.t 29), none⟩,
 ⟨(some 31), .bin .lss (.t 25) (.t 30), none⟩])
 (.cond (.t 31) .skip
 (.exit 2)))
 (.seq (.block 3 (.seq (.reg [⟨(some 34), .mov (.t 1), none⟩,
 ⟨(some 35), .mov (.t 6), none⟩,
 ⟨(some 36), .indexAddr 1 false none (.t 34) (.t 35), none⟩,
 ⟨(some 37), .load 1 false (.t 36), none⟩,
 ⟨(some 38), .mov (.t 7), none⟩,
 ⟨(some 39), .indexStr (.t 37) (.t 38), none⟩,
 ⟨(some 40), .bin .eql (.t 39) (.k (.int .u8 10)), none⟩])
 (.cond (.t 40) (.seq (.reg [⟨(some 41), .mov (.t 5), none⟩,
 ⟨(some 42), .load 2 true (.t 2), none⟩,
 ⟨(some 43), .mov (.t 1), none⟩,
 ⟨(some 44), .call (.k (.func (.func 10) [] [])) [(.t 42), (.t 43)], none⟩,
 ⟨(some 45), .bin .eql (.t 41) (.t 44), none⟩,
 ⟨(some 4), .mov (.t 45), none⟩])
 .ret)
 .skip)))
 (.reg [⟨(some 32), .mov (.t 7), none⟩,
 ⟨(some 33), .bin .add (.t 32) (.k (.int .i64 1)), none⟩,
 ⟨(some 7), .mov (.t 33), none⟩])))

def a3_2 : ACode := (.seq (.seq (.reg [⟨(some 19), .mov (.t 6), none⟩,
 ⟨(some 20), .mov (.t 1), none⟩,
 ⟨(some 21), .lenSl (.t 20), none⟩,
 ⟨(some 22), .bin .lss (.t 19) (.t 21), none⟩])
 (.cond (.t 22) .skip
 (.exit 0)))
 (.seq (.block 1 (.seq (.reg [⟨(some 7), .mov (.k (.int .i64 0)), none⟩])
 (.block 2 (.loop a3_1))))
 (.reg [⟨(some 23), .mov (.t 6), none⟩,
 ⟨(some 24), .bin .add (.t 23) (.k (.int .i64 1)), none⟩,
 ⟨(some 6), .mov (.t 24), none⟩])))

def a3 : AFunc := ⟨76, [.tmp 4],
 (.seq (.reg [⟨(some 2), .box 2 (.t 0) false, none⟩,
 ⟨(some 4), .mov (.k (.bool false)), none⟩])
 (.seq (.seq (.reg [⟨(some 11), .call (.k (.func (.func 7) [] [])) [], none⟩,
 ⟨(some 12), .un .not (.t 11), none⟩])
 (.cond (.t 12) (.seq (.reg [⟨(some 4), .mov (.k (.bool false)), none⟩])
 .ret)
 .skip))
 (.seq (.seq (.reg [⟨(some 13), .load 2 true (.t 2), none⟩,
 ⟨(some 14), .mov (.t 1), none⟩,
 ⟨(some 15), .call (.k (.func (.func 8) [] [])) [(.t 13), (.t 14)], none⟩])
 (.cond (.t 15) (.seq (.reg [⟨(some 4), .mov (.k (.bool true)), none⟩])
 .ret)
 .skip))
 (.seq (.reg [⟨(some 16), .load 2 true (.t 2), none⟩,
 ⟨(some 17), .mov (.t 1), none⟩,
 ⟨(some 18), .call (.k (.func (.func 9) [] [])) [(.t 16), (.t 17)], none⟩,
 ⟨(some 5), .mov (.t 18), none⟩])
 (.seq (.seq (.reg [⟨(some 6), .mov (.k (.int .i64 0)), none⟩])
 (.block 0 (.loop a3_2)))
 (.seq (.reg [⟨(some 8), .mov (.k (.int .i64 0)), none⟩])
 (.seq (.seq (.reg [⟨(some 9), .mov (.k (.int .i64 0)), none⟩])
 (.block 4 (.loop a3_0)))
 (.seq (.reg [⟨(some 58), .fieldAddr 0 1 false (.t 2), none⟩,
 ⟨(some 59), .load 1 false (.t 58), none⟩,
 ⟨(some 60), .lenSl (.t 59), none⟩,
 ⟨(some 10), .mov (.t 60), none⟩])
 (.seq (.seq (.reg [⟨(some 61), .fieldAddr 1 1 false (.t 2), none⟩,
 ⟨(some 62), .load 1 false (.t 61), none⟩,
 ⟨(some 63), .bin .neq (.t 62) (.k (.int .i64 0)), none⟩])
 (.cond (.t 63) (.reg [⟨(some 64), .mov (.t 10), none⟩,
 ⟨(some 65), .bin .add (.t 64) (.k (.int .i64 1)), none⟩,
 ⟨(some 10), .mov (.t 65), none⟩])
 .skip))
 (.seq (.reg [⟨(some 66), .mov (.t 5), none⟩,
 ⟨(some 67), .load 2 true (.t 2), none⟩,
 ⟨(some 68), .mov (.t 1), none⟩,
 ⟨(some 69), .call (.k (.func (.func 10) [] [])) [(.t 67), (.t 68)], none⟩,
 ⟨(some 70), .bin .eql (.t 66) (.t 69), none⟩,
 ⟨(some 71), .mov (.t 70), none⟩,
 ⟨(some 72), .mov (.t 8), some (71, true)⟩,
 ⟨(some 73), .mov (.t 10), some (71, true)⟩,
 ⟨(some 74), .bin .eql (.t 72) (.t 73), some (71, true)⟩,
 ⟨(some 75), .pick (.t 71) (.t 74) (.k (.bool false)), none⟩,
 ⟨(some 4), .mov (.t 75), none⟩])
 .ret)))))))))),
 [], false⟩

def a4_0 : ACode := (.seq (.seq (.reg [⟨(some 22), .mov (.t 9), none⟩,
 ⟨(some 23), .fieldAddr 0 1 false (.t 2), none⟩,
 ⟨(some 24), .load 1 false (.t 23), none⟩,
 ⟨(some 25), .mov (.t 7), none⟩,
 ⟨(some 26), .indexAddr 4 true none (.t 24) (.t 25), none⟩,
 ⟨(some 27), .fieldAddr 2 1 false (.t 26), none⟩,
 ⟨(some 28), .load 1 false (.t 27), none⟩,
 ⟨(some 29), .lenSl (.t 28), none⟩,
 ⟨(some 30), .bin .lss (.t 22) (.t 29), none⟩])
 (.cond (.t 30) .skip
 (.exit 2)))
 (.seq (.block 3 (.seq (.reg [⟨(some 33), .mov (.t 5), none⟩,
 ⟨(some 34), .bin .add (.t 33) (.k (.int .i64 1)), none⟩,
 ⟨(some 5), .mov (.t 34), none⟩])
 (.seq (.reg [⟨(some 35), .fieldAddr 0 1 false (.t 2), none⟩,
 ⟨(some 36), .load 1 false (.t 35), none⟩,
 ⟨(some 37), .mov (.t 7), none⟩,
 ⟨(some 38), .indexAddr 4 true none (.t 36) (.t 37), none⟩,
 ⟨(some 39), .fieldAddr 2 1 false (.t 38), none⟩,
 ⟨(some 40), .load 1 false (.t 39), none⟩,
 ⟨(some 41), .mov (.t 9), none⟩,
 ⟨(some 42), .indexAddr 1 false none (.t 40) (.t 41), none⟩,
 ⟨(some 43), .load 1 false (.t 42), none⟩,
 ⟨(some 10), .mov (.t 43), none⟩])
 (.reg [⟨(some 44), .mov (.t 8), none⟩,
 ⟨(some 45), .mov (.t 44), none⟩,
 ⟨(some 46), .mov (.t 1), some (45, false)⟩,
 ⟨(some 47), .bin .geq (.t 46) (.k (.int .i64 0)), some (45, false)⟩,
 ⟨(some 48), .mov (.t 47), some (45, false)⟩,
 ⟨(some 49), .mov (.t 1), some (48, true)⟩,
 ⟨(some 50), .mov (.t 10), some (48, true)⟩,
 ⟨(some 51), .lenSl (.t 50), some (48, true)⟩,
 ⟨(some 52), .bin .lss (.t 49) (.t 51), some (48, true)⟩,
 ⟨(some 53), .pick (.t 48) (.t 52) (.k (.bool false)), some (45, false)⟩,
 ⟨(some 54), .mov (.t 53), some (45, false)⟩,
 ⟨(some 55), .mov (.t 10), some (54, true)⟩,
 ⟨(some 56), .mov (.t 1), some (54, true)⟩,
 ⟨(some 57), .indexAddr 1 false none (.t 55) (.t 56), some (54, true)⟩,
 ⟨(some 58), .load 1 false (.t 57), some (54, true)⟩,
 ⟨(some 59), .pick (.t 54) (.t 58) (.k (.bool false)), some (45, false)⟩,
 ⟨(some 60), .pick (.t 45) (.k (.bool true)) (.t 59), none⟩,
 ⟨(some 8), .mov (.t 60), none⟩]))))
 (.reg [⟨(some 31), .mov (.t 9), none⟩,
 ⟨(some 32), .bin .add (.t 31) (.k (.int .i64 1)), none⟩,
 ⟨(some 9), .mov (.t 32), none⟩])))

def a4_1 : ACode := (.seq (.seq (.reg [⟨(some 15), .mov (.t 7), none⟩,
 ⟨(some 16), .fieldAddr 0 1 false (.t 2), none⟩,
 ⟨(some 17), .load 1 false (.t 16), none⟩,
 ⟨(some 18), .lenSl (.t 17), none⟩,
 ⟨(some 19), .bin .lss (.t 15) (.t 18), none⟩])
 (.cond (.t 19) .skip
 (.exit 0)))
 (.seq (.block 1 (.seq (.reg [⟨(some 8), .mov (.k (.bool false)), none⟩])
 (.seq (.seq (.reg [⟨(some 9), .mov (.k (.int .i64 0)), none⟩])
 (.block 2 (.loop a4_0)))
 (.seq (.reg [⟨(some 61), .mov (.t 8), none⟩])
 (.cond (.t 61) (.reg [⟨(some 62), .mov (.t 6), none⟩,
 ⟨(some 63), .bin .add (.t 62) (.k (.int .i64 1)), none⟩,
 ⟨(some 6), .mov (.t 63), none⟩])
 .skip)))))
 (.reg [⟨(some 20), .mov (.t 7), none⟩,
 ⟨(some 21), .bin .add (.t 20) (.k (.int .i64 1)), none⟩,
 ⟨(some 7), .mov (.t 21), none⟩])))

def a4 : AFunc := ⟨75, [.tmp 4],
 (.seq (.reg [⟨(some 2), .box 2 (.t 0) false, none⟩,
 ⟨(some 4), .mov (.k (.bool false)), none⟩])
 (.seq (.seq (.reg [⟨(some 11), .call (.k (.func (.func 7) [] [])) [], none⟩,
 ⟨(some 12), .un .not (.t 11), none⟩])
 (.cond (.t 12) (.seq (.reg [⟨(some 4), .mov (.k (.bool false)), none⟩])
 .ret)
 .skip))
 (.seq (.seq (.reg [⟨(some 13), .load 2 true (.t 2), none⟩,
 ⟨(some 14), .call (.k (.func (.func 8) [] [])) [(.t 13), (.k (.lst 1 [] .tight))], none⟩])
 (.cond (.t 14) (.seq (.reg [⟨(some 4), .mov (.k (.bool true)), none⟩])
 .ret)
 .skip))
 (.seq (.reg [⟨(some 5), .mov (.k (.int .i64 0)), none⟩,
 ⟨(some 6), .mov (.k (.int .i64 0)), none⟩])
 (.seq (.seq (.reg [⟨(some 7), .mov (.k (.int .i64 0)), none⟩])
 (.block 0 (.loop a4_1)))
 (.seq (.reg [⟨(some 64), .load 2 true (.t 2), none⟩,
 ⟨(some 65), .call (.k (.func (.func 11) [] [])) [(.t 64)], none⟩,
 ⟨(some 66), .mov (.t 5), none⟩,
 ⟨(some 67), .bin .eql (.t 65) (.t 66), none⟩,
 ⟨(some 68), .mov (.t 67), none⟩,
 ⟨(some 69), .load 2 true (.t 2), some (68, true)⟩,
 ⟨(some 70), .mov (.t 1), some (68, true)⟩,
 ⟨(some 71), .call (.k (.func (.func 12) [] [])) [(.t 69), (.t 70)], some (68, true)⟩,
 ⟨(some 72), .mov (.t 6), some (68, true)⟩,
 ⟨(some 73), .bin .eql (.t 71) (.t 72), some (68, true)⟩,
 ⟨(some 74), .pick (.t 68) (.t 73) (.k (.bool false)), none⟩,
 ⟨(some 4), .mov (.t 74), none⟩])
 .ret)))))),
 [], false⟩

def a5_0 : ACode := (.seq (.seq (.reg [⟨(some 34), .mov (.t 16), none⟩,
 ⟨(some 35), .mov (.t 7), none⟩,
 ⟨(some 36), .lenSl (.t 35), none⟩,
 ⟨(some 37), .bin .lss (.t 34) (.t 36), none⟩])
 (.cond (.t 37) .skip
 (.exit 0)))
 (.seq (.block 1 (.seq (.seq (.reg [⟨(some 40), .mov (.t 16), none⟩,
 ⟨(some 41), .bin .eql (.t 40) (.k (.int .i64 0)), none⟩,
 ⟨(some 42), .mov (.t 41), none⟩,
 ⟨(some 43), .mov (.t 7), some (42, false)⟩,
 ⟨(some 44), .mov (.t 16), some (42, false)⟩,
 ⟨(some 45), .indexAddr 1 false none (.t 43) (.t 44), some (42, false)⟩,
 ⟨(some 46), .load 1 false (.t 45), some (42, false)⟩,
 ⟨(some 47), .mov (.t 14), some (42, false)⟩,
 ⟨(some 48), .bin .lss (.t 46) (.t 47), some (42, false)⟩,
 ⟨(some 49), .pick (.t 42) (.k (.bool true)) (.t 48), none⟩])
 (.cond (.t 49) (.reg [⟨(some 50), .mov (.t 7), none⟩,
 ⟨(some 51), .mov (.t 16), none⟩,
 ⟨(some 52), .indexAddr 1 false none (.t 50) (.t 51), none⟩,
 ⟨(some 53), .load 1 false (.t 52), none⟩,
 ⟨(some 14), .mov (.t 53), none⟩])
 .skip))
 (.seq (.seq (.reg [⟨(some 54), .mov (.t 16), none⟩,
 ⟨(some 55), .bin .eql (.t 54) (.k (.int .i64 0)), none⟩,
 ⟨(some 56), .mov (.t 55), none⟩,
 ⟨(some 57), .mov (.t 7), some (56, false)⟩,
 ⟨(some 58), .mov (.t 16), some (56, false)⟩,
 ⟨(some 59), .indexAddr 1 false none (.t 57) (.t 58), some (56, false)⟩,
 ⟨(some 60), .load 1 false (.t 59), some (56, false)⟩,
 ⟨(some 61), .mov (.t 15), some (56, false)⟩,
 ⟨(some 62), .bin .gtr (.t 60) (.t 61), some (56, false)⟩,
 ⟨(some 63), .pick (.t 56) (.k (.bool true)) (.t 62), none⟩])
 (.cond (.t 63) (.reg [⟨(some 64), .mov (.t 7), none⟩,
 ⟨(some 65), .mov (.t 16), none⟩,
 ⟨(some 66), .indexAddr 1 false none (.t 64) (.t 65), none⟩,
 ⟨(some 67), .load 1 false (.t 66), none⟩,
 ⟨(some 15), .mov (.t 67), none⟩])
 .skip))
 (.seq (.seq (.reg [⟨(some 68), .mov (.t 12), none⟩,
 ⟨(some 69), .bin .lss (.t 68) (.k (.int .i64 0)), none⟩,
 ⟨(some 70), .mov (.t 69), none⟩,
 ⟨(some 71), .mov (.t 7), some (70, true)⟩,
 ⟨(some 72), .mov (.t 16), some (70, true)⟩,
 ⟨(some 73), .indexAddr 1 false none (.t 71) (.t 72), some (70, true)⟩,
 ⟨(some 74), .load 1 false (.t 73), some (70, true)⟩,
 ⟨(some 75), .mov (.t 2), some (70, true)⟩,
 ⟨(some 76), .bin .geq (.t 74) (.t 75), some (70, true)⟩,
 ⟨(some 77), .pick (.t 70) (.t 76) (.k (.bool false)), none⟩])
 (.cond (.t 77) (.reg [⟨(some 78), .mov (.t 8), none⟩,
 ⟨(some 79), .mov (.t 16), none⟩,
 ⟨(some 80), .indexAddr 1 false none (.t 78) (.t 79), none⟩,
 ⟨(some 81), .load 1 false (.t 80), none⟩,
 ⟨(some 12), .mov (.t 81), none⟩])
 .skip))
 (.seq (.plan [⟨0, ⟨(some 82), .mov (.t 16), none⟩, []⟩,
 ⟨1, ⟨(some 83), .bin .gtr (.t 82) (.k (.int .i64 0)), none⟩, []⟩,
 ⟨2, ⟨(some 84), .mov (.t 83), none⟩, []⟩,
 ⟨3, ⟨(some 85), .mov (.t 7), some (84, true)⟩, []⟩,
 ⟨4, ⟨(some 86), .mov (.t 16), some (84, true)⟩, []⟩,
 ⟨5, ⟨(some 87), .indexAddr 1 false none (.t 85) (.t 86), some (84, true)⟩, []⟩,
 ⟨6, ⟨(some 88), .load 1 false (.t 87), some (84, true)⟩, []⟩,
 ⟨7, ⟨(some 89), .mov (.t 7), some (84, true)⟩, []⟩,
 ⟨8, ⟨(some 90), .mov (.t 16), some (84, true)⟩, []⟩,
 ⟨9, ⟨(some 91), .bin .sub (.t 90) (.k (.int .i64 1)), some (84, true)⟩, []⟩,
 ⟨10, ⟨(some 92), .indexAddr 1 false none (.t 89) (.t 91), some (84, true)⟩, []⟩,
 ⟨11, ⟨(some 93), .load 1 false (.t 92), some (84, true)⟩, []⟩,
 ⟨12, ⟨(some 94), .bin .neq (.t 88) (.t 93), some (84, true)⟩, []⟩,
 ⟨13, ⟨(some 95), .pick (.t 84) (.t 94) (.k (.bool false)), none⟩, []⟩])
 (.cond (.t 95) (.reg [⟨(some 96), .mov (.t 13), none⟩,
 ⟨(some 97), .bin .add (.t 96) (.k (.int .i64 1)), none⟩,
 ⟨(some 13), .mov (.t 97), none⟩])
 .skip))))))
 (.reg [⟨(some 38), .mov (.t 16), none⟩,
 ⟨(some 39), .bin .add (.t 38) (.k (.int .i64 1)), none⟩,
 ⟨(some 16), .mov (.t 39), none⟩])))

def a5 : AFunc := ⟨128, [.tmp 6],
 (.seq (.reg [⟨(some 3), .box 2 (.t 0) false, none⟩,
 ⟨(some 6), .mov (.k (.bool false)), none⟩])
 (.seq (.seq (.reg [⟨(some 17), .call (.k (.func (.func 7) [] [])) [], none⟩,
 ⟨(some 18), .un .not (.t 17), none⟩])
 (.cond (.t 18) (.seq (.reg [⟨(some 6), .mov (.k (.bool false)), none⟩])
 .ret)
 .skip))
 (.seq (.seq (.reg [⟨(some 19), .load 2 true (.t 3), none⟩,
 ⟨(some 20), .call (.k (.func (.func 8) [] [])) [(.t 19), (.k (.lst 1 [] .tight))], none⟩])
 (.cond (.t 20) (.seq (.reg [⟨(some 6), .mov (.k (.bool true)), none⟩])
 .ret)
 .skip))
 (.seq (.reg [⟨(some 22), .load 2 true (.t 3), none⟩,
 ⟨(some 23), .mov (.t 1), none⟩,
 ⟨(some 24), .call (.k (.func (.func 13) [] [])) [(.t 22), (.t 23)], none⟩,
 ⟨(some 21), .mov (.t 24), none⟩,
 ⟨(some 25), .extract (.t 21) 0, none⟩,
 ⟨(some 26), .extract (.t 21) 1, none⟩,
 ⟨(some 7), .mov (.t 25), none⟩,
 ⟨(some 8), .mov (.t 26), none⟩])
 (.seq (.reg [⟨(some 28), .load 2 true (.t 3), none⟩,
 ⟨(some 29), .mov (.t 1), none⟩,
 ⟨(some 30), .call (.k (.func (.func 14) [] [])) [(.t 28), (.t 29)], none⟩,
 ⟨(some 27), .mov (.t 30), none⟩,
 ⟨(some 31), .extract (.t 27) 0, none⟩,
 ⟨(some 32), .extract (.t 27) 1, none⟩,
 ⟨(some 33), .extract (.t 27) 2, none⟩,
 ⟨(some 9), .mov (.t 31), none⟩,
 ⟨(some 10), .mov (.t 32), none⟩,
 ⟨(some 11), .mov (.t 33), none⟩])
 (.seq (.reg [⟨(some 12), .mov (.k (.int .i64 (-1))), none⟩,
 ⟨(some 13), .mov (.k (.int .i64 0)), none⟩])
 (.seq (.reg [⟨(some 14), .mov (.k (.int .i64 0)), none⟩,
 ⟨(some 15), .mov (.k (.int .i64 0)), none⟩])
 (.seq (.seq (.reg [⟨(some 16), .mov (.k (.int .i64 0)), none⟩])
 (.block 0 (.loop a5_0)))
 (.seq (.reg [⟨(some 98), .mov (.t 9), none⟩,
 ⟨(some 99), .mov (.t 14), none⟩,
 ⟨(some 100), .bin .eql (.t 98) (.t 99), none⟩,
 ⟨(some 101), .mov (.t 100), none⟩,
 ⟨(some 102), .mov (.t 10), some (101, true)⟩,
 ⟨(some 103), .mov (.t 15), some (101, true)⟩,
 ⟨(some 104), .bin .eql (.t 102) (.t 103), some (101, true)⟩,
 ⟨(some 105), .pick (.t 101) (.t 104) (.k (.bool false)), none⟩,
 ⟨(some 106), .mov (.t 105), none⟩,
 ⟨(some 107), .mov (.t 11), some (106, true)⟩,
 ⟨(some 108), .mov (.t 7), some (106, true)⟩,
 ⟨(some 109), .lenSl (.t 108), some (106, true)⟩,
 ⟨(some 110), .bin .gtr (.t 109) (.k (.int .i64 0)), some (106, true)⟩,
 ⟨(some 111), .eqBool false (.t 107) (.t 110), some (106, true)⟩,
 ⟨(some 112), .pick (.t 106) (.t 111) (.k (.bool false)), none⟩,
 ⟨(some 113), .mov (.t 112), none⟩,
 ⟨(some 114), .load 2 true (.t 3), some (113, true)⟩,
 ⟨(some 115), .mov (.t 1), some (113, true)⟩,
 ⟨(some 116), .mov (.t 2), some (113, true)⟩,
 ⟨(some 117), .call (.k (.func (.func 15) [] [])) [(.t 114), (.t 115), (.t 116)], some (113, true)⟩,
 ⟨(some 118), .mov (.t 12), some (113, true)⟩,
 ⟨(some 119), .bin .eql (.t 117) (.t 118), some (113, true)⟩,
 ⟨(some 120), .pick (.t 113) (.t 119) (.k (.bool false)), none⟩,
 ⟨(some 121), .mov (.t 120), none⟩,
 ⟨(some 122), .load 2 true (.t 3), some (121, true)⟩,
 ⟨(some 123), .mov (.t 1), some (121, true)⟩,
 ⟨(some 124), .call (.k (.func (.func 16) [] [])) [(.t 122), (.t 123)], some (121, true)⟩,
 ⟨(some 125), .mov (.t 13), some (121, true)⟩,
 ⟨(some 126), .bin .eql (.t 124) (.t 125), some (121, true)⟩,
 ⟨(some 127), .pick (.t 121) (.t 126) (.k (.bool false)), none⟩,
 ⟨(some 6), .mov (.t 127), none⟩])
 .ret))))))))),
 [], false⟩

def a6_0 : ACode := (.seq (.seq (.reg [⟨(some 28), .mov (.t 10), none⟩,
 ⟨(some 29), .mov (.t 8), none⟩,
 ⟨(some 30), .lenSl (.t 29), none⟩,
 ⟨(some 31), .bin .lss (.t 28) (.t 30), none⟩])
 (.cond (.t 31) .skip
 (.exit 0)))
 (.seq (.block 1 (.seq (.reg [⟨(some 34), .mov (.t 7), none⟩,
 ⟨(some 35), .un .not (.t 34), none⟩,
 ⟨(some 36), .mov (.t 35), none⟩,
 ⟨(some 37), .mov (.t 8), some (36, false)⟩,
 ⟨(some 38), .mov (.t 10), some (36, false)⟩,
 ⟨(some 39), .indexAddr 1 false none (.t 37) (.t 38), some (36, false)⟩,
 ⟨(some 40), .load 1 false (.t 39), some (36, false)⟩,
 ⟨(some 41), .mov (.t 5), some (36, false)⟩,
 ⟨(some 42), .bin .lss (.t 40) (.t 41), some (36, false)⟩,
 ⟨(some 43), .pick (.t 36) (.k (.bool true)) (.t 42), none⟩,
 ⟨(some 44), .mov (.t 43), none⟩,
 ⟨(some 45), .mov (.t 8), some (44, false)⟩,
 ⟨(some 46), .mov (.t 10), some (44, false)⟩,
 ⟨(some 47), .indexAddr 1 false none (.t 45) (.t 46), some (44, false)⟩,
 ⟨(some 48), .load 1 false (.t 47), some (44, false)⟩,
 ⟨(some 49), .mov (.t 6), some (44, false)⟩,
 ⟨(some 50), .bin .gtr (.t 48) (.t 49), some (44, false)⟩,
 ⟨(some 51), .pick (.t 44) (.k (.bool true)) (.t 50), none⟩])
 (.cond (.t 51) (.seq (.reg [⟨(some 4), .mov (.k (.bool false)), none⟩])
 .ret)
 .skip)))
 (.reg [⟨(some 32), .mov (.t 10), none⟩,
 ⟨(some 33), .bin .add (.t 32) (.k (.int .i64 1)), none⟩,
 ⟨(some 10), .mov (.t 33), none⟩])))

def a6 : AFunc := ⟨82, [.tmp 4],
 (.seq (.reg [⟨(some 2), .box 2 (.t 0) false, none⟩,
 ⟨(some 4), .mov (.k (.bool false)), none⟩])
 (.seq (.seq (.reg [⟨(some 11), .call (.k (.func (.func 7) [] [])) [], none⟩,
 ⟨(some 12), .un .not (.t 11), none⟩])
 (.cond (.t 12) (.seq (.reg [⟨(some 4), .mov (.k (.bool false)), none⟩])
 .ret)
 .skip))
 (.seq (.seq (.reg [⟨(some 13), .load 2 true (.t 2), none⟩,
 ⟨(some 14), .call (.k (.func (.func 8) [] [])) [(.t 13), (.k (.lst 1 [] .tight))], none⟩])
 (.cond (.t 14) (.seq (.reg [⟨(some 4), .mov (.k (.bool true)), none⟩])
 .ret)
 .skip))
 (.seq (.reg [⟨(some 16), .load 2 true (.t 2), none⟩,
 ⟨(some 17), .mov (.t 1), none⟩,
 ⟨(some 18), .call (.k (.func (.func 14) [] [])) [(.t 16), (.t 17)], none⟩,
 ⟨(some 15), .mov (.t 18), none⟩,
 ⟨(some 19), .extract (.t 15) 0, none⟩,
 ⟨(some 20), .extract (.t 15) 1, none⟩,
 ⟨(some 21), .extract (.t 15) 2, none⟩,
 ⟨(some 5), .mov (.t 19), none⟩,
 ⟨(some 6), .mov (.t 20), none⟩,
 ⟨(some 7), .mov (.t 21), none⟩])
 (.seq (.reg [⟨(some 23), .load 2 true (.t 2), none⟩,
 ⟨(some 24), .mov (.t 1), none⟩,
 ⟨(some 25), .call (.k (.func (.func 13) [] [])) [(.t 23), (.t 24)], none⟩,
 ⟨(some 22), .mov (.t 25), none⟩,
 ⟨(some 26), .extract (.t 22) 0, none⟩,
 ⟨(some 27), .extract (.t 22) 1, none⟩,
 ⟨(some 8), .mov (.t 26), none⟩,
 ⟨(some 9), .mov (.t 27), none⟩])
 (.seq (.seq (.reg [⟨(some 10), .mov (.k (.int .i64 0)), none⟩])
 (.block 0 (.loop a6_0)))
 (.seq (.reg [⟨(some 52), .load 2 true (.t 2), none⟩,
 ⟨(some 53), .mov (.t 1), none⟩,
 ⟨(some 54), .call (.k (.func (.func 16) [] [])) [(.t 52), (.t 53)], none⟩,
 ⟨(some 55), .mov (.t 8), none⟩,
 ⟨(some 56), .lenSl (.t 55), none⟩,
 ⟨(some 57), .bin .leq (.t 54) (.t 56), none⟩,
 ⟨(some 58), .mov (.t 57), none⟩,
 ⟨(some 59), .mov (.t 8), some (58, true)⟩,
 ⟨(some 60), .lenSl (.t 59), some (58, true)⟩,
 ⟨(some 61), .bin .eql (.t 60) (.k (.int .i64 0)), some (58, true)⟩,
 ⟨(some 62), .mov (.t 61), some (58, true)⟩,
 ⟨(some 63), .load 2 true (.t 2), some (62, false)⟩,
 ⟨(some 64), .mov (.t 1), some (62, false)⟩,
 ⟨(some 65), .call (.k (.func (.func 16) [] [])) [(.t 63), (.t 64)], some (62, false)⟩,
 ⟨(some 66), .mov (.t 8), some (62, false)⟩,
 ⟨(some 67), .lenSl (.t 66), some (62, false)⟩,
 ⟨(some 68), .bin .lss (.t 65) (.t 67), some (62, false)⟩,
 ⟨(some 69), .pick (.t 62) (.k (.bool true)) (.t 68), some (58, true)⟩,
 ⟨(some 70), .pick (.t 58) (.t 69) (.k (.bool false)), none⟩,
 ⟨(some 71), .mov (.t 70), none⟩,
 ⟨(some 72), .mov (.t 7), some (71, true)⟩,
 ⟨(some 73), .un .not (.t 72), some (71, true)⟩,
 ⟨(some 74), .mov (.t 73), some (71, true)⟩,
 ⟨(some 75), .load 2 true (.t 2), some (74, false)⟩,
 ⟨(some 76), .mov (.t 1), some (74, false)⟩,
 ⟨(some 77), .mov (.t 6), some (74, false)⟩,
 ⟨(some 78), .call (.k (.func (.func 15) [] [])) [(.t 75), (.t 76), (.t 77)], some (74, false)⟩,
 ⟨(some 79), .bin .geq (.t 78) (.k (.int .i64 0)), some (74, false)⟩,
 ⟨(some 80), .pick (.t 74) (.k (.bool true)) (.t 79), some (71, true)⟩,
 ⟨(some 81), .pick (.t 71) (.t 80) (.k (.bool false)), none⟩,
 ⟨(some 4), .mov (.t 81), none⟩])
 .ret))))))),
 [], false⟩

def a7 : AFunc := ⟨8, [.tmp 0],
 (.seq (.reg [⟨(some 0), .mov (.k (.bool false)), none⟩])
 (.seq (.reg [⟨(some 1), .mkLit 1 [(.int .i64 0)] [(0, 1, (.k (.int .i64 1073741824)))] false, none⟩,
 ⟨(some 2), .build [(.int .i64 0), (.lst 1 [] .tight), (.lst 1 [] .tight), (.int .i64 0)] [(0, 1, (.k (.int .i64 2147483648))), (1, 1, (.t 1))], none⟩,
 ⟨(some 3), .mkLit 4 [(.int .i64 0), (.lst 1 [] .tight), (.lst 1 [] .tight), (.int .i64 0)] [(0, 4, (.t 2))] false, none⟩,
 ⟨(some 4), .build [(.lst 1 [] .tight), (.int .i64 0)] [(0, 1, (.t 3))], none⟩,
 ⟨(some 5), .mkLit 1 [(.str [])] [(0, 1, (.k (.str [120])))] false, none⟩,
 ⟨(some 6), .call (.k (.func (.func 9) [] [])) [(.t 4), (.t 5)], none⟩,
 ⟨(some 7), .bin .eql (.t 6) (.k (.str [48, 46, 53, 32, 120, 61, 48, 46, 50, 53, 10])), none⟩,
 ⟨(some 0), .mov (.t 7), none⟩])
 .ret)),
 [], false⟩

def a8_0 : ACode := (.seq (.seq (.reg [⟨(some 66), .mov (.t 8), none⟩,
 ⟨(some 67), .mov (.t 1), none⟩,
 ⟨(some 68), .lenSl (.t 67), none⟩,
 ⟨(some 69), .bin .lss (.t 66) (.t 68), none⟩])
 (.cond (.t 69) .skip
 (.exit 4)))
 (.seq (.block 5 (.reg [⟨(some 72), .mov (.t 5), none⟩,
 ⟨(some 73), .mov (.t 1), none⟩,
 ⟨(some 74), .mov (.t 8), none⟩,
 ⟨(some 75), .indexAddr 1 false none (.t 73) (.t 74), none⟩,
 ⟨(some 76), .load 1 false (.t 75), none⟩,
 ⟨(some 77), .lenStr (.t 76), none⟩,
 ⟨(some 78), .bin .quo (.t 77) (.k (.int .i64 20)), none⟩,
 ⟨(some 79), .bin .add (.t 72) (.t 78), none⟩,
 ⟨(some 5), .mov (.t 79), none⟩]))
 (.reg [⟨(some 70), .mov (.t 8), none⟩,
 ⟨(some 71), .bin .add (.t 70) (.k (.int .i64 1)), none⟩,
 ⟨(some 8), .mov (.t 71), none⟩])))

def a8_1 : ACode := (.seq (.seq (.reg [⟨(some 36), .mov (.t 7), none⟩,
 ⟨(some 37), .fieldAddr 0 1 false (.t 2), none⟩,
 ⟨(some 38), .load 1 false (.t 37), none⟩,
 ⟨(some 39), .mov (.t 6), none⟩,
 ⟨(some 40), .indexAddr 4 true none (.t 38) (.t 39), none⟩,
 ⟨(some 41), .fieldAddr 2 1 false (.t 40), none⟩,
 ⟨(some 42), .load 1 false (.t 41), none⟩,
 ⟨(some 43), .lenSl (.t 42), none⟩,
 ⟨(some 44), .bin .lss (.t 36) (.t 43), none⟩])
 (.cond (.t 44) .skip
 (.exit 2)))
 (.seq (.block 3 (.reg [⟨(some 47), .mov (.t 5), none⟩,
 ⟨(some 48), .fieldAddr 0 1 false (.t 2), none⟩,
 ⟨(some 49), .load 1 false (.t 48), none⟩,
 ⟨(some 50), .mov (.t 6), none⟩,
 ⟨(some 51), .indexAddr 4 true none (.t 49) (.t 50), none⟩,
 ⟨(some 52), .fieldAddr 2 1 false (.t 51), none⟩,
 ⟨(some 53), .load 1 false (.t 52), none⟩,
 ⟨(some 54), .mov (.t 7), none⟩,
 ⟨(some 55), .indexAddr 1 false none (.t 53) (.t 54), none⟩,
 ⟨(some 56), .load 1 false (.t 55), none⟩,
 ⟨(some 57), .lenSl (.t 56), none⟩,
 ⟨(some 58), .bin .add (.t 47) (.t 57), none⟩,
 ⟨(some 5), .mov (.t 58), none⟩]))
 (.reg [⟨(some 45), .mov (.t 7), none⟩,
 ⟨(some 46), .bin .add (.t 45) (.k (.int .i64 1)), none⟩,
 ⟨(some 7), .mov (.t 46), none⟩])))

def a8_2 : ACode := (.seq (.seq (.reg [⟨(some 12), .mov (.t 6), none⟩,
 ⟨(some 13), .fieldAddr 0 1 false (.t 2), none⟩,
 ⟨(some 14), .load 1 false (.t 13), none⟩,
 ⟨(some 15), .lenSl (.t 14), none⟩,
 ⟨(some 16), .bin .lss (.t 12) (.t 15), none⟩])
 (.cond (.t 16) .skip
 (.exit 0)))
 (.seq (.block 1 (.seq (.plan [⟨0, ⟨(some 19), .mov (.t 5), none⟩, []⟩,
 ⟨1, ⟨(some 20), .fieldAddr 0 1 false (.t 2), none⟩, []⟩,
 ⟨2, ⟨(some 21), .load 1 false (.t 20), none⟩, []⟩,
 ⟨3, ⟨(some 22), .mov (.t 6), none⟩, []⟩,
 ⟨4, ⟨(some 23), .indexAddr 4 true none (.t 21) (.t 22), none⟩, []⟩,
 ⟨5, ⟨(some 24), .fieldAddr 1 1 false (.t 23), none⟩, []⟩,
 ⟨6, ⟨(some 25), .load 1 false (.t 24), none⟩, []⟩,
 ⟨7, ⟨(some 26), .lenSl (.t 25), none⟩, []⟩,
 ⟨8, ⟨(some 27), .bin .add (.t 19) (.t 26), none⟩, []⟩,
 ⟨9, ⟨(some 28), .fieldAddr 0 1 false (.t 2), none⟩, []⟩,
 ⟨10, ⟨(some 29), .load 1 false (.t 28), none⟩, []⟩,
 ⟨11, ⟨(some 30), .mov (.t 6), none⟩, []⟩,
 ⟨12, ⟨(some 31), .indexAddr 4 true none (.t 29) (.t 30), none⟩, []⟩,
 ⟨13, ⟨(some 32), .fieldAddr 2 1 false (.t 31), none⟩, []⟩,
 ⟨14, ⟨(some 33), .load 1 false (.t 32), none⟩, []⟩,
 ⟨15, ⟨(some 34), .lenSl (.t 33), none⟩, []⟩,
 ⟨16, ⟨(some 35), .bin .add (.t 27) (.t 34), none⟩, []⟩,
 ⟨17, ⟨(some 5), .mov (.t 35), none⟩, []⟩])
 (.seq (.seq (.reg [⟨(some 7), .mov (.k (.int .i64 0)), none⟩])
 (.block 2 (.loop a8_1)))
 (.seq (.reg [⟨(some 59), .fieldAddr 0 1 false (.t 2), none⟩,
 ⟨(some 60), .load 1 false (.t 59), none⟩,
 ⟨(some 61), .mov (.t 6), none⟩,
 ⟨(some 62), .indexAddr 4 true none (.t 60) (.t 61), none⟩,
 ⟨(some 63), .fieldAddr 3 1 false (.t 62), none⟩,
 ⟨(some 64), .load 1 false (.t 63), none⟩,
 ⟨(some 65), .bin .lss (.t 64) (.k (.int .i64 (-1000000000000))), none⟩])
 (.cond (.t 65) (.seq (.reg [⟨(some 4), .mov (.k (.bool true)), none⟩])
 .ret)
 .skip)))))
 (.reg [⟨(some 17), .mov (.t 6), none⟩,
 ⟨(some 18), .bin .add (.t 17) (.k (.int .i64 1)), none⟩,
 ⟨(some 6), .mov (.t 18), none⟩])))

def a8 : AFunc := ⟨87, [.tmp 4],
 (.seq (.reg [⟨(some 2), .box 2 (.t 0) false, none⟩,
 ⟨(some 4), .mov (.k (.bool false)), none⟩])
 (.seq (.reg [⟨(some 9), .fieldAddr 0 1 false (.t 2), none⟩,
 ⟨(some 10), .load 1 false (.t 9), none⟩,
 ⟨(some 11), .lenSl (.t 10), none⟩,
 ⟨(some 5), .mov (.t 11), none⟩])
 (.seq (.seq (.reg [⟨(some 6), .mov (.k (.int .i64 0)), none⟩])
 (.block 0 (.loop a8_2)))
 (.seq (.seq (.reg [⟨(some 8), .mov (.k (.int .i64 0)), none⟩])
 (.block 4 (.loop a8_0)))
 (.seq (.reg [⟨(some 80), .mov (.t 5), none⟩,
 ⟨(some 81), .bin .gtr (.t 80) (.k (.int .i64 600)), none⟩,
 ⟨(some 82), .mov (.t 81), none⟩,
 ⟨(some 83), .fieldAddr 1 1 false (.t 2), some (82, false)⟩,
 ⟨(some 84), .load 1 false (.t 83), some (82, false)⟩,
 ⟨(some 85), .bin .lss (.t 84) (.k (.int .i64 (-1000000000000))), some (82, false)⟩,
 ⟨(some 86), .pick (.t 82) (.k (.bool true)) (.t 85), none⟩,
 ⟨(some 4), .mov (.t 86), none⟩])
 .ret))))),
 [], false⟩

def a9_0 : ACode := (.seq (.reg [⟨(some 13), .bin .lss (.t 12) (.t 11), none⟩])
 (.seq (.cond (.t 13) .skip
 (.exit 0))
 (.seq (.block 1 (.seq (.reg [⟨(some 14), .indexAddr 4 true none (.t 10) (.t 12), none⟩,
 ⟨(some 15), .load 4 true (.t 14), none⟩,
 ⟨(some 8), .new (.agg [(.int .i64 0), (.lst 1 [] .tight), (.lst 1 [] .tight), (.int .i64 0)]) true none, none⟩,
 ⟨none, .store 4 (.t 8) (.t 15), none⟩])
 (.seq (.reg [⟨(some 16), .load 4 true (.t 8), none⟩,
 ⟨(some 17), .mov (.t 1), none⟩,
 ⟨(some 18), .mov (.t 6), none⟩,
 ⟨(some 19), .call (.k (.func (.func 18) [] [])) [(.t 16), (.t 17), (.t 18)], none⟩,
 ⟨(some 20), .call (.k (.func (.func 17) [] [])) [(.t 5), (.t 19)], none⟩])
 (.reg [⟨(some 21), .fieldAddr 3 1 false (.t 8), none⟩,
 ⟨(some 22), .load 1 false (.t 21), none⟩,
 ⟨(some 6), .mov (.t 22), none⟩]))))
 (.reg [⟨(some 23), .bin .add (.t 12) (.k (.int .i64 1)), none⟩,
 ⟨(some 12), .mov (.t 23), none⟩]))))

def a9 : AFunc := ⟨34, [.tmp 4],
 (.seq (.reg [⟨(some 2), .box 2 (.t 0) false, none⟩,
 ⟨(some 4), .mov (.k (.str [])), none⟩])
 (.seq (.reg [⟨(some 5), .new (.agg [.nilPtr, .nilSl]) true (some 48), none⟩])
 (.seq (.reg [⟨(some 6), .mov (.k (.int .i64 0)), none⟩])
 (.seq (.seq (.reg [⟨(some 9), .fieldAddr 0 1 false (.t 2), none⟩,
 ⟨(some 10), .load 1 false (.t 9), none⟩,
 ⟨(some 11), .lenSl (.t 10), none⟩,
 ⟨(some 12), .mov (.k (.int .i64 0)), none⟩])
 (.block 0 (.loop a9_0)))
 (.seq (.seq (.reg [⟨(some 24), .fieldAddr 1 1 false (.t 2), none⟩,
 ⟨(some 25), .load 1 false (.t 24), none⟩,
 ⟨(some 26), .bin .neq (.t 25) (.k (.int .i64 0)), none⟩])
 (.cond (.t 26) (.reg [⟨(some 27), .fieldAddr 1 1 false (.t 2), none⟩,
 ⟨(some 28), .load 1 false (.t 27), none⟩,
 ⟨(some 29), .call (.k (.func (.func 20) [] [])) [(.t 28)], none⟩,
 ⟨(some 30), .mkLit 1 [(.str []), (.str [])] [(0, 1, (.k (.str [101, 110, 100]))), (1, 1, (.t 29))] false, none⟩,
 ⟨(some 31), .call (.k (.func (.func 19) [] [])) [(.t 30)], none⟩,
 ⟨(some 32), .call (.k (.func (.func 17) [] [])) [(.t 5), (.t 31)], none⟩])
 .skip))
 (.seq (.reg [⟨(some 33), .call (.k (.func (.func 21) [] [])) [(.t 5)], none⟩,
 ⟨(some 4), .mov (.t 33), none⟩])
 .ret)))))),
 [], false⟩

def a10_0 : ACode := (.seq (.seq (.reg [⟨(some 70), .mov (.t 12), none⟩,
 ⟨(some 71), .fieldAddr 2 1 false (.t 7), none⟩,
 ⟨(some 72), .load 1 false (.t 71), none⟩,
 ⟨(some 73), .mov (.t 10), none⟩,
 ⟨(some 74), .indexAddr 1 false none (.t 72) (.t 73), none⟩,
 ⟨(some 75), .load 1 false (.t 74), none⟩,
 ⟨(some 76), .lenSl (.t 75), none⟩,
 ⟨(some 77), .bin .lss (.t 70) (.t 76), none⟩])
 (.cond (.t 77) .skip
 (.exit 6)))
 (.seq (.block 7 (.seq (.seq (.reg [⟨(some 80), .fieldAddr 2 1 false (.t 7), none⟩,
 ⟨(some 81), .load 1 false (.t 80), none⟩,
 ⟨(some 82), .mov (.t 10), none⟩,
 ⟨(some 83), .indexAddr 1 false none (.t 81) (.t 82), none⟩,
 ⟨(some 84), .load 1 false (.t 83), none⟩,
 ⟨(some 85), .mov (.t 12), none⟩,
 ⟨(some 86), .indexAddr 1 false none (.t 84) (.t 85), none⟩,
 ⟨(some 87), .load 1 false (.t 86), none⟩,
 ⟨(some 88), .un .not (.t 87), none⟩])
 (.cond (.t 88) (.exit 7)
 .skip))
 (.seq (.seq (.reg [⟨(some 89), .mov (.t 11), none⟩,
 ⟨(some 90), .un .not (.t 89), none⟩])
 (.cond (.t 90) (.reg [⟨(some 91), .mov (.t 5), none⟩,
 ⟨(some 92), .bin .add (.t 91) (.k (.str [44])), none⟩,
 ⟨(some 5), .mov (.t 92), none⟩])
 .skip))
 (.seq (.reg [⟨(some 11), .mov (.k (.bool false)), none⟩])
 (.reg [⟨(some 93), .mov (.t 5), none⟩,
 ⟨(some 94), .mov (.t 12), none⟩,
 ⟨(some 95), .call (.k (.func (.func 23) [] [])) [(.t 94)], none⟩,
 ⟨(some 96), .bin .add (.t 93) (.t 95), none⟩,
 ⟨(some 5), .mov (.t 96), none⟩])))))
 (.reg [⟨(some 78), .mov (.t 12), none⟩,
 ⟨(some 79), .bin .add (.t 78) (.k (.int .i64 1)), none⟩,
 ⟨(some 12), .mov (.t 79), none⟩])))

def a10_1 : ACode := (.seq (.seq (.reg [⟨(some 61), .mov (.t 10), none⟩,
 ⟨(some 62), .fieldAddr 2 1 false (.t 7), none⟩,
 ⟨(some 63), .load 1 false (.t 62), none⟩,
 ⟨(some 64), .lenSl (.t 63), none⟩,
 ⟨(some 65), .bin .lss (.t 61) (.t 64), none⟩])
 (.cond (.t 65) .skip
 (.exit 4)))
 (.seq (.block 5 (.seq (.reg [⟨(some 68), .mov (.t 5), none⟩,
 ⟨(some 69), .bin .add (.t 68) (.k (.str [32, 33])), none⟩,
 ⟨(some 5), .mov (.t 69), none⟩])
 (.seq (.reg [⟨(some 11), .mov (.k (.bool true)), none⟩])
 (.seq (.reg [⟨(some 12), .mov (.k (.int .i64 0)), none⟩])
 (.block 6 (.loop a10_0))))))
 (.reg [⟨(some 66), .mov (.t 10), none⟩,
 ⟨(some 67), .bin .add (.t 66) (.k (.int .i64 1)), none⟩,
 ⟨(some 10), .mov (.t 67), none⟩])))

def a10_2 : ACode := (.seq (.seq (.reg [⟨(some 31), .mov (.t 8), none⟩,
 ⟨(some 32), .fieldAddr 1 1 false (.t 7), none⟩,
 ⟨(some 33), .load 1 false (.t 32), none⟩,
 ⟨(some 34), .lenSl (.t 33), none⟩,
 ⟨(some 35), .bin .lss (.t 31) (.t 34), none⟩])
 (.cond (.t 35) .skip
 (.exit 2)))
 (.seq (.block 3 (.seq (.reg [⟨(some 38), .mov (.t 8), none⟩,
 ⟨(some 39), .call (.k (.func (.func 23) [] [])) [(.t 38)], none⟩,
 ⟨(some 40), .bin .add (.k (.str [111, 117, 116])) (.t 39), none⟩,
 ⟨(some 9), .mov (.t 40), none⟩])
 (.seq (.seq (.reg [⟨(some 41), .mov (.t 8), none⟩,
 ⟨(some 42), .mov (.t 1), none⟩,
 ⟨(some 43), .lenSl (.t 42), none⟩,
 ⟨(some 44), .bin .lss (.t 41) (.t 43), none⟩])
 (.cond (.t 44) (.reg [⟨(some 45), .mov (.t 1), none⟩,
 ⟨(some 46), .mov (.t 8), none⟩,
 ⟨(some 47), .indexAddr 1 false none (.t 45) (.t 46), none⟩,
 ⟨(some 48), .load 1 false (.t 47), none⟩,
 ⟨(some 9), .mov (.t 48), none⟩])
 .skip))
 (.reg [⟨(some 49), .mov (.t 5), none⟩,
 ⟨(some 50), .bin .add (.t 49) (.k (.str [32])), none⟩,
 ⟨(some 51), .mov (.t 9), none⟩,
 ⟨(some 52), .bin .add (.t 50) (.t 51), none⟩,
 ⟨(some 53), .bin .add (.t 52) (.k (.str [61])), none⟩,
 ⟨(some 54), .fieldAddr 1 1 false (.t 7), none⟩,
 ⟨(some 55), .load 1 false (.t 54), none⟩,
 ⟨(some 56), .mov (.t 8), none⟩,
 ⟨(some 57), .indexAddr 1 false none (.t 55) (.t 56), none⟩,
 ⟨(some 58), .load 1 false (.t 57), none⟩,
 ⟨(some 59), .call (.k (.func (.func 22) [] [])) [(.t 58), (.k (.int .i64 32))], none⟩,
 ⟨(some 60), .bin .add (.t 53) (.t 59), none⟩,
 ⟨(some 5), .mov (.t 60), none⟩]))))
 (.reg [⟨(some 36), .mov (.t 8), none⟩,
 ⟨(some 37), .bin .add (.t 36) (.k (.int .i64 1)), none⟩,
 ⟨(some 8), .mov (.t 37), none⟩])))

def a10_3 : ACode := (.seq (.seq (.reg [⟨(some 14), .mov (.t 6), none⟩,
 ⟨(some 15), .fieldAddr 0 1 false (.t 2), none⟩,
 ⟨(some 16), .load 1 false (.t 15), none⟩,
 ⟨(some 17), .lenSl (.t 16), none⟩,
 ⟨(some 18), .bin .lss (.t 14) (.t 17), none⟩])
 (.cond (.t 18) .skip
 (.exit 0)))
 (.seq (.block 1 (.seq (.reg [⟨(some 21), .fieldAddr 0 1 false (.t 2), none⟩,
 ⟨(some 22), .load 1 false (.t 21), none⟩,
 ⟨(some 23), .mov (.t 6), none⟩,
 ⟨(some 24), .indexAddr 4 true none (.t 22) (.t 23), none⟩,
 ⟨(some 25), .load 4 true (.t 24), none⟩,
 ⟨(some 7), .new (.agg [(.int .i64 0), (.lst 1 [] .tight), (.lst 1 [] .tight), (.int .i64 0)]) true none, none⟩,
 ⟨none, .store 4 (.t 7) (.t 25), none⟩])
 (.seq (.reg [⟨(some 26), .mov (.t 5), none⟩,
 ⟨(some 27), .fieldAddr 0 1 false (.t 7), none⟩,
 ⟨(some 28), .load 1 false (.t 27), none⟩,
 ⟨(some 29), .call (.k (.func (.func 22) [] [])) [(.t 28), (.k (.int .i64 32))], none⟩,
 ⟨(some 30), .bin .add (.t 26) (.t 29), none⟩,
 ⟨(some 5), .mov (.t 30), none⟩])
 (.seq (.seq (.reg [⟨(some 8), .mov (.k (.int .i64 0)), none⟩])
 (.block 2 (.loop a10_2)))
 (.seq (.seq (.reg [⟨(some 10), .mov (.k (.int .i64 0)), none⟩])
 (.block 4 (.loop a10_1)))
 (.seq (.reg [⟨(some 13), .mov (.k (.int .i64 0)), none⟩])
 (.seq (.seq (.reg [⟨(some 97), .mov (.t 6), none⟩,
 ⟨(some 98), .bin .gtr (.t 97) (.k (.int .i64 0)), none⟩])
 (.cond (.t 98) (.reg [⟨(some 99), .fieldAddr 0 1 false (.t 2), none⟩,
 ⟨(some 100), .load 1 false (.t 99), none⟩,
 ⟨(some 101), .mov (.t 6), none⟩,
 ⟨(some 102), .bin .sub (.t 101) (.k (.int .i64 1)), none⟩,
 ⟨(some 103), .indexAddr 4 true none (.t 100) (.t 102), none⟩,
 ⟨(some 104), .fieldAddr 3 1 false (.t 103), none⟩,
 ⟨(some 105), .load 1 false (.t 104), none⟩,
 ⟨(some 13), .mov (.t 105), none⟩])
 .skip))
 (.seq (.seq (.reg [⟨(some 106), .fieldAddr 3 1 false (.t 7), none⟩,
 ⟨(some 107), .load 1 false (.t 106), none⟩,
 ⟨(some 108), .mov (.t 13), none⟩,
 ⟨(some 109), .bin .neq (.t 107) (.t 108), none⟩])
 (.cond (.t 109) (.reg [⟨(some 110), .mov (.t 5), none⟩,
 ⟨(some 111), .bin .add (.t 110) (.k (.str [32, 102, 108, 97, 103, 115, 32])), none⟩,
 ⟨(some 112), .fieldAddr 3 1 false (.t 7), none⟩,
 ⟨(some 113), .load 1 false (.t 112), none⟩,
 ⟨(some 114), .call (.k (.func (.func 23) [] [])) [(.t 113)], none⟩,
 ⟨(some 115), .bin .add (.t 111) (.t 114), none⟩,
 ⟨(some 5), .mov (.t 115), none⟩])
 .skip))
 (.reg [⟨(some 116), .mov (.t 5), none⟩,
 ⟨(some 117), .bin .add (.t 116) (.k (.str [10])), none⟩,
 ⟨(some 5), .mov (.t 117), none⟩])))))))))
 (.reg [⟨(some 19), .mov (.t 6), none⟩,
 ⟨(some 20), .bin .add (.t 19) (.k (.int .i64 1)), none⟩,
 ⟨(some 6), .mov (.t 20), none⟩])))

def a10 : AFunc := ⟨129, [.tmp 4],
 (.seq (.reg [⟨(some 2), .box 2 (.t 0) false, none⟩,
 ⟨(some 4), .mov (.k (.str [])), none⟩])
 (.seq (.reg [⟨(some 5), .mov (.k (.str [])), none⟩])
 (.seq (.seq (.reg [⟨(some 6), .mov (.k (.int .i64 0)), none⟩])
 (.block 0 (.loop a10_3)))
 (.seq (.seq (.reg [⟨(some 118), .fieldAddr 1 1 false (.t 2), none⟩,
 ⟨(some 119), .load 1 false (.t 118), none⟩,
 ⟨(some 120), .bin .neq (.t 119) (.k (.int .i64 0)), none⟩])
 (.cond (.t 120) (.reg [⟨(some 121), .mov (.t 5), none⟩,
 ⟨(some 122), .bin .add (.t 121) (.k (.str [101, 110, 100, 32])), none⟩,
 ⟨(some 123), .fieldAddr 1 1 false (.t 2), none⟩,
 ⟨(some 124), .load 1 false (.t 123), none⟩,
 ⟨(some 125), .call (.k (.func (.func 23) [] [])) [(.t 124)], none⟩,
 ⟨(some 126), .bin .add (.t 122) (.t 125), none⟩,
 ⟨(some 127), .bin .add (.t 126) (.k (.str [10])), none⟩,
 ⟨(some 5), .mov (.t 127), none⟩])
 .skip))
 (.seq (.reg [⟨(some 128), .mov (.t 5), none⟩,
 ⟨(some 4), .mov (.t 128), none⟩])
 .ret))))),
 [], false⟩

def a11_0 : ACode := (.seq (.reg [⟨(some 10), .bin .lss (.t 9) (.t 8), none⟩])
 (.seq (.cond (.t 10) .skip
 (.exit 0))
 (.seq (.block 1 (.seq (.reg [⟨(some 11), .indexAddr 4 true none (.t 7) (.t 9), none⟩,
 ⟨(some 12), .load 4 true (.t 11), none⟩,
 ⟨(some 5), .new (.agg [(.int .i64 0), (.lst 1 [] .tight), (.lst 1 [] .tight), (.int .i64 0)]) true none, none⟩,
 ⟨none, .store 4 (.t 5) (.t 12), none⟩])
 (.reg [⟨(some 13), .mov (.t 3), none⟩,
 ⟨(some 14), .fieldAddr 2 1 false (.t 5), none⟩,
 ⟨(some 15), .load 1 false (.t 14), none⟩,
 ⟨(some 16), .lenSl (.t 15), none⟩,
 ⟨(some 17), .bin .add (.t 13) (.t 16), none⟩,
 ⟨(some 3), .mov (.t 17), none⟩])))
 (.reg [⟨(some 18), .bin .add (.t 9) (.k (.int .i64 1)), none⟩,
 ⟨(some 9), .mov (.t 18), none⟩]))))

def a11 : AFunc := ⟨20, [.tmp 2],
 (.seq (.reg [⟨(some 1), .box 2 (.t 0) false, none⟩,
 ⟨(some 2), .mov (.k (.int .i64 0)), none⟩])
 (.seq (.reg [⟨(some 3), .mov (.k (.int .i64 0)), none⟩])
 (.seq (.seq (.reg [⟨(some 6), .fieldAddr 0 1 false (.t 1), none⟩,
 ⟨(some 7), .load 1 false (.t 6), none⟩,
 ⟨(some 8), .lenSl (.t 7), none⟩,
 ⟨(some 9), .mov (.k (.int .i64 0)), none⟩])
 (.block 0 (.loop a11_0)))
 (.seq (.reg [⟨(some 19), .mov (.t 3), none⟩,
 ⟨(some 2), .mov (.t 19), none⟩])
 .ret)))),
 [], false⟩

def a12_0 : ACode := (.seq (.reg [⟨(some 12), .bin .lss (.t 11) (.t 10), none⟩])
 (.seq (.cond (.t 12) .skip
 (.exit 0))
 (.seq (.block 1 (.seq (.reg [⟨(some 13), .indexAddr 4 true none (.t 9) (.t 11), none⟩,
 ⟨(some 14), .load 4 true (.t 13), none⟩,
 ⟨(some 7), .new (.agg [(.int .i64 0), (.lst 1 [] .tight), (.lst 1 [] .tight), (.int .i64 0)]) true none, none⟩,
 ⟨none, .store 4 (.t 7) (.t 14), none⟩])
 (.seq (.reg [⟨(some 15), .fieldAddr 2 1 false (.t 7), none⟩,
 ⟨(some 16), .load 1 false (.t 15), none⟩,
 ⟨(some 17), .mkFunc 25 [] [(.t 3)], none⟩,
 ⟨(some 18), .call (.k (.func (.func 24) [] [])) [(.t 16), (.t 17)], none⟩])
 (.cond (.t 18) (.reg [⟨(some 19), .mov (.t 5), none⟩,
 ⟨(some 20), .bin .add (.t 19) (.k (.int .i64 1)), none⟩,
 ⟨(some 5), .mov (.t 20), none⟩])
 .skip))))
 (.reg [⟨(some 21), .bin .add (.t 11) (.k (.int .i64 1)), none⟩,
 ⟨(some 11), .mov (.t 21), none⟩]))))

def a12 : AFunc := ⟨23, [.tmp 4],
 (.seq (.reg [⟨(some 2), .box 2 (.t 0) false, none⟩,
 ⟨(some 3), .box 1 (.t 1) false, none⟩,
 ⟨(some 4), .mov (.k (.int .i64 0)), none⟩])
 (.seq (.reg [⟨(some 5), .mov (.k (.int .i64 0)), none⟩])
 (.seq (.seq (.reg [⟨(some 8), .fieldAddr 0 1 false (.t 2), none⟩,
 ⟨(some 9), .load 1 false (.t 8), none⟩,
 ⟨(some 10), .lenSl (.t 9), none⟩,
 ⟨(some 11), .mov (.k (.int .i64 0)), none⟩])
 (.block 0 (.loop a12_0)))
 (.seq (.reg [⟨(some 22), .mov (.t 5), none⟩,
 ⟨(some 4), .mov (.t 22), none⟩])
 .ret)))),
 [], false⟩

def a13_0 : ACode := (.seq (.seq (.reg [⟨(some 9), .mov (.t 8), none⟩,
 ⟨(some 10), .fieldAddr 0 1 false (.t 2), none⟩,
 ⟨(some 11), .load 1 false (.t 10), none⟩,
 ⟨(some 12), .lenSl (.t 11), none⟩,
 ⟨(some 13), .bin .lss (.t 9) (.t 12), none⟩])
 (.cond (.t 13) .skip
 (.exit 0)))
 (.seq (.block 1 (.seq (.reg [⟨(some 16), .mov (.t 1), none⟩,
 ⟨(some 17), .bin .geq (.t 16) (.k (.int .i64 0)), none⟩,
 ⟨(some 18), .mov (.t 17), none⟩,
 ⟨(some 19), .mov (.t 1), some (18, true)⟩,
 ⟨(some 20), .fieldAddr 0 1 false (.t 2), some (18, true)⟩,
 ⟨(some 21), .load 1 false (.t 20), some (18, true)⟩,
 ⟨(some 22), .mov (.t 8), some (18, true)⟩,
 ⟨(some 23), .indexAddr 4 true none (.t 21) (.t 22), some (18, true)⟩,
 ⟨(some 24), .fieldAddr 1 1 false (.t 23), some (18, true)⟩,
 ⟨(some 25), .load 1 false (.t 24), some (18, true)⟩,
 ⟨(some 26), .lenSl (.t 25), some (18, true)⟩,
 ⟨(some 27), .bin .lss (.t 19) (.t 26), some (18, true)⟩,
 ⟨(some 28), .pick (.t 18) (.t 27) (.k (.bool false)), none⟩])
 (.cond (.t 28) (.seq (.reg [⟨(some 29), .mov (.t 6), none⟩,
 ⟨(some 30), .fieldAddr 0 1 false (.t 2), none⟩,
 ⟨(some 31), .load 1 false (.t 30), none⟩,
 ⟨(some 32), .mov (.t 8), none⟩,
 ⟨(some 33), .indexAddr 4 true none (.t 31) (.t 32), none⟩,
 ⟨(some 34), .fieldAddr 1 1 false (.t 33), none⟩,
 ⟨(some 35), .load 1 false (.t 34), none⟩,
 ⟨(some 36), .mov (.t 1), none⟩,
 ⟨(some 37), .indexAddr 1 false none (.t 35) (.t 36), none⟩,
 ⟨(some 38), .load 1 false (.t 37), none⟩,
 ⟨(some 39), .mkLit 1 [(.int .i64 0)] [(0, 1, (.t 38))] false, none⟩,
 ⟨(some 40), .append 1 8 (some 2) (.t 29) (.t 39), none⟩,
 ⟨(some 6), .mov (.t 40), none⟩])
 (.reg [⟨(some 41), .mov (.t 7), none⟩,
 ⟨(some 42), .mov (.t 8), none⟩,
 ⟨(some 43), .mkLit 1 [(.int .i64 0)] [(0, 1, (.t 42))] false, none⟩,
 ⟨(some 44), .append 1 8 (some 3) (.t 41) (.t 43), none⟩,
 ⟨(some 7), .mov (.t 44), none⟩]))
 .skip)))
 (.reg [⟨(some 14), .mov (.t 8), none⟩,
 ⟨(some 15), .bin .add (.t 14) (.k (.int .i64 1)), none⟩,
 ⟨(some 8), .mov (.t 15), none⟩])))

def a13 : AFunc := ⟨47, [.tmp 4, .tmp 5],
 (.seq (.reg [⟨(some 2), .box 2 (.t 0) false, none⟩,
 ⟨(some 4), .mov (.k (.lst 1 [] .tight)), none⟩,
 ⟨(some 5), .mov (.k (.lst 1 [] .tight)), none⟩])
 (.seq (.reg [⟨(some 6), .mov (.k (.lst 1 [] .tight)), none⟩])
 (.seq (.reg [⟨(some 7), .mov (.k (.lst 1 [] .tight)), none⟩])
 (.seq (.seq (.reg [⟨(some 8), .mov (.k (.int .i64 0)), none⟩])
 (.block 0 (.loop a13_0)))
 (.seq (.reg [⟨(some 45), .mov (.t 6), none⟩,
 ⟨(some 46), .mov (.t 7), none⟩,
 ⟨(some 4), .mov (.t 45), none⟩,
 ⟨(some 5), .mov (.t 46), none⟩])
 .ret))))),
 [], false⟩

def a14 : AFunc := ⟨30, [.tmp 4, .tmp 5, .tmp 6],
 (.seq (.reg [⟨(some 2), .box 2 (.t 0) false, none⟩,
 ⟨(some 4), .mov (.k (.int .i64 0)), none⟩,
 ⟨(some 5), .mov (.k (.int .i64 0)), none⟩,
 ⟨(some 6), .mov (.k (.bool false)), none⟩])
 (.seq (.reg [⟨(some 7), .new (.int .i64 0) true none, none⟩,
 ⟨(some 8), .new (.int .i64 0) true none, none⟩])
 (.seq (.reg [⟨(some 9), .new (.bool false) true none, none⟩,
 ⟨none, .store 1 (.t 9) (.k (.bool false)), none⟩])
 (.seq (.seq (.reg [⟨(some 12), .load 2 true (.t 2), none⟩,
 ⟨(some 13), .mov (.t 1), none⟩,
 ⟨(some 14), .call (.k (.func (.func 26) [] [])) [(.t 12), (.t 13)], none⟩])
 (.block 0 (.rangeFunc (.t 14) [15, 16] 0)))
 (.seq (.plan [⟨0, ⟨(some 27), .load 1 false (.t 7), none⟩, []⟩,
 ⟨1, ⟨(some 28), .load 1 false (.t 8), none⟩, []⟩,
 ⟨2, ⟨(some 29), .load 1 false (.t 9), none⟩, []⟩,
 ⟨3, ⟨(some 4), .mov (.t 27), none⟩, []⟩,
 ⟨4, ⟨(some 5), .mov (.t 28), none⟩, []⟩,
 ⟨5, ⟨(some 6), .mov (.t 29), none⟩, []⟩])
 .ret))))),
 [((.reg [⟨(some 11), .mov (.t 16), none⟩]), (.block 1 (.seq (.seq (.reg [⟨(some 17), .load 1 false (.t 9), none⟩,
 ⟨(some 18), .un .not (.t 17), none⟩])
 (.cond (.t 18) (.reg [⟨(some 19), .mov (.t 11), none⟩,
 ⟨(some 20), .mov (.t 11), none⟩,
 ⟨none, .store 1 (.t 7) (.t 19), none⟩,
 ⟨none, .store 1 (.t 8) (.t 20), none⟩,
 ⟨none, .store 1 (.t 9) (.k (.bool true)), none⟩])
 .skip))
 (.plan [⟨0, ⟨(some 21), .load 1 false (.t 7), none⟩, []⟩,
 ⟨1, ⟨(some 22), .mov (.t 11), none⟩, []⟩,
 ⟨2, ⟨(some 23), .minmax false [(.t 21), (.t 22)], none⟩, []⟩,
 ⟨3, ⟨(some 24), .load 1 false (.t 8), none⟩, []⟩,
 ⟨4, ⟨(some 25), .mov (.t 11), none⟩, []⟩,
 ⟨5, ⟨(some 26), .minmax true [(.t 24), (.t 25)], none⟩, []⟩,
 ⟨6, ⟨none, .store 1 (.t 7) (.t 23), none⟩, [3]⟩,
 ⟨7, ⟨none, .store 1 (.t 8) (.t 26), none⟩, []⟩]))))], false⟩

def a15 : AFunc := ⟨18, [.cell 6 1 false],
 (.seq (.reg [⟨(some 3), .box 2 (.t 0) false, none⟩,
 ⟨(some 5), .box 1 (.t 2) false, none⟩,
 ⟨(some 6), .new (.int .i64 0) true none, none⟩])
 (.seq (.seq (.reg [⟨(some 9), .load 2 true (.t 3), none⟩,
 ⟨(some 10), .mov (.t 1), none⟩,
 ⟨(some 11), .call (.k (.func (.func 26) [] [])) [(.t 9), (.t 10)], none⟩])
 (.block 0 (.rangeFunc (.t 11) [12, 13] 0)))
 (.seq (.reg [⟨none, .store 1 (.t 6) (.k (.int .i64 (-1))), none⟩])
 .ret))),
 [((.seq (.reg [⟨(some 7), .mov (.t 12), none⟩])
 (.reg [⟨(some 8), .mov (.t 13), none⟩])), (.block 1 (.seq (.reg [⟨(some 14), .mov (.t 8), none⟩,
 ⟨(some 15), .load 1 false (.t 5), none⟩,
 ⟨(some 16), .bin .geq (.t 14) (.t 15), none⟩])
 (.cond (.t 16) (.seq (.reg [⟨(some 17), .mov (.t 7), none⟩,
 ⟨none, .store 1 (.t 6) (.t 17), none⟩])
 .ret)
 .skip))))], false⟩

def a16 : AFunc := ⟨29, [.tmp 4],
 (.seq (.reg [⟨(some 2), .box 2 (.t 0) false, none⟩,
 ⟨(some 4), .mov (.k (.int .i64 0)), none⟩])
 (.seq (.reg [⟨(some 5), .new (.int .i64 0) true none, none⟩,
 ⟨none, .store 1 (.t 5) (.k (.int .i64 0)), none⟩])
 (.seq (.reg [⟨(some 6), .new (.lst 1 [] .tight) true none, none⟩])
 (.seq (.seq (.reg [⟨(some 9), .load 2 true (.t 2), none⟩,
 ⟨(some 10), .mov (.t 1), none⟩,
 ⟨(some 11), .call (.k (.func (.func 26) [] [])) [(.t 9), (.t 10)], none⟩])
 (.block 0 (.rangeFunc (.t 11) [12, 13] 0)))
 (.seq (.reg [⟨(some 28), .load 1 false (.t 5), none⟩,
 ⟨(some 4), .mov (.t 28), none⟩])
 .ret))))),
 [((.reg [⟨(some 8), .mov (.t 13), none⟩]), (.block 1 (.seq (.seq (.reg [⟨(some 14), .load 1 false (.t 6), none⟩,
 ⟨(some 15), .lenSl (.t 14), none⟩,
 ⟨(some 16), .bin .gtr (.t 15) (.k (.int .i64 0)), none⟩,
 ⟨(some 17), .mov (.t 16), none⟩,
 ⟨(some 18), .load 1 false (.t 6), some (17, true)⟩,
 ⟨(some 19), .indexAddr 1 false none (.t 18) (.k (.int .i64 0)), some (17, true)⟩,
 ⟨(some 20), .load 1 false (.t 19), some (17, true)⟩,
 ⟨(some 21), .mov (.t 8), some (17, true)⟩,
 ⟨(some 22), .bin .neq (.t 20) (.t 21), some (17, true)⟩,
 ⟨(some 23), .pick (.t 17) (.t 22) (.k (.bool false)), none⟩])
 (.cond (.t 23) (.reg [⟨(some 24), .load 1 false (.t 5), none⟩,
 ⟨(some 25), .bin .add (.t 24) (.k (.int .i64 1)), none⟩,
 ⟨none, .store 1 (.t 5) (.t 25), none⟩])
 .skip))
 (.reg [⟨(some 26), .mov (.t 8), none⟩,
 ⟨(some 27), .mkLit 1 [(.int .i64 0)] [(0, 1, (.t 26))] false, none⟩,
 ⟨none, .store 1 (.t 6) (.t 27), none⟩]))))], false⟩

def a17 : AFunc := ⟨19, [.tmp 4, .tmp 5],
 (.seq (.reg [⟨(some 4), .mov (.k (.int .i64 0)), none⟩,
 ⟨(some 5), .mov (.k .nilIface), none⟩])
 (.seq (.reg [⟨(some 6), .mov (.t 0), none⟩,
 ⟨(some 7), .call (.k (.func (.func 27) [] [])) [(.t 6)], none⟩])
 (.seq (.reg [⟨(some 8), .mov (.t 0), none⟩,
 ⟨(some 9), .mov (.t 0), none⟩,
 ⟨(some 10), .nilCheck (.t 9), none⟩,
 ⟨(some 11), .fieldAddr 1 1 false (.t 10), none⟩,
 ⟨(some 12), .load 1 false (.t 11), none⟩,
 ⟨(some 13), .mov (.t 1), none⟩,
 ⟨(some 14), .append 1 1 (some 5) (.t 12) (.t 13), none⟩,
 ⟨(some 15), .nilCheck (.t 8), none⟩,
 ⟨(some 16), .fieldAddr 1 1 false (.t 15), none⟩,
 ⟨none, .store 1 (.t 16) (.t 14), none⟩])
 (.seq (.reg [⟨(some 17), .mov (.t 1), none⟩,
 ⟨(some 18), .lenStr (.t 17), none⟩,
 ⟨(some 4), .mov (.t 18), none⟩,
 ⟨(some 5), .mov (.k .nilIface), none⟩])
 .ret)))),
 [], true⟩

def a18_0 : ACode := (.seq (.reg [⟨(some 39), .bin .lss (.t 38) (.t 37), none⟩])
 (.seq (.cond (.t 39) .skip
 (.exit 2))
 (.seq (.block 3 (.seq (.reg [⟨(some 40), .indexAddr 1 false none (.t 36) (.t 38), none⟩,
 ⟨(some 41), .load 1 false (.t 40), none⟩,
 ⟨(some 11), .mov (.t 41), none⟩])
 (.reg [⟨(some 42), .mov (.t 7), none⟩,
 ⟨(some 43), .mov (.t 11), none⟩,
 ⟨(some 44), .call (.k (.func (.func 30) [] [])) [(.t 43)], none⟩,
 ⟨(some 45), .mkLit 1 [(.str [])] [(0, 1, (.t 44))] false, none⟩,
 ⟨(some 46), .append 1 16 (some 9) (.t 42) (.t 45), none⟩,
 ⟨(some 7), .mov (.t 46), none⟩])))
 (.reg [⟨(some 47), .bin .add (.t 38) (.k (.int .i64 1)), none⟩,
 ⟨(some 38), .mov (.t 47), none⟩]))))

def a18_1 : ACode := (.seq (.reg [⟨(some 20), .bin .lss (.t 19) (.t 18), none⟩])
 (.seq (.cond (.t 20) .skip
 (.exit 0))
 (.seq (.block 1 (.seq (.reg [⟨(some 21), .mov (.t 19), none⟩,
 ⟨(some 22), .indexAddr 1 false none (.t 17) (.t 19), none⟩,
 ⟨(some 23), .load 1 false (.t 22), none⟩,
 ⟨(some 8), .mov (.t 21), none⟩,
 ⟨(some 9), .mov (.t 23), none⟩])
 (.reg [⟨(some 24), .mov (.t 7), none⟩,
 ⟨(some 25), .mov (.t 1), none⟩,
 ⟨(some 26), .mov (.t 8), none⟩,
 ⟨(some 27), .call (.k (.func (.func 29) [] [])) [(.t 25), (.t 26)], none⟩,
 ⟨(some 28), .bin .add (.t 27) (.k (.str [61])), none⟩,
 ⟨(some 29), .mov (.t 9), none⟩,
 ⟨(some 30), .call (.k (.func (.func 28) [] [])) [(.t 29)], none⟩,
 ⟨(some 31), .bin .add (.t 28) (.t 30), none⟩,
 ⟨(some 32), .mkLit 1 [(.str [])] [(0, 1, (.t 31))] false, none⟩,
 ⟨(some 33), .append 1 16 (some 9) (.t 24) (.t 32), none⟩,
 ⟨(some 7), .mov (.t 33), none⟩])))
 (.reg [⟨(some 34), .bin .add (.t 19) (.k (.int .i64 1)), none⟩,
 ⟨(some 19), .mov (.t 34), none⟩]))))

def a18 : AFunc := ⟨60, [.tmp 6],
 (.seq (.reg [⟨(some 3), .box 4 (.t 0) false, none⟩,
 ⟨(some 6), .mov (.k (.str [])), none⟩])
 (.seq (.reg [⟨(some 12), .fieldAddr 0 1 false (.t 3), none⟩,
 ⟨(some 13), .load 1 false (.t 12), none⟩,
 ⟨(some 14), .call (.k (.func (.func 28) [] [])) [(.t 13)], none⟩,
 ⟨(some 15), .mkLit 1 [(.str [])] [(0, 1, (.t 14))] false, none⟩,
 ⟨(some 7), .mov (.t 15), none⟩])
 (.seq (.seq (.reg [⟨(some 16), .fieldAddr 1 1 false (.t 3), none⟩,
 ⟨(some 17), .load 1 false (.t 16), none⟩,
 ⟨(some 18), .lenSl (.t 17), none⟩,
 ⟨(some 19), .mov (.k (.int .i64 0)), none⟩])
 (.block 0 (.loop a18_1)))
 (.seq (.seq (.reg [⟨(some 35), .fieldAddr 2 1 false (.t 3), none⟩,
 ⟨(some 36), .load 1 false (.t 35), none⟩,
 ⟨(some 37), .lenSl (.t 36), none⟩,
 ⟨(some 38), .mov (.k (.int .i64 0)), none⟩])
 (.block 2 (.loop a18_0)))
 (.seq (.seq (.reg [⟨(some 48), .fieldAddr 3 1 false (.t 3), none⟩,
 ⟨(some 49), .load 1 false (.t 48), none⟩,
 ⟨(some 50), .mov (.t 2), none⟩,
 ⟨(some 51), .bin .neq (.t 49) (.t 50), none⟩])
 (.cond (.t 51) (.reg [⟨(some 52), .mov (.t 7), none⟩,
 ⟨(some 53), .fieldAddr 3 1 false (.t 3), none⟩,
 ⟨(some 54), .load 1 false (.t 53), none⟩,
 ⟨(some 55), .call (.k (.func (.func 20) [] [])) [(.t 54)], none⟩,
 ⟨(some 56), .mkLit 1 [(.str []), (.str [])] [(0, 1, (.k (.str [102, 108, 97, 103, 115]))), (1, 1, (.t 55))] false, none⟩,
 ⟨(some 57), .append 1 16 (some 9) (.t 52) (.t 56), none⟩,
 ⟨(some 7), .mov (.t 57), none⟩])
 .skip))
 (.seq (.reg [⟨(some 58), .mov (.t 7), none⟩,
 ⟨(some 59), .call (.k (.func (.func 19) [] [])) [(.t 58)], none⟩,
 ⟨(some 6), .mov (.t 59), none⟩])
 .ret)))))),
 [], false⟩

def a19 : AFunc := ⟨6, [.tmp 2],
 (.seq (.reg [⟨(some 2), .mov (.k (.str [])), none⟩])
 (.seq (.reg [⟨(some 3), .mov (.t 0), none⟩,
 ⟨(some 4), .call (.k (.func (.func 31) [] [])) [(.t 3), (.k (.str [32]))], none⟩,
 ⟨(some 5), .bin .add (.t 4) (.k (.str [10])), none⟩,
 ⟨(some 2), .mov (.t 5), none⟩])
 .ret)),
 [], false⟩

def a22_0 : ACode := (.seq (.seq (.reg [⟨(some 67), .mov (.t 10), none⟩,
 ⟨(some 68), .lenStr (.t 67), none⟩,
 ⟨(some 69), .bin .gtr (.t 68) (.k (.int .i64 0)), none⟩,
 ⟨(some 70), .mov (.t 69), none⟩,
 ⟨(some 71), .mov (.t 10), some (70, true)⟩,
 ⟨(some 72), .mov (.t 10), some (70, true)⟩,
 ⟨(some 73), .lenStr (.t 72), some (70, true)⟩,
 ⟨(some 74), .bin .sub (.t 73) (.k (.int .i64 1)), some (70, true)⟩,
 ⟨(some 75), .indexStr (.t 71) (.t 74), some (70, true)⟩,
 ⟨(some 76), .bin .eql (.t 75) (.k (.int .u8 48)), some (70, true)⟩,
 ⟨(some 77), .pick (.t 70) (.t 76) (.k (.bool false)), none⟩])
 (.cond (.t 77) .skip
 (.exit 4)))
 (.block 5 (.reg [⟨(some 78), .mov (.t 10), none⟩,
 ⟨(some 79), .mov (.t 10), none⟩,
 ⟨(some 80), .lenStr (.t 79), none⟩,
 ⟨(some 81), .bin .sub (.t 80) (.k (.int .i64 1)), none⟩,
 ⟨(some 82), .sliceStr (.t 78) none (some (.t 81)), none⟩,
 ⟨(some 10), .mov (.t 82), none⟩])))

def a22_1 : ACode := (.seq (.seq (.reg [⟨(some 50), .mov (.t 11), none⟩,
 ⟨(some 51), .mov (.t 1), none⟩,
 ⟨(some 52), .bin .lss (.t 50) (.t 51), none⟩])
 (.cond (.t 52) .skip
 (.exit 2)))
 (.seq (.block 3 (.seq (.reg [⟨(some 55), .mov (.t 8), none⟩,
 ⟨(some 56), .bin .mul (.t 55) (.k (.int .u64 10)), none⟩,
 ⟨(some 8), .mov (.t 56), none⟩])
 (.seq (.reg [⟨(some 57), .mov (.t 10), none⟩,
 ⟨(some 58), .mov (.t 8), none⟩,
 ⟨(some 59), .bin .quo (.t 58) (.k (.int .u64 4294967296)), none⟩,
 ⟨(some 60), .bin .add (.k (.int .u64 48)) (.t 59), none⟩,
 ⟨(some 61), .convInt .u8 (.t 60), none⟩,
 ⟨(some 62), .mkLit 1 [(.int .u8 0)] [(0, 1, (.t 61))] false, none⟩,
 ⟨(some 63), .convStr (.t 62), none⟩,
 ⟨(some 64), .bin .add (.t 57) (.t 63), none⟩,
 ⟨(some 10), .mov (.t 64), none⟩])
 (.reg [⟨(some 65), .mov (.t 8), none⟩,
 ⟨(some 66), .bin .rem (.t 65) (.k (.int .u64 4294967296)), none⟩,
 ⟨(some 8), .mov (.t 66), none⟩]))))
 (.reg [⟨(some 53), .mov (.t 11), none⟩,
 ⟨(some 54), .bin .add (.t 53) (.k (.int .i64 1)), none⟩,
 ⟨(some 11), .mov (.t 54), none⟩])))

def a22_2 : ACode := (.seq (.seq (.reg [⟨(some 29), .mov (.t 7), none⟩,
 ⟨(some 30), .bin .geq (.t 29) (.k (.int .u64 10)), none⟩])
 (.cond (.t 30) .skip
 (.exit 0)))
 (.block 1 (.seq (.reg [⟨(some 31), .mov (.t 7), none⟩,
 ⟨(some 32), .bin .rem (.t 31) (.k (.int .u64 10)), none⟩,
 ⟨(some 33), .bin .add (.k (.int .u64 48)) (.t 32), none⟩,
 ⟨(some 34), .convInt .u8 (.t 33), none⟩,
 ⟨(some 35), .mkLit 1 [(.int .u8 0)] [(0, 1, (.t 34))] false, none⟩,
 ⟨(some 36), .convStr (.t 35), none⟩,
 ⟨(some 37), .mov (.t 9), none⟩,
 ⟨(some 38), .bin .add (.t 36) (.t 37), none⟩,
 ⟨(some 9), .mov (.t 38), none⟩])
 (.reg [⟨(some 39), .mov (.t 7), none⟩,
 ⟨(some 40), .bin .quo (.t 39) (.k (.int .u64 10)), none⟩,
 ⟨(some 7), .mov (.t 40), none⟩]))))

def a22 : AFunc := ⟨90, [.tmp 4],
 (.seq (.reg [⟨(some 4), .mov (.k (.str [])), none⟩])
 (.seq (.reg [⟨(some 5), .mov (.k (.str [])), none⟩])
 (.seq (.reg [⟨(some 12), .mov (.t 0), none⟩,
 ⟨(some 13), .convInt .u64 (.t 12), none⟩,
 ⟨(some 6), .mov (.t 13), none⟩])
 (.seq (.seq (.reg [⟨(some 14), .mov (.t 0), none⟩,
 ⟨(some 15), .bin .lss (.t 14) (.k (.int .i64 0)), none⟩])
 (.cond (.t 15) (.seq (.reg [⟨(some 5), .mov (.k (.str [45])), none⟩])
 (.reg [⟨(some 16), .mov (.t 0), none⟩,
 ⟨(some 17), .bin .add (.t 16) (.k (.int .i64 1)), none⟩,
 ⟨(some 18), .un .neg (.t 17), none⟩,
 ⟨(some 19), .convInt .u64 (.t 18), none⟩,
 ⟨(some 20), .bin .add (.t 19) (.k (.int .u64 1)), none⟩,
 ⟨(some 6), .mov (.t 20), none⟩]))
 .skip))
 (.seq (.seq (.reg [⟨(some 21), .mov (.t 1), none⟩,
 ⟨(some 22), .bin .lss (.t 21) (.k (.int .i64 0)), none⟩])
 (.cond (.t 22) (.reg [⟨(some 1), .mov (.k (.int .i64 0)), none⟩])
 .skip))
 (.seq (.seq (.reg [⟨(some 23), .mov (.t 1), none⟩,
 ⟨(some 24), .bin .gtr (.t 23) (.k (.int .i64 32)), none⟩])
 (.cond (.t 24) (.reg [⟨(some 1), .mov (.k (.int .i64 32)), none⟩])
 .skip))
 (.seq (.reg [⟨(some 25), .mov (.t 6), none⟩,
 ⟨(some 26), .bin .quo (.t 25) (.k (.int .u64 4294967296)), none⟩,
 ⟨(some 7), .mov (.t 26), none⟩])
 (.seq (.reg [⟨(some 27), .mov (.t 6), none⟩,
 ⟨(some 28), .bin .rem (.t 27) (.k (.int .u64 4294967296)), none⟩,
 ⟨(some 8), .mov (.t 28), none⟩])
 (.seq (.reg [⟨(some 9), .mov (.k (.str [])), none⟩])
 (.seq (.block 0 (.loop a22_2))
 (.seq (.reg [⟨(some 41), .mov (.t 5), none⟩,
 ⟨(some 42), .mov (.t 7), none⟩,
 ⟨(some 43), .bin .add (.k (.int .u64 48)) (.t 42), none⟩,
 ⟨(some 44), .convInt .u8 (.t 43), none⟩,
 ⟨(some 45), .mkLit 1 [(.int .u8 0)] [(0, 1, (.t 44))] false, none⟩,
 ⟨(some 46), .convStr (.t 45), none⟩,
 ⟨(some 47), .bin .add (.t 41) (.t 46), none⟩,
 ⟨(some 48), .mov (.t 9), none⟩,
 ⟨(some 49), .bin .add (.t 47) (.t 48), none⟩,
 ⟨(some 5), .mov (.t 49), none⟩])
 (.seq (.reg [⟨(some 10), .mov (.k (.str [])), none⟩])
 (.seq (.seq (.reg [⟨(some 11), .mov (.k (.int .i64 0)), none⟩])
 (.block 2 (.loop a22_1)))
 (.seq (.block 4 (.loop a22_0))
 (.seq (.seq (.reg [⟨(some 83), .mov (.t 10), none⟩,
 ⟨(some 84), .bin .eql (.t 83) (.k (.str [])), none⟩])
 (.cond (.t 84) (.seq (.reg [⟨(some 85), .mov (.t 5), none⟩,
 ⟨(some 4), .mov (.t 85), none⟩])
 .ret)
 .skip))
 (.seq (.reg [⟨(some 86), .mov (.t 5), none⟩,
 ⟨(some 87), .bin .add (.t 86) (.k (.str [46])), none⟩,
 ⟨(some 88), .mov (.t 10), none⟩,
 ⟨(some 89), .bin .add (.t 87) (.t 88), none⟩,
 ⟨(some 4), .mov (.t 89), none⟩])
 .ret)))))))))))))))),
 [], false⟩

def a23 : AFunc := ⟨26, [.tmp 2],
 (.seq (.reg [⟨(some 2), .mov (.k (.str [])), none⟩])
 (.seq (.seq (.reg [⟨(some 3), .mov (.t 0), none⟩,
 ⟨(some 4), .bin .lss (.t 3) (.k (.int .i64 0)), none⟩])
 (.cond (.t 4) (.seq (.reg [⟨(some 5), .mov (.t 0), none⟩,
 ⟨(some 6), .un .neg (.t 5), none⟩,
 ⟨(some 7), .call (.k (.func (.func 23) [] [])) [(.t 6)], none⟩,
 ⟨(some 8), .bin .add (.k (.str [45])) (.t 7), none⟩,
 ⟨(some 2), .mov (.t 8), none⟩])
 .ret)
 .skip))
 (.seq (.seq (.reg [⟨(some 9), .mov (.t 0), none⟩,
 ⟨(some 10), .bin .lss (.t 9) (.k (.int .i64 10)), none⟩])
 (.cond (.t 10) (.seq (.reg [⟨(some 11), .mov (.t 0), none⟩,
 ⟨(some 12), .bin .add (.k (.int .i64 48)) (.t 11), none⟩,
 ⟨(some 13), .convInt .u8 (.t 12), none⟩,
 ⟨(some 14), .mkLit 1 [(.int .u8 0)] [(0, 1, (.t 13))] false, none⟩,
 ⟨(some 15), .convStr (.t 14), none⟩,
 ⟨(some 2), .mov (.t 15), none⟩])
 .ret)
 .skip))
 (.seq (.plan [⟨0, ⟨(some 16), .mov (.t 0), none⟩, []⟩,
 ⟨1, ⟨(some 17), .bin .quo (.t 16) (.k (.int .i64 10)), none⟩, []⟩,
 ⟨3, ⟨(some 19), .mov (.t 0), none⟩, []⟩,
 ⟨4, ⟨(some 20), .bin .rem (.t 19) (.k (.int .i64 10)), none⟩, []⟩,
 ⟨5, ⟨(some 21), .bin .add (.k (.int .i64 48)) (.t 20), none⟩, []⟩,
 ⟨6, ⟨(some 22), .convInt .u8 (.t 21), none⟩, []⟩,
 ⟨7, ⟨(some 23), .mkLit 1 [(.int .u8 0)] [(0, 1, (.t 22))] false, none⟩, []⟩,
 ⟨8, ⟨(some 24), .convStr (.t 23), none⟩, []⟩,
 ⟨2, ⟨(some 18), .call (.k (.func (.func 23) [] [])) [(.t 17)], none⟩, [8]⟩,
 ⟨9, ⟨(some 25), .bin .add (.t 18) (.t 24), none⟩, []⟩,
 ⟨10, ⟨(some 2), .mov (.t 25), none⟩, []⟩])
 .ret)))),
 [], false⟩

def a24 : AFunc := ⟨9, [.tmp 4],
 (.seq (.reg [⟨(some 4), .mov (.k (.bool false)), none⟩])
 (.seq (.reg [⟨(some 5), .mov (.t 0), none⟩,
 ⟨(some 6), .mov (.t 1), none⟩,
 ⟨(some 7), .call (.k (.func (.func 33) [] [])) [(.t 5), (.t 6)], none⟩,
 ⟨(some 8), .bin .geq (.t 7) (.k (.int .i64 0)), none⟩,
 ⟨(some 4), .mov (.t 8), none⟩])
 .ret)),
 [], false⟩

def a25 : AFunc := ⟨18, [.tmp 3],
 (.seq (.reg [⟨(some 3), .mov (.k (.bool false)), none⟩])
 (.seq (.reg [⟨(some 4), .load 1 false (.t 1), none⟩,
 ⟨(some 5), .bin .geq (.t 4) (.k (.int .i64 0)), none⟩,
 ⟨(some 6), .mov (.t 5), none⟩,
 ⟨(some 7), .load 1 false (.t 1), some (6, true)⟩,
 ⟨(some 8), .mov (.t 0), some (6, true)⟩,
 ⟨(some 9), .lenSl (.t 8), some (6, true)⟩,
 ⟨(some 10), .bin .lss (.t 7) (.t 9), some (6, true)⟩,
 ⟨(some 11), .pick (.t 6) (.t 10) (.k (.bool false)), none⟩,
 ⟨(some 12), .mov (.t 11), none⟩,
 ⟨(some 13), .mov (.t 0), some (12, true)⟩,
 ⟨(some 14), .load 1 false (.t 1), some (12, true)⟩,
 ⟨(some 15), .indexAddr 1 false none (.t 13) (.t 14), some (12, true)⟩,
 ⟨(some 16), .load 1 false (.t 15), some (12, true)⟩,
 ⟨(some 17), .pick (.t 12) (.t 16) (.k (.bool false)), none⟩,
 ⟨(some 3), .mov (.t 17), none⟩])
 .ret)),
 [], true⟩

def a26 : AFunc := ⟨6, [.tmp 4],
 (.seq (.reg [⟨(some 2), .box 2 (.t 0) false, none⟩,
 ⟨(some 3), .box 1 (.t 1) false, none⟩,
 ⟨(some 4), .mov (.k .nilFunc), none⟩])
 (.seq (.reg [⟨(some 5), .mkFunc 34 [] [(.t 2), (.t 3)], none⟩,
 ⟨(some 4), .mov (.t 5), none⟩])
 .ret)),
 [], false⟩

def a28 : AFunc := ⟨5, [.tmp 2],
 (.seq (.reg [⟨(some 2), .mov (.k (.str [])), none⟩])
 (.seq (.reg [⟨(some 3), .mov (.t 0), none⟩,
 ⟨(some 4), .call (.k (.func (.func 36) [] [])) [(.t 3), (.k (.int .i64 32))], none⟩,
 ⟨(some 2), .mov (.t 4), none⟩])
 .ret)),
 [], false⟩

def a29 : AFunc := ⟨16, [.tmp 4],
 (.seq (.reg [⟨(some 4), .mov (.k (.str [])), none⟩])
 (.seq (.seq (.reg [⟨(some 5), .mov (.t 1), none⟩,
 ⟨(some 6), .mov (.t 0), none⟩,
 ⟨(some 7), .lenSl (.t 6), none⟩,
 ⟨(some 8), .bin .lss (.t 5) (.t 7), none⟩])
 (.cond (.t 8) (.seq (.reg [⟨(some 9), .mov (.t 0), none⟩,
 ⟨(some 10), .mov (.t 1), none⟩,
 ⟨(some 11), .indexAddr 1 false none (.t 9) (.t 10), none⟩,
 ⟨(some 12), .load 1 false (.t 11), none⟩,
 ⟨(some 4), .mov (.t 12), none⟩])
 .ret)
 .skip))
 (.seq (.reg [⟨(some 13), .mov (.t 1), none⟩,
 ⟨(some 14), .call (.k (.func (.func 20) [] [])) [(.t 13)], none⟩,
 ⟨(some 15), .bin .add (.k (.str [111, 117, 116])) (.t 14), none⟩,
 ⟨(some 4), .mov (.t 15), none⟩])
 .ret))),
 [], false⟩

def a30_0 : ACode := (.seq (.reg [⟨(some 9), .bin .lss (.t 8) (.t 7), none⟩])
 (.seq (.cond (.t 9) .skip
 (.exit 0))
 (.seq (.block 1 (.seq (.reg [⟨(some 10), .mov (.t 8), none⟩,
 ⟨(some 11), .indexAddr 1 false none (.t 6) (.t 8), none⟩,
 ⟨(some 12), .load 1 false (.t 11), none⟩,
 ⟨(some 4), .mov (.t 10), none⟩,
 ⟨(some 5), .mov (.t 12), none⟩])
 (.seq (.reg [⟨(some 13), .mov (.t 5), none⟩])
 (.cond (.t 13) (.reg [⟨(some 14), .mov (.t 3), none⟩,
 ⟨(some 15), .mov (.t 4), none⟩,
 ⟨(some 16), .call (.k (.func (.func 20) [] [])) [(.t 15)], none⟩,
 ⟨(some 17), .mkLit 1 [(.str [])] [(0, 1, (.t 16))] false, none⟩,
 ⟨(some 18), .append 1 16 (some 9) (.t 14) (.t 17), none⟩,
 ⟨(some 3), .mov (.t 18), none⟩])
 .skip))))
 (.reg [⟨(some 19), .bin .add (.t 8) (.k (.int .i64 1)), none⟩,
 ⟨(some 8), .mov (.t 19), none⟩]))))

def a30 : AFunc := ⟨23, [.tmp 2],
 (.seq (.reg [⟨(some 2), .mov (.k (.str [])), none⟩])
 (.seq (.reg [⟨(some 3), .mov (.k (.lst 1 [] .tight)), none⟩])
 (.seq (.seq (.reg [⟨(some 6), .mov (.t 0), none⟩,
 ⟨(some 7), .lenSl (.t 6), none⟩,
 ⟨(some 8), .mov (.k (.int .i64 0)), none⟩])
 (.block 0 (.loop a30_0)))
 (.seq (.reg [⟨(some 20), .mov (.t 3), none⟩,
 ⟨(some 21), .call (.k (.func (.func 31) [] [])) [(.t 20), (.k (.str [44]))], none⟩,
 ⟨(some 22), .bin .add (.k (.str [33])) (.t 21), none⟩,
 ⟨(some 2), .mov (.t 22), none⟩])
 .ret)))),
 [], false⟩

def a32 : AFunc := ⟨5, [.tmp 2],
 (.seq (.reg [⟨(some 2), .mov (.k (.str [])), none⟩])
 (.seq (.reg [⟨(some 3), .mov (.t 0), none⟩,
 ⟨(some 4), .call (.k (.func (.func 38) [] [])) [(.t 3), (.k (.int .i64 10))], none⟩,
 ⟨(some 2), .mov (.t 4), none⟩])
 .ret)),
 [], false⟩

def a33_0 : ACode := (.seq (.reg [⟨(some 9), .bin .lss (.t 8) (.t 7), none⟩])
 (.seq (.cond (.t 9) .skip
 (.exit 0))
 (.seq (.block 1 (.seq (.reg [⟨(some 10), .mov (.t 8), none⟩,
 ⟨(some 5), .mov (.t 10), none⟩])
 (.seq (.reg [⟨(some 11), .mov (.t 1), none⟩,
 ⟨(some 12), .mov (.t 0), none⟩,
 ⟨(some 13), .mov (.t 5), none⟩,
 ⟨(some 14), .indexAddr 1 false none (.t 12) (.t 13), none⟩,
 ⟨(some 15), .load 1 false (.t 14), none⟩,
 ⟨(some 16), .call (.t 11) [(.t 15)], none⟩])
 (.cond (.t 16) (.seq (.reg [⟨(some 17), .mov (.t 5), none⟩,
 ⟨(some 4), .mov (.t 17), none⟩])
 .ret)
 .skip))))
 (.reg [⟨(some 18), .bin .add (.t 8) (.k (.int .i64 1)), none⟩,
 ⟨(some 8), .mov (.t 18), none⟩]))))

def a33 : AFunc := ⟨19, [.tmp 4],
 (.seq (.reg [⟨(some 4), .mov (.k (.int .i64 0)), none⟩])
 (.seq (.seq (.reg [⟨(some 6), .mov (.t 0), none⟩,
 ⟨(some 7), .lenSl (.t 6), none⟩,
 ⟨(some 8), .mov (.k (.int .i64 0)), none⟩])
 (.block 0 (.loop a33_0)))
 (.seq (.reg [⟨(some 4), .mov (.k (.int .i64 (-1))), none⟩])
 .ret))),
 [], false⟩

def a34_0 : ACode := (.seq (.reg [⟨(some 10), .bin .lss (.t 9) (.t 8), none⟩])
 (.seq (.cond (.t 10) .skip
 (.exit 0))
 (.seq (.block 1 (.seq (.reg [⟨(some 11), .mov (.t 9), none⟩,
 ⟨(some 12), .indexAddr 4 true none (.t 7) (.t 9), none⟩,
 ⟨(some 13), .load 4 true (.t 12), none⟩,
 ⟨(some 5), .new (.agg [(.int .i64 0), (.lst 1 [] .tight), (.lst 1 [] .tight), (.int .i64 0)]) true none, none⟩,
 ⟨(some 4), .mov (.t 11), none⟩,
 ⟨none, .store 4 (.t 5) (.t 13), none⟩])
 (.seq (.reg [⟨(some 14), .load 1 false (.t 2), none⟩,
 ⟨(some 15), .bin .geq (.t 14) (.k (.int .i64 0)), none⟩,
 ⟨(some 16), .mov (.t 15), none⟩,
 ⟨(some 17), .load 1 false (.t 2), some (16, true)⟩,
 ⟨(some 18), .fieldAddr 1 1 false (.t 5), some (16, true)⟩,
 ⟨(some 19), .load 1 false (.t 18), some (16, true)⟩,
 ⟨(some 20), .lenSl (.t 19), some (16, true)⟩,
 ⟨(some 21), .bin .lss (.t 17) (.t 20), some (16, true)⟩,
 ⟨(some 22), .pick (.t 16) (.t 21) (.k (.bool false)), none⟩,
 ⟨(some 23), .mov (.t 22), none⟩,
 ⟨(some 24), .mov (.t 0), some (23, true)⟩,
 ⟨(some 25), .mov (.t 4), some (23, true)⟩,
 ⟨(some 26), .fieldAddr 1 1 false (.t 5), some (23, true)⟩,
 ⟨(some 27), .load 1 false (.t 26), some (23, true)⟩,
 ⟨(some 28), .load 1 false (.t 2), some (23, true)⟩,
 ⟨(some 29), .indexAddr 1 false none (.t 27) (.t 28), some (23, true)⟩,
 ⟨(some 30), .load 1 false (.t 29), some (23, true)⟩,
 ⟨(some 31), .call (.t 24) [(.t 25), (.t 30)], some (23, true)⟩,
 ⟨(some 32), .un .not (.t 31), some (23, true)⟩,
 ⟨(some 33), .pick (.t 23) (.t 32) (.k (.bool false)), none⟩])
 (.cond (.t 33) .ret
 .skip))))
 (.reg [⟨(some 34), .bin .add (.t 9) (.k (.int .i64 1)), none⟩,
 ⟨(some 9), .mov (.t 34), none⟩]))))

def a34 : AFunc := ⟨35, [],
 (.seq (.reg [⟨(some 6), .fieldAddr 0 1 false (.t 1), none⟩,
 ⟨(some 7), .load 1 false (.t 6), none⟩,
 ⟨(some 8), .lenSl (.t 7), none⟩,
 ⟨(some 9), .mov (.k (.int .i64 0)), none⟩])
 (.block 0 (.loop a34_0))),
 [], true⟩

def a36 : AFunc := ⟨33, [.tmp 4],
 (.seq (.reg [⟨(some 4), .mov (.k (.str [])), none⟩])
 (.seq (.reg [⟨(some 10), .mov (.t 0), none⟩,
 ⟨(some 11), .call (.k (.func (.func 39) [] [])) [(.t 10)], none⟩,
 ⟨(some 9), .mov (.t 11), none⟩,
 ⟨(some 12), .extract (.t 9) 0, none⟩,
 ⟨(some 13), .extract (.t 9) 1, none⟩,
 ⟨(some 5), .mov (.t 12), none⟩,
 ⟨(some 6), .mov (.t 13), none⟩])
 (.seq (.reg [⟨(some 14), .mov (.t 6), none⟩,
 ⟨(some 15), .bin .shr (.t 14) (.k (.int .u64 32)), none⟩,
 ⟨(some 16), .call (.k (.func (.func 40) [] [])) [(.t 15), (.k (.int .i64 10))], none⟩,
 ⟨(some 17), .mov (.t 6), none⟩,
 ⟨(some 18), .mov (.t 1), none⟩,
 ⟨(some 19), .minmax false [(.t 18), (.k (.int .i64 32))], none⟩,
 ⟨(some 20), .minmax true [(.k (.int .i64 0)), (.t 19)], none⟩,
 ⟨(some 21), .call (.k (.func (.func 41) [] [])) [(.t 17), (.t 20)], none⟩,
 ⟨(some 7), .mov (.t 16), none⟩,
 ⟨(some 8), .mov (.t 21), none⟩])
 (.seq (.seq (.reg [⟨(some 22), .mov (.t 8), none⟩,
 ⟨(some 23), .bin .eql (.t 22) (.k (.str [])), none⟩])
 (.cond (.t 23) (.seq (.reg [⟨(some 24), .mov (.t 5), none⟩,
 ⟨(some 25), .mov (.t 7), none⟩,
 ⟨(some 26), .mkLit 1 [(.str []), (.str [])] [(0, 1, (.t 24)), (1, 1, (.t 25))] false, none⟩,
 ⟨(some 27), .call (.k (.func (.func 42) [] [])) [(.t 26)], none⟩,
 ⟨(some 4), .mov (.t 27), none⟩])
 .ret)
 .skip))
 (.seq (.reg [⟨(some 28), .mov (.t 5), none⟩,
 ⟨(some 29), .mov (.t 7), none⟩,
 ⟨(some 30), .mov (.t 8), none⟩,
 ⟨(some 31), .mkLit 1 [(.str []), (.str []), (.str []), (.str [])] [(0, 1, (.t 28)), (1, 1, (.t 29)), (2, 1, (.k (.str [46]))), (3, 1, (.t 30))] false, none⟩,
 ⟨(some 32), .call (.k (.func (.func 42) [] [])) [(.t 31)], none⟩,
 ⟨(some 4), .mov (.t 32), none⟩])
 .ret))))),
 [], false⟩

def a38 : AFunc := ⟨54, [.tmp 4],
 (.seq (.reg [⟨(some 4), .mov (.k (.str [])), none⟩])
 (.seq (.seq (.reg [⟨(some 10), .mov (.t 1), none⟩,
 ⟨(some 11), .bin .eql (.t 10) (.k (.int .i64 10)), none⟩])
 (.cond (.t 11) (.seq (.seq (.reg [⟨(some 12), .mov (.t 0), none⟩,
 ⟨(some 13), .bin .leq (.k (.int .i64 0)) (.t 12), none⟩,
 ⟨(some 14), .mov (.t 13), none⟩,
 ⟨(some 15), .mov (.t 0), some (14, true)⟩,
 ⟨(some 16), .bin .lss (.t 15) (.k (.int .i64 100)), some (14, true)⟩,
 ⟨(some 17), .pick (.t 14) (.t 16) (.k (.bool false)), none⟩])
 (.cond (.t 17) (.seq (.reg [⟨(some 18), .mov (.t 0), none⟩,
 ⟨(some 19), .call (.k (.func (.func 44) [] [])) [(.t 18)], none⟩,
 ⟨(some 4), .mov (.t 19), none⟩])
 .ret)
 .skip))
 (.seq (.reg [⟨(some 5), .new (.agg [(.int .u8 0), (.int .u8 0), (.int .u8 0), (.int .u8 0), (.int .u8 0), (.int .u8 0), (.int .u8 0), (.int .u8 0), (.int .u8 0), (.int .u8 0), (.int .u8 0), (.int .u8 0), (.int .u8 0), (.int .u8 0), (.int .u8 0), (.int .u8 0), (.int .u8 0), (.int .u8 0), (.int .u8 0), (.int .u8 0), (.int .u8 0), (.int .u8 0), (.int .u8 0), (.int .u8 0)]) true none, none⟩])
 (.seq (.reg [⟨(some 20), .mov (.t 0), none⟩,
 ⟨(some 21), .convInt .u64 (.t 20), none⟩,
 ⟨(some 6), .mov (.t 21), none⟩])
 (.seq (.seq (.reg [⟨(some 22), .mov (.t 0), none⟩,
 ⟨(some 23), .bin .lss (.t 22) (.k (.int .i64 0)), none⟩])
 (.cond (.t 23) (.reg [⟨(some 24), .mov (.t 6), none⟩,
 ⟨(some 25), .un .neg (.t 24), none⟩,
 ⟨(some 6), .mov (.t 25), none⟩])
 .skip))
 (.seq (.reg [⟨(some 26), .mov (.t 6), none⟩,
 ⟨(some 27), .call (.k (.func (.func 45) [] [])) [(.t 26)], none⟩,
 ⟨(some 7), .mov (.t 27), none⟩])
 (.seq (.reg [⟨(some 28), .mov (.t 7), none⟩,
 ⟨(some 29), .bin .add (.k (.int .i64 1)) (.t 28), none⟩,
 ⟨(some 30), .sliceArr 24 1 (.t 5) (some (.k (.int .i64 1))) (some (.t 29)), none⟩,
 ⟨(some 31), .mov (.t 6), none⟩,
 ⟨(some 32), .call (.k (.func (.func 46) [] [])) [(.t 30), (.t 31)], none⟩])
 (.seq (.seq (.reg [⟨(some 33), .mov (.t 0), none⟩,
 ⟨(some 34), .bin .lss (.t 33) (.k (.int .i64 0)), none⟩])
 (.cond (.t 34) (.seq (.reg [⟨(some 35), .indexAddr 1 false (some 24) (.t 5) (.k (.int .i64 0)), none⟩,
 ⟨none, .store 1 (.t 35) (.k (.int .u8 45)), none⟩])
 (.seq (.reg [⟨(some 36), .mov (.t 7), none⟩,
 ⟨(some 37), .bin .add (.k (.int .i64 1)) (.t 36), none⟩,
 ⟨(some 38), .sliceArr 24 1 (.t 5) none (some (.t 37)), none⟩,
 ⟨(some 39), .convStr (.t 38), none⟩,
 ⟨(some 4), .mov (.t 39), none⟩])
 .ret))
 .skip))
 (.seq (.reg [⟨(some 40), .mov (.t 7), none⟩,
 ⟨(some 41), .bin .add (.k (.int .i64 1)) (.t 40), none⟩,
 ⟨(some 42), .sliceArr 24 1 (.t 5) (some (.k (.int .i64 1))) (some (.t 41)), none⟩,
 ⟨(some 43), .convStr (.t 42), none⟩,
 ⟨(some 4), .mov (.t 43), none⟩])
 .ret))))))))
 .skip))
 (.seq (.reg [⟨(some 45), .mov (.t 0), none⟩,
 ⟨(some 46), .convInt .u64 (.t 45), none⟩,
 ⟨(some 47), .mov (.t 1), none⟩,
 ⟨(some 48), .mov (.t 0), none⟩,
 ⟨(some 49), .bin .lss (.t 48) (.k (.int .i64 0)), none⟩,
 ⟨(some 50), .call (.k (.func (.func 47) [] [])) [(.k (.lst 1 [] .tight)), (.t 46), (.t 47), (.t 49), (.k (.bool false))], none⟩,
 ⟨(some 44), .mov (.t 50), none⟩,
 ⟨(some 51), .extract (.t 44) 0, none⟩,
 ⟨(some 52), .extract (.t 44) 1, none⟩,
 ⟨(some 8), .mov (.t 51), none⟩,
 ⟨(some 9), .mov (.t 52), none⟩])
 (.seq (.reg [⟨(some 53), .mov (.t 9), none⟩,
 ⟨(some 4), .mov (.t 53), none⟩])
 .ret)))),
 [], false⟩

def a39 : AFunc := ⟨11, [.tmp 2, .tmp 3],
 (.seq (.reg [⟨(some 2), .mov (.k (.str [])), none⟩,
 ⟨(some 3), .mov (.k (.int .u64 0)), none⟩])
 (.seq (.seq (.reg [⟨(some 4), .mov (.t 0), none⟩,
 ⟨(some 5), .bin .lss (.t 4) (.k (.int .i64 0)), none⟩])
 (.cond (.t 5) (.seq (.reg [⟨(some 6), .mov (.t 0), none⟩,
 ⟨(some 7), .convInt .u64 (.t 6), none⟩,
 ⟨(some 8), .un .neg (.t 7), none⟩,
 ⟨(some 2), .mov (.k (.str [45])), none⟩,
 ⟨(some 3), .mov (.t 8), none⟩])
 .ret)
 .skip))
 (.seq (.reg [⟨(some 9), .mov (.t 0), none⟩,
 ⟨(some 10), .convInt .u64 (.t 9), none⟩,
 ⟨(some 2), .mov (.k (.str [])), none⟩,
 ⟨(some 3), .mov (.t 10), none⟩])
 .ret))),
 [], false⟩

def a41_0 : ACode := (.seq (.seq (.reg [⟨(some 9), .mov (.t 6), none⟩,
 ⟨(some 10), .bin .gtr (.t 9) (.k (.int .u64 0)), none⟩,
 ⟨(some 11), .mov (.t 10), none⟩,
 ⟨(some 12), .mov (.t 5), some (11, true)⟩,
 ⟨(some 13), .lenSl (.t 12), some (11, true)⟩,
 ⟨(some 14), .mov (.t 1), some (11, true)⟩,
 ⟨(some 15), .bin .lss (.t 13) (.t 14), some (11, true)⟩,
 ⟨(some 16), .pick (.t 11) (.t 15) (.k (.bool false)), none⟩])
 (.cond (.t 16) .skip
 (.exit 0)))
 (.seq (.block 1 (.seq (.reg [⟨(some 19), .mov (.t 6), none⟩,
 ⟨(some 20), .bin .mul (.t 19) (.k (.int .u64 10)), none⟩,
 ⟨(some 6), .mov (.t 20), none⟩])
 (.reg [⟨(some 21), .mov (.t 5), none⟩,
 ⟨(some 22), .mov (.t 6), none⟩,
 ⟨(some 23), .bin .shr (.t 22) (.k (.int .u64 32)), none⟩,
 ⟨(some 24), .convInt .u8 (.t 23), none⟩,
 ⟨(some 25), .bin .add (.k (.int .u8 48)) (.t 24), none⟩,
 ⟨(some 26), .mkLit 1 [(.int .u8 0)] [(0, 1, (.t 25))] false, none⟩,
 ⟨(some 27), .append 1 1 (some 5) (.t 21) (.t 26), none⟩,
 ⟨(some 5), .mov (.t 27), none⟩])))
 (.reg [⟨(some 17), .mov (.t 6), none⟩,
 ⟨(some 18), .bin .and (.t 17) (.k (.int .u64 4294967295)), none⟩,
 ⟨(some 6), .mov (.t 18), none⟩])))

def a41 : AFunc := ⟨31, [.tmp 4],
 (.seq (.reg [⟨(some 4), .mov (.k (.str [])), none⟩])
 (.seq (.reg [⟨(some 5), .mov (.k (.lst 1 [] .tight)), none⟩])
 (.seq (.seq (.reg [⟨(some 7), .mov (.t 0), none⟩,
 ⟨(some 8), .bin .and (.t 7) (.k (.int .u64 4294967295)), none⟩,
 ⟨(some 6), .mov (.t 8), none⟩])
 (.block 0 (.loop a41_0)))
 (.seq (.reg [⟨(some 28), .mov (.t 5), none⟩,
 ⟨(some 29), .convStr (.t 28), none⟩,
 ⟨(some 30), .call (.k (.func (.func 49) [] [])) [(.t 29), (.k (.str [48]))], none⟩,
 ⟨(some 4), .mov (.t 30), none⟩])
 .ret)))),
 [], false⟩

def a42 : AFunc := ⟨5, [.tmp 2],
 (.seq (.reg [⟨(some 2), .mov (.k (.str [])), none⟩])
 (.seq (.reg [⟨(some 3), .mov (.t 0), none⟩,
 ⟨(some 4), .call (.k (.func (.func 31) [] [])) [(.t 3), (.k (.str []))], none⟩,
 ⟨(some 2), .mov (.t 4), none⟩])
 .ret)),
 [], false⟩

def a44 : AFunc := ⟨15, [.tmp 2],
 (.seq (.reg [⟨(some 2), .mov (.k (.str [])), none⟩])
 (.seq (.seq (.reg [⟨(some 3), .mov (.t 0), none⟩,
 ⟨(some 4), .bin .lss (.t 3) (.k (.int .i64 10)), none⟩])
 (.cond (.t 4) (.seq (.reg [⟨(some 5), .mov (.t 0), none⟩,
 ⟨(some 6), .mov (.t 0), none⟩,
 ⟨(some 7), .bin .add (.t 6) (.k (.int .i64 1)), none⟩,
 ⟨(some 8), .sliceStr (.k (.str [48, 49, 50, 51, 52, 53, 54, 55, 56, 57, 97, 98, 99, 100, 101, 102, 103, 104, 105, 106, 107, 108, 109, 110, 111, 112, 113, 114, 115, 116, 117, 118, 119, 120, 121, 122])) (some (.t 5)) (some (.t 7)), none⟩,
 ⟨(some 2), .mov (.t 8), none⟩])
 .ret)
 .skip))
 (.seq (.reg [⟨(some 9), .mov (.t 0), none⟩,
 ⟨(some 10), .bin .mul (.t 9) (.k (.int .i64 2)), none⟩,
 ⟨(some 11), .mov (.t 0), none⟩,
 ⟨(some 12), .bin .mul (.t 11) (.k (.int .i64 2)), none⟩,
 ⟨(some 13), .bin .add (.t 12) (.k (.int .i64 2)), none⟩,
 ⟨(some 14), .sliceStr (.k (.str [48, 48, 48, 49, 48, 50, 48, 51, 48, 52, 48, 53, 48, 54, 48, 55, 48, 56, 48, 57, 49, 48, 49, 49, 49, 50, 49, 51, 49, 52, 49, 53, 49, 54, 49, 55, 49, 56, 49, 57, 50, 48, 50, 49, 50, 50, 50, 51, 50, 52, 50, 53, 50, 54, 50, 55, 50, 56, 50, 57, 51, 48, 51, 49, 51, 50, 51, 51, 51, 52, 51, 53, 51, 54, 51, 55, 51, 56, 51, 57, 52, 48, 52, 49, 52, 50, 52, 51, 52, 52, 52, 53, 52, 54, 52, 55, 52, 56, 52, 57, 53, 48, 53, 49, 53, 50, 53, 51, 53, 52, 53, 53, 53, 54, 53, 55, 53, 56, 53, 57, 54, 48, 54, 49, 54, 50, 54, 51, 54, 52, 54, 53, 54, 54, 54, 55, 54, 56, 54, 57, 55, 48, 55, 49, 55, 50, 55, 51, 55, 52, 55, 53, 55, 54, 55, 55, 55, 56, 55, 57, 56, 48, 56, 49, 56, 50, 56, 51, 56, 52, 56, 53, 56, 54, 56, 55, 56, 56, 56, 57, 57, 48, 57, 49, 57, 50, 57, 51, 57, 52, 57, 53, 57, 54, 57, 55, 57, 56, 57, 57])) (some (.t 10)) (some (.t 13)), none⟩,
 ⟨(some 2), .mov (.t 14), none⟩])
 .ret))),
 [], false⟩

def a46_0 : ACode := (.seq (.seq (.reg [⟨(some 19), .mov (.t 4), none⟩,
 ⟨(some 20), .bin .geq (.t 19) (.k (.int .i64 8)), none⟩])
 (.cond (.t 20) .skip
 (.exit 0)))
 (.block 1 (.seq (.reg [⟨(some 21), .mov (.t 1), none⟩,
 ⟨(some 22), .bin .rem (.t 21) (.k (.int .u64 100000000)), none⟩,
 ⟨(some 23), .convInt .u32 (.t 22), none⟩,
 ⟨(some 5), .mov (.t 23), none⟩])
 (.seq (.reg [⟨(some 24), .mov (.t 1), none⟩,
 ⟨(some 25), .bin .quo (.t 24) (.k (.int .u64 100000000)), none⟩,
 ⟨(some 1), .mov (.t 25), none⟩])
 (.seq (.reg [⟨(some 26), .mov (.t 5), none⟩,
 ⟨(some 27), .bin .quo (.t 26) (.k (.int .u32 10000)), none⟩,
 ⟨(some 28), .mov (.t 5), none⟩,
 ⟨(some 29), .bin .rem (.t 28) (.k (.int .u32 10000)), none⟩,
 ⟨(some 6), .mov (.t 27), none⟩,
 ⟨(some 7), .mov (.t 29), none⟩])
 (.seq (.reg [⟨(some 30), .mov (.t 7), none⟩,
 ⟨(some 31), .bin .quo (.t 30) (.k (.int .u32 100)), none⟩,
 ⟨(some 32), .bin .mul (.t 31) (.k (.int .u32 2)), none⟩,
 ⟨(some 33), .mov (.t 7), none⟩,
 ⟨(some 34), .bin .rem (.t 33) (.k (.int .u32 100)), none⟩,
 ⟨(some 35), .bin .mul (.t 34) (.k (.int .u32 2)), none⟩,
 ⟨(some 8), .mov (.t 32), none⟩,
 ⟨(some 9), .mov (.t 35), none⟩])
 (.seq (.reg [⟨(some 36), .mov (.t 6), none⟩,
 ⟨(some 37), .bin .quo (.t 36) (.k (.int .u32 100)), none⟩,
 ⟨(some 38), .bin .mul (.t 37) (.k (.int .u32 2)), none⟩,
 ⟨(some 39), .mov (.t 6), none⟩,
 ⟨(some 40), .bin .rem (.t 39) (.k (.int .u32 100)), none⟩,
 ⟨(some 41), .bin .mul (.t 40) (.k (.int .u32 2)), none⟩,
 ⟨(some 10), .mov (.t 38), none⟩,
 ⟨(some 11), .mov (.t 41), none⟩])
 (.seq (.plan [⟨0, ⟨(some 42), .mov (.t 0), none⟩, []⟩,
 ⟨1, ⟨(some 43), .mov (.t 4), none⟩, []⟩,
 ⟨2, ⟨(some 44), .bin .sub (.t 43) (.k (.int .i64 1)), none⟩, []⟩,
 ⟨3, ⟨(some 45), .mov (.t 0), none⟩, []⟩,
 ⟨4, ⟨(some 46), .mov (.t 4), none⟩, []⟩,
 ⟨5, ⟨(some 47), .bin .sub (.t 46) (.k (.int .i64 2)), none⟩, []⟩,
 ⟨6, ⟨(some 48), .mov (.t 9), none⟩, []⟩,
 ⟨7, ⟨(some 49), .bin .add (.t 48) (.k (.int .u32 1)), none⟩, []⟩,
 ⟨8, ⟨(some 50), .indexStr (.k (.str [48, 48, 48, 49, 48, 50, 48, 51, 48, 52, 48, 53, 48, 54, 48, 55, 48, 56, 48, 57, 49, 48, 49, 49, 49, 50, 49, 51, 49, 52, 49, 53, 49, 54, 49, 55, 49, 56, 49, 57, 50, 48, 50, 49, 50, 50, 50, 51, 50, 52, 50, 53, 50, 54, 50, 55, 50, 56, 50, 57, 51, 48, 51, 49, 51, 50, 51, 51, 51, 52, 51, 53, 51, 54, 51, 55, 51, 56, 51, 57, 52, 48, 52, 49, 52, 50, 52, 51, 52, 52, 52, 53, 52, 54, 52, 55, 52, 56, 52, 57, 53, 48, 53, 49, 53, 50, 53, 51, 53, 52, 53, 53, 53, 54, 53, 55, 53, 56, 53, 57, 54, 48, 54, 49, 54, 50, 54, 51, 54, 52, 54, 53, 54, 54, 54, 55, 54, 56, 54, 57, 55, 48, 55, 49, 55, 50, 55, 51, 55, 52, 55, 53, 55, 54, 55, 55, 55, 56, 55, 57, 56, 48, 56, 49, 56, 50, 56, 51, 56, 52, 56, 53, 56, 54, 56, 55, 56, 56, 56, 57, 57, 48, 57, 49, 57, 50, 57, 51, 57, 52, 57, 53, 57, 54, 57, 55, 57, 56, 57, 57])) (.t 49), none⟩, []⟩,
 ⟨9, ⟨(some 51), .mov (.t 9), none⟩, []⟩,
 ⟨10, ⟨(some 52), .indexStr (.k (.str [48, 48, 48, 49, 48, 50, 48, 51, 48, 52, 48, 53, 48, 54, 48, 55, 48, 56, 48, 57, 49, 48, 49, 49, 49, 50, 49, 51, 49, 52, 49, 53, 49, 54, 49, 55, 49, 56, 49, 57, 50, 48, 50, 49, 50, 50, 50, 51, 50, 52, 50, 53, 50, 54, 50, 55, 50, 56, 50, 57, 51, 48, 51, 49, 51, 50, 51, 51, 51, 52, 51, 53, 51, 54, 51, 55, 51, 56, 51, 57, 52, 48, 52, 49, 52, 50, 52, 51, 52, 52, 52, 53, 52, 54, 52, 55, 52, 56, 52, 57, 53, 48, 53, 49, 53, 50, 53, 51, 53, 52, 53, 53, 53, 54, 53, 55, 53, 56, 53, 57, 54, 48, 54, 49, 54, 50, 54, 51, 54, 52, 54, 53, 54, 54, 54, 55, 54, 56, 54, 57, 55, 48, 55, 49, 55, 50, 55, 51, 55, 52, 55, 53, 55, 54, 55, 55, 55, 56, 55, 57, 56, 48, 56, 49, 56, 50, 56, 51, 56, 52, 56, 53, 56, 54, 56, 55, 56, 56, 56, 57, 57, 48, 57, 49, 57, 50, 57, 51, 57, 52, 57, 53, 57, 54, 57, 55, 57, 56, 57, 57])) (.t 51), none⟩, []⟩,
 ⟨11, ⟨(some 53), .indexAddr 1 false none (.t 42) (.t 44), none⟩, []⟩,
 ⟨12, ⟨none, .store 1 (.t 53) (.t 50), none⟩, []⟩,
 ⟨13, ⟨(some 54), .indexAddr 1 false none (.t 45) (.t 47), none⟩, []⟩,
 ⟨14, ⟨none, .store 1 (.t 54) (.t 52), none⟩, []⟩])
 (.seq (.plan [⟨0, ⟨(some 55), .mov (.t 0), none⟩, []⟩,
 ⟨1, ⟨(some 56), .mov (.t 4), none⟩, []⟩,
 ⟨2, ⟨(some 57), .bin .sub (.t 56) (.k (.int .i64 3)), none⟩, []⟩,
 ⟨3, ⟨(some 58), .mov (.t 0), none⟩, []⟩,
 ⟨4, ⟨(some 59), .mov (.t 4), none⟩, []⟩,
 ⟨5, ⟨(some 60), .bin .sub (.t 59) (.k (.int .i64 4)), none⟩, []⟩,
 ⟨6, ⟨(some 61), .mov (.t 8), none⟩, []⟩,
 ⟨7, ⟨(some 62), .bin .add (.t 61) (.k (.int .u32 1)), none⟩, []⟩,
 ⟨8, ⟨(some 63), .indexStr (.k (.str [48, 48, 48, 49, 48, 50, 48, 51, 48, 52, 48, 53, 48, 54, 48, 55, 48, 56, 48, 57, 49, 48, 49, 49, 49, 50, 49, 51, 49, 52, 49, 53, 49, 54, 49, 55, 49, 56, 49, 57, 50, 48, 50, 49, 50, 50, 50, 51, 50, 52, 50, 53, 50, 54, 50, 55, 50, 56, 50, 57, 51, 48, 51, 49, 51, 50, 51, 51, 51, 52, 51, 53, 51, 54, 51, 55, 51, 56, 51, 57, 52, 48, 52, 49, 52, 50, 52, 51, 52, 52, 52, 53, 52, 54, 52, 55, 52, 56, 52, 57, 53, 48, 53, 49, 53, 50, 53, 51, 53, 52, 53, 53, 53, 54, 53, 55, 53, 56, 53, 57, 54, 48, 54, 49, 54, 50, 54, 51, 54, 52, 54, 53, 54, 54, 54, 55, 54, 56, 54, 57, 55, 48, 55, 49, 55, 50, 55, 51, 55, 52, 55, 53, 55, 54, 55, 55, 55, 56, 55, 57, 56, 48, 56, 49, 56, 50, 56, 51, 56, 52, 56, 53, 56, 54, 56, 55, 56, 56, 56, 57, 57, 48, 57, 49, 57, 50, 57, 51, 57, 52, 57, 53, 57, 54, 57, 55, 57, 56, 57, 57])) (.t 62), none⟩, []⟩,
 ⟨9, ⟨(some 64), .mov (.t 8), none⟩, []⟩,
 ⟨10, ⟨(some 65), .indexStr (.k (.str [48, 48, 48, 49, 48, 50, 48, 51, 48, 52, 48, 53, 48, 54, 48, 55, 48, 56, 48, 57, 49, 48, 49, 49, 49, 50, 49, 51, 49, 52, 49, 53, 49, 54, 49, 55, 49, 56, 49, 57, 50, 48, 50, 49, 50, 50, 50, 51, 50, 52, 50, 53, 50, 54, 50, 55, 50, 56, 50, 57, 51, 48, 51, 49, 51, 50, 51, 51, 51, 52, 51, 53, 51, 54, 51, 55, 51, 56, 51, 57, 52, 48, 52, 49, 52, 50, 52, 51, 52, 52, 52, 53, 52, 54, 52, 55, 52, 56, 52, 57, 53, 48, 53, 49, 53, 50, 53, 51, 53, 52, 53, 53, 53, 54, 53, 55, 53, 56, 53, 57, 54, 48, 54, 49, 54, 50, 54, 51, 54, 52, 54, 53, 54, 54, 54, 55, 54, 56, 54, 57, 55, 48, 55, 49, 55, 50, 55, 51, 55, 52, 55, 53, 55, 54, 55, 55, 55, 56, 55, 57, 56, 48, 56, 49, 56, 50, 56, 51, 56, 52, 56, 53, 56, 54, 56, 55, 56, 56, 56, 57, 57, 48, 57, 49, 57, 50, 57, 51, 57, 52, 57, 53, 57, 54, 57, 55, 57, 56, 57, 57])) (.t 64), none⟩, []⟩,
 ⟨11, ⟨(some 66), .indexAddr 1 false none (.t 55) (.t 57), none⟩, []⟩,
 ⟨12, ⟨none, .store 1 (.t 66) (.t 63), none⟩, []⟩,
 ⟨13, ⟨(some 67), .indexAddr 1 false none (.t 58) (.t 60), none⟩, []⟩,
 ⟨14, ⟨none, .store 1 (.t 67) (.t 65), none⟩, []⟩])
 (.seq (.plan [⟨0, ⟨(some 68), .mov (.t 0), none⟩, []⟩,
 ⟨1, ⟨(some 69), .mov (.t 4), none⟩, []⟩,
 ⟨2, ⟨(some 70), .bin .sub (.t 69) (.k (.int .i64 5)), none⟩, []⟩,
 ⟨3, ⟨(some 71), .mov (.t 0), none⟩, []⟩,
 ⟨4, ⟨(some 72), .mov (.t 4), none⟩, []⟩,
 ⟨5, ⟨(some 73), .bin .sub (.t 72) (.k (.int .i64 6)), none⟩, []⟩,
 ⟨6, ⟨(some 74), .mov (.t 11), none⟩, []⟩,
 ⟨7, ⟨(some 75), .bin .add (.t 74) (.k (.int .u32 1)), none⟩, []⟩,
 ⟨8, ⟨(some 76), .indexStr (.k (.str [48, 48, 48, 49, 48, 50, 48, 51, 48, 52, 48, 53, 48, 54, 48, 55, 48, 56, 48, 57, 49, 48, 49, 49, 49, 50, 49, 51, 49, 52, 49, 53, 49, 54, 49, 55, 49, 56, 49, 57, 50, 48, 50, 49, 50, 50, 50, 51, 50, 52, 50, 53, 50, 54, 50, 55, 50, 56, 50, 57, 51, 48, 51, 49, 51, 50, 51, 51, 51, 52, 51, 53, 51, 54, 51, 55, 51, 56, 51, 57, 52, 48, 52, 49, 52, 50, 52, 51, 52, 52, 52, 53, 52, 54, 52, 55, 52, 56, 52, 57, 53, 48, 53, 49, 53, 50, 53, 51, 53, 52, 53, 53, 53, 54, 53, 55, 53, 56, 53, 57, 54, 48, 54, 49, 54, 50, 54, 51, 54, 52, 54, 53, 54, 54, 54, 55, 54, 56, 54, 57, 55, 48, 55, 49, 55, 50, 55, 51, 55, 52, 55, 53, 55, 54, 55, 55, 55, 56, 55, 57, 56, 48, 56, 49, 56, 50, 56, 51, 56, 52, 56, 53, 56, 54, 56, 55, 56, 56, 56, 57, 57, 48, 57, 49, 57, 50, 57, 51, 57, 52, 57, 53, 57, 54, 57, 55, 57, 56, 57, 57])) (.t 75), none⟩, []⟩,
 ⟨9, ⟨(some 77), .mov (.t 11), none⟩, []⟩,
 ⟨10, ⟨(some 78), .indexStr (.k (.str [48, 48, 48, 49, 48, 50, 48, 51, 48, 52, 48, 53, 48, 54, 48, 55, 48, 56, 48, 57, 49, 48, 49, 49, 49, 50, 49, 51, 49, 52, 49, 53, 49, 54, 49, 55, 49, 56, 49, 57, 50, 48, 50, 49, 50, 50, 50, 51, 50, 52, 50, 53, 50, 54, 50, 55, 50, 56, 50, 57, 51, 48, 51, 49, 51, 50, 51, 51, 51, 52, 51, 53, 51, 54, 51, 55, 51, 56, 51, 57, 52, 48, 52, 49, 52, 50, 52, 51, 52, 52, 52, 53, 52, 54, 52, 55, 52, 56, 52, 57, 53, 48, 53, 49, 53, 50, 53, 51, 53, 52, 53, 53, 53, 54, 53, 55, 53, 56, 53, 57, 54, 48, 54, 49, 54, 50, 54, 51, 54, 52, 54, 53, 54, 54, 54, 55, 54, 56, 54, 57, 55, 48, 55, 49, 55, 50, 55, 51, 55, 52, 55, 53, 55, 54, 55, 55, 55, 56, 55, 57, 56, 48, 56, 49, 56, 50, 56, 51, 56, 52, 56, 53, 56, 54, 56, 55, 56, 56, 56, 57, 57, 48, 57, 49, 57, 50, 57, 51, 57, 52, 57, 53, 57, 54, 57, 55, 57, 56, 57, 57])) (.t 77), none⟩, []⟩,
 ⟨11, ⟨(some 79), .indexAddr 1 false none (.t 68) (.t 70), none⟩, []⟩,
 ⟨12, ⟨none, .store 1 (.t 79) (.t 76), none⟩, []⟩,
 ⟨13, ⟨(some 80), .indexAddr 1 false none (.t 71) (.t 73), none⟩, []⟩,
 ⟨14, ⟨none, .store 1 (.t 80) (.t 78), none⟩, []⟩])
 (.seq (.plan [⟨0, ⟨(some 81), .mov (.t 0), none⟩, []⟩,
 ⟨1, ⟨(some 82), .mov (.t 4), none⟩, []⟩,
 ⟨2, ⟨(some 83), .bin .sub (.t 82) (.k (.int .i64 7)), none⟩, []⟩,
 ⟨3, ⟨(some 84), .mov (.t 0), none⟩, []⟩,
 ⟨4, ⟨(some 85), .mov (.t 4), none⟩, []⟩,
 ⟨5, ⟨(some 86), .bin .sub (.t 85) (.k (.int .i64 8)), none⟩, []⟩,
 ⟨6, ⟨(some 87), .mov (.t 10), none⟩, []⟩,
 ⟨7, ⟨(some 88), .bin .add (.t 87) (.k (.int .u32 1)), none⟩, []⟩,
 ⟨8, ⟨(some 89), .indexStr (.k (.str [48, 48, 48, 49, 48, 50, 48, 51, 48, 52, 48, 53, 48, 54, 48, 55, 48, 56, 48, 57, 49, 48, 49, 49, 49, 50, 49, 51, 49, 52, 49, 53, 49, 54, 49, 55, 49, 56, 49, 57, 50, 48, 50, 49, 50, 50, 50, 51, 50, 52, 50, 53, 50, 54, 50, 55, 50, 56, 50, 57, 51, 48, 51, 49, 51, 50, 51, 51, 51, 52, 51, 53, 51, 54, 51, 55, 51, 56, 51, 57, 52, 48, 52, 49, 52, 50, 52, 51, 52, 52, 52, 53, 52, 54, 52, 55, 52, 56, 52, 57, 53, 48, 53, 49, 53, 50, 53, 51, 53, 52, 53, 53, 53, 54, 53, 55, 53, 56, 53, 57, 54, 48, 54, 49, 54, 50, 54, 51, 54, 52, 54, 53, 54, 54, 54, 55, 54, 56, 54, 57, 55, 48, 55, 49, 55, 50, 55, 51, 55, 52, 55, 53, 55, 54, 55, 55, 55, 56, 55, 57, 56, 48, 56, 49, 56, 50, 56, 51, 56, 52, 56, 53, 56, 54, 56, 55, 56, 56, 56, 57, 57, 48, 57, 49, 57, 50, 57, 51, 57, 52, 57, 53, 57, 54, 57, 55, 57, 56, 57, 57])) (.t 88), none⟩, []⟩,
 ⟨9, ⟨(some 90), .mov (.t 10), none⟩, []⟩,
 ⟨10, ⟨(some 91), .indexStr (.k (.str [48, 48, 48, 49, 48, 50, 48, 51, 48, 52, 48, 53, 48, 54, 48, 55, 48, 56, 48, 57, 49, 48, 49, 49, 49, 50, 49, 51, 49, 52, 49, 53, 49, 54, 49, 55, 49, 56, 49, 57, 50, 48, 50, 49, 50, 50, 50, 51, 50, 52, 50, 53, 50, 54, 50, 55, 50, 56, 50, 57, 51, 48, 51, 49, 51, 50, 51, 51, 51, 52, 51, 53, 51, 54, 51, 55, 51, 56, 51, 57, 52, 48, 52, 49, 52, 50, 52, 51, 52, 52, 52, 53, 52, 54, 52, 55, 52, 56, 52, 57, 53, 48, 53, 49, 53, 50, 53, 51, 53, 52, 53, 53, 53, 54, 53, 55, 53, 56, 53, 57, 54, 48, 54, 49, 54, 50, 54, 51, 54, 52, 54, 53, 54, 54, 54, 55, 54, 56, 54, 57, 55, 48, 55, 49, 55, 50, 55, 51, 55, 52, 55, 53, 55, 54, 55, 55, 55, 56, 55, 57, 56, 48, 56, 49, 56, 50, 56, 51, 56, 52, 56, 53, 56, 54, 56, 55, 56, 56, 56, 57, 57, 48, 57, 49, 57, 50, 57, 51, 57, 52, 57, 53, 57, 54, 57, 55, 57, 56, 57, 57])) (.t 90), none⟩, []⟩,
 ⟨11, ⟨(some 92), .indexAddr 1 false none (.t 81) (.t 83), none⟩, []⟩,
 ⟨12, ⟨none, .store 1 (.t 92) (.t 89), none⟩, []⟩,
 ⟨13, ⟨(some 93), .indexAddr 1 false none (.t 84) (.t 86), none⟩, []⟩,
 ⟨14, ⟨none, .store 1 (.t 93) (.t 91), none⟩, []⟩])
 (.reg [⟨(some 94), .mov (.t 4), none⟩,
 ⟨(some 95), .bin .sub (.t 94) (.k (.int .i64 8)), none⟩,
 ⟨(some 4), .mov (.t 95), none⟩]))))))))))))

def a46 : AFunc := ⟨167, [],
 (.seq (.reg [⟨(some 17), .mov (.t 0), none⟩,
 ⟨(some 18), .lenSl (.t 17), none⟩,
 ⟨(some 4), .mov (.t 18), none⟩])
 (.seq (.block 0 (.loop a46_0))
 (.seq (.reg [⟨(some 96), .mov (.t 1), none⟩,
 ⟨(some 97), .convInt .u32 (.t 96), none⟩,
 ⟨(some 12), .mov (.t 97), none⟩])
 (.seq (.seq (.reg [⟨(some 98), .mov (.t 4), none⟩,
 ⟨(some 99), .bin .geq (.t 98) (.k (.int .i64 4)), none⟩])
 (.cond (.t 99) (.seq (.reg [⟨(some 100), .mov (.t 12), none⟩,
 ⟨(some 101), .bin .rem (.t 100) (.k (.int .u32 10000)), none⟩,
 ⟨(some 13), .mov (.t 101), none⟩])
 (.seq (.reg [⟨(some 102), .mov (.t 12), none⟩,
 ⟨(some 103), .bin .quo (.t 102) (.k (.int .u32 10000)), none⟩,
 ⟨(some 12), .mov (.t 103), none⟩])
 (.seq (.reg [⟨(some 104), .mov (.t 13), none⟩,
 ⟨(some 105), .bin .quo (.t 104) (.k (.int .u32 100)), none⟩,
 ⟨(some 106), .bin .mul (.t 105) (.k (.int .u32 2)), none⟩,
 ⟨(some 107), .mov (.t 13), none⟩,
 ⟨(some 108), .bin .rem (.t 107) (.k (.int .u32 100)), none⟩,
 ⟨(some 109), .bin .mul (.t 108) (.k (.int .u32 2)), none⟩,
 ⟨(some 14), .mov (.t 106), none⟩,
 ⟨(some 15), .mov (.t 109), none⟩])
 (.seq (.plan [⟨0, ⟨(some 110), .mov (.t 0), none⟩, []⟩,
 ⟨1, ⟨(some 111), .mov (.t 4), none⟩, []⟩,
 ⟨2, ⟨(some 112), .bin .sub (.t 111) (.k (.int .i64 1)), none⟩, []⟩,
 ⟨3, ⟨(some 113), .mov (.t 0), none⟩, []⟩,
 ⟨4, ⟨(some 114), .mov (.t 4), none⟩, []⟩,
 ⟨5, ⟨(some 115), .bin .sub (.t 114) (.k (.int .i64 2)), none⟩, []⟩,
 ⟨6, ⟨(some 116), .mov (.t 15), none⟩, []⟩,
 ⟨7, ⟨(some 117), .bin .add (.t 116) (.k (.int .u32 1)), none⟩, []⟩,
 ⟨8, ⟨(some 118), .indexStr (.k (.str [48, 48, 48, 49, 48, 50, 48, 51, 48, 52, 48, 53, 48, 54, 48, 55, 48, 56, 48, 57, 49, 48, 49, 49, 49, 50, 49, 51, 49, 52, 49, 53, 49, 54, 49, 55, 49, 56, 49, 57, 50, 48, 50, 49, 50, 50, 50, 51, 50, 52, 50, 53, 50, 54, 50, 55, 50, 56, 50, 57, 51, 48, 51, 49, 51, 50, 51, 51, 51, 52, 51, 53, 51, 54, 51, 55, 51, 56, 51, 57, 52, 48, 52, 49, 52, 50, 52, 51, 52, 52, 52, 53, 52, 54, 52, 55, 52, 56, 52, 57, 53, 48, 53, 49, 53, 50, 53, 51, 53, 52, 53, 53, 53, 54, 53, 55, 53, 56, 53, 57, 54, 48, 54, 49, 54, 50, 54, 51, 54, 52, 54, 53, 54, 54, 54, 55, 54, 56, 54, 57, 55, 48, 55, 49, 55, 50, 55, 51, 55, 52, 55, 53, 55, 54, 55, 55, 55, 56, 55, 57, 56, 48, 56, 49, 56, 50, 56, 51, 56, 52, 56, 53, 56, 54, 56, 55, 56, 56, 56, 57, 57, 48, 57, 49, 57, 50, 57, 51, 57, 52, 57, 53, 57, 54, 57, 55, 57, 56, 57, 57])) (.t 117), none⟩, []⟩,
 ⟨9, ⟨(some 119), .mov (.t 15), none⟩, []⟩,
 ⟨10, ⟨(some 120), .indexStr (.k (.str [48, 48, 48, 49, 48, 50, 48, 51, 48, 52, 48, 53, 48, 54, 48, 55, 48, 56, 48, 57, 49, 48, 49, 49, 49, 50, 49, 51, 49, 52, 49, 53, 49, 54, 49, 55, 49, 56, 49, 57, 50, 48, 50, 49, 50, 50, 50, 51, 50, 52, 50, 53, 50, 54, 50, 55, 50, 56, 50, 57, 51, 48, 51, 49, 51, 50, 51, 51, 51, 52, 51, 53, 51, 54, 51, 55, 51, 56, 51, 57, 52, 48, 52, 49, 52, 50, 52, 51, 52, 52, 52, 53, 52, 54, 52, 55, 52, 56, 52, 57, 53, 48, 53, 49, 53, 50, 53, 51, 53, 52, 53, 53, 53, 54, 53, 55, 53, 56, 53, 57, 54, 48, 54, 49, 54, 50, 54, 51, 54, 52, 54, 53, 54, 54, 54, 55, 54, 56, 54, 57, 55, 48, 55, 49, 55, 50, 55, 51, 55, 52, 55, 53, 55, 54, 55, 55, 55, 56, 55, 57, 56, 48, 56, 49, 56, 50, 56, 51, 56, 52, 56, 53, 56, 54, 56, 55, 56, 56, 56, 57, 57, 48, 57, 49, 57, 50, 57, 51, 57, 52, 57, 53, 57, 54, 57, 55, 57, 56, 57, 57])) (.t 119), none⟩, []⟩,
 ⟨11, ⟨(some 121), .indexAddr 1 false none (.t 110) (.t 112), none⟩, []⟩,
 ⟨12, ⟨none, .store 1 (.t 121) (.t 118), none⟩, []⟩,
 ⟨13, ⟨(some 122), .indexAddr 1 false none (.t 113) (.t 115), none⟩, []⟩,
 ⟨14, ⟨none, .store 1 (.t 122) (.t 120), none⟩, []⟩])
 (.seq (.plan [⟨0, ⟨(some 123), .mov (.t 0), none⟩, []⟩,
 ⟨1, ⟨(some 124), .mov (.t 4), none⟩, []⟩,
 ⟨2, ⟨(some 125), .bin .sub (.t 124) (.k (.int .i64 3)), none⟩, []⟩,
 ⟨3, ⟨(some 126), .mov (.t 0), none⟩, []⟩,
 ⟨4, ⟨(some 127), .mov (.t 4), none⟩, []⟩,
 ⟨5, ⟨(some 128), .bin .sub (.t 127) (.k (.int .i64 4)), none⟩, []⟩,
 ⟨6, ⟨(some 129), .mov (.t 14), none⟩, []⟩,
 ⟨7, ⟨(some 130), .bin .add (.t 129) (.k (.int .u32 1)), none⟩, []⟩,
 ⟨8, ⟨(some 131), .indexStr (.k (.str [48, 48, 48, 49, 48, 50, 48, 51, 48, 52, 48, 53, 48, 54, 48, 55, 48, 56, 48, 57, 49, 48, 49, 49, 49, 50, 49, 51, 49, 52, 49, 53, 49, 54, 49, 55, 49, 56, 49, 57, 50, 48, 50, 49, 50, 50, 50, 51, 50, 52, 50, 53, 50, 54, 50, 55, 50, 56, 50, 57, 51, 48, 51, 49, 51, 50, 51, 51, 51, 52, 51, 53, 51, 54, 51, 55, 51, 56, 51, 57, 52, 48, 52, 49, 52, 50, 52, 51, 52, 52, 52, 53, 52, 54, 52, 55, 52, 56, 52, 57, 53, 48, 53, 49, 53, 50, 53, 51, 53, 52, 53, 53, 53, 54, 53, 55, 53, 56, 53, 57, 54, 48, 54, 49, 54, 50, 54, 51, 54, 52, 54, 53, 54, 54, 54, 55, 54, 56, 54, 57, 55, 48, 55, 49, 55, 50, 55, 51, 55, 52, 55, 53, 55, 54, 55, 55, 55, 56, 55, 57, 56, 48, 56, 49, 56, 50, 56, 51, 56, 52, 56, 53, 56, 54, 56, 55, 56, 56, 56, 57, 57, 48, 57, 49, 57, 50, 57, 51, 57, 52, 57, 53, 57, 54, 57, 55, 57, 56, 57, 57])) (.t 130), none⟩, []⟩,
 ⟨9, ⟨(some 132), .mov (.t 14), none⟩, []⟩,
 ⟨10, ⟨(some 133), .indexStr (.k (.str [48, 48, 48, 49, 48, 50, 48, 51, 48, 52, 48, 53, 48, 54, 48, 55, 48, 56, 48, 57, 49, 48, 49, 49, 49, 50, 49, 51, 49, 52, 49, 53, 49, 54, 49, 55, 49, 56, 49, 57, 50, 48, 50, 49, 50, 50, 50, 51, 50, 52, 50, 53, 50, 54, 50, 55, 50, 56, 50, 57, 51, 48, 51, 49, 51, 50, 51, 51, 51, 52, 51, 53, 51, 54, 51, 55, 51, 56, 51, 57, 52, 48, 52, 49, 52, 50, 52, 51, 52, 52, 52, 53, 52, 54, 52, 55, 52, 56, 52, 57, 53, 48, 53, 49, 53, 50, 53, 51, 53, 52, 53, 53, 53, 54, 53, 55, 53, 56, 53, 57, 54, 48, 54, 49, 54, 50, 54, 51, 54, 52, 54, 53, 54, 54, 54, 55, 54, 56, 54, 57, 55, 48, 55, 49, 55, 50, 55, 51, 55, 52, 55, 53, 55, 54, 55, 55, 55, 56, 55, 57, 56, 48, 56, 49, 56, 50, 56, 51, 56, 52, 56, 53, 56, 54, 56, 55, 56, 56, 56, 57, 57, 48, 57, 49, 57, 50, 57, 51, 57, 52, 57, 53, 57, 54, 57, 55, 57, 56, 57, 57])) (.t 132), none⟩, []⟩,
 ⟨11, ⟨(some 134), .indexAddr 1 false none (.t 123) (.t 125), none⟩, []⟩,
 ⟨12, ⟨none, .store 1 (.t 134) (.t 131), none⟩, []⟩,
 ⟨13, ⟨(some 135), .indexAddr 1 false none (.t 126) (.t 128), none⟩, []⟩,
 ⟨14, ⟨none, .store 1 (.t 135) (.t 133), none⟩, []⟩])
 (.reg [⟨(some 136), .mov (.t 4), none⟩,
 ⟨(some 137), .bin .sub (.t 136) (.k (.int .i64 4)), none⟩,
 ⟨(some 4), .mov (.t 137), none⟩]))))))
 .skip))
 (.seq (.seq (.reg [⟨(some 138), .mov (.t 4), none⟩,
 ⟨(some 139), .bin .geq (.t 138) (.k (.int .i64 2)), none⟩])
 (.cond (.t 139) (.seq (.reg [⟨(some 140), .mov (.t 12), none⟩,
 ⟨(some 141), .bin .rem (.t 140) (.k (.int .u32 100)), none⟩,
 ⟨(some 142), .bin .mul (.t 141) (.k (.int .u32 2)), none⟩,
 ⟨(some 16), .mov (.t 142), none⟩])
 (.seq (.reg [⟨(some 143), .mov (.t 12), none⟩,
 ⟨(some 144), .bin .quo (.t 143) (.k (.int .u32 100)), none⟩,
 ⟨(some 12), .mov (.t 144), none⟩])
 (.seq (.plan [⟨0, ⟨(some 145), .mov (.t 0), none⟩, []⟩,
 ⟨1, ⟨(some 146), .mov (.t 4), none⟩, []⟩,
 ⟨2, ⟨(some 147), .bin .sub (.t 146) (.k (.int .i64 1)), none⟩, []⟩,
 ⟨3, ⟨(some 148), .mov (.t 0), none⟩, []⟩,
 ⟨4, ⟨(some 149), .mov (.t 4), none⟩, []⟩,
 ⟨5, ⟨(some 150), .bin .sub (.t 149) (.k (.int .i64 2)), none⟩, []⟩,
 ⟨6, ⟨(some 151), .mov (.t 16), none⟩, []⟩,
 ⟨7, ⟨(some 152), .bin .add (.t 151) (.k (.int .u32 1)), none⟩, []⟩,
 ⟨8, ⟨(some 153), .indexStr (.k (.str [48, 48, 48, 49, 48, 50, 48, 51, 48, 52, 48, 53, 48, 54, 48, 55, 48, 56, 48, 57, 49, 48, 49, 49, 49, 50, 49, 51, 49, 52, 49, 53, 49, 54, 49, 55, 49, 56, 49, 57, 50, 48, 50, 49, 50, 50, 50, 51, 50, 52, 50, 53, 50, 54, 50, 55, 50, 56, 50, 57, 51, 48, 51, 49, 51, 50, 51, 51, 51, 52, 51, 53, 51, 54, 51, 55, 51, 56, 51, 57, 52, 48, 52, 49, 52, 50, 52, 51, 52, 52, 52, 53, 52, 54, 52, 55, 52, 56, 52, 57, 53, 48, 53, 49, 53, 50, 53, 51, 53, 52, 53, 53, 53, 54, 53, 55, 53, 56, 53, 57, 54, 48, 54, 49, 54, 50, 54, 51, 54, 52, 54, 53, 54, 54, 54, 55, 54, 56, 54, 57, 55, 48, 55, 49, 55, 50, 55, 51, 55, 52, 55, 53, 55, 54, 55, 55, 55, 56, 55, 57, 56, 48, 56, 49, 56, 50, 56, 51, 56, 52, 56, 53, 56, 54, 56, 55, 56, 56, 56, 57, 57, 48, 57, 49, 57, 50, 57, 51, 57, 52, 57, 53, 57, 54, 57, 55, 57, 56, 57, 57])) (.t 152), none⟩, []⟩,
 ⟨9, ⟨(some 154), .mov (.t 16), none⟩, []⟩,
 ⟨10, ⟨(some 155), .indexStr (.k (.str [48, 48, 48, 49, 48, 50, 48, 51, 48, 52, 48, 53, 48, 54, 48, 55, 48, 56, 48, 57, 49, 48, 49, 49, 49, 50, 49, 51, 49, 52, 49, 53, 49, 54, 49, 55, 49, 56, 49, 57, 50, 48, 50, 49, 50, 50, 50, 51, 50, 52, 50, 53, 50, 54, 50, 55, 50, 56, 50, 57, 51, 48, 51, 49, 51, 50, 51, 51, 51, 52, 51, 53, 51, 54, 51, 55, 51, 56, 51, 57, 52, 48, 52, 49, 52, 50, 52, 51, 52, 52, 52, 53, 52, 54, 52, 55, 52, 56, 52, 57, 53, 48, 53, 49, 53, 50, 53, 51, 53, 52, 53, 53, 53, 54, 53, 55, 53, 56, 53, 57, 54, 48, 54, 49, 54, 50, 54, 51, 54, 52, 54, 53, 54, 54, 54, 55, 54, 56, 54, 57, 55, 48, 55, 49, 55, 50, 55, 51, 55, 52, 55, 53, 55, 54, 55, 55, 55, 56, 55, 57, 56, 48, 56, 49, 56, 50, 56, 51, 56, 52, 56, 53, 56, 54, 56, 55, 56, 56, 56, 57, 57, 48, 57, 49, 57, 50, 57, 51, 57, 52, 57, 53, 57, 54, 57, 55, 57, 56, 57, 57])) (.t 154), none⟩, []⟩,
 ⟨11, ⟨(some 156), .indexAddr 1 false none (.t 145) (.t 147), none⟩, []⟩,
 ⟨12, ⟨none, .store 1 (.t 156) (.t 153), none⟩, []⟩,
 ⟨13, ⟨(some 157), .indexAddr 1 false none (.t 148) (.t 150), none⟩, []⟩,
 ⟨14, ⟨none, .store 1 (.t 157) (.t 155), none⟩, []⟩])
 (.reg [⟨(some 158), .mov (.t 4), none⟩,
 ⟨(some 159), .bin .sub (.t 158) (.k (.int .i64 2)), none⟩,
 ⟨(some 4), .mov (.t 159), none⟩]))))
 .skip))
 (.seq (.reg [⟨(some 160), .mov (.t 4), none⟩,
 ⟨(some 161), .bin .gtr (.t 160) (.k (.int .i64 0)), none⟩])
 (.cond (.t 161) (.reg [⟨(some 162), .mov (.t 0), none⟩,
 ⟨(some 163), .mov (.t 12), none⟩,
 ⟨(some 164), .bin .add (.k (.int .u32 48)) (.t 163), none⟩,
 ⟨(some 165), .convInt .u8 (.t 164), none⟩,
 ⟨(some 166), .indexAddr 1 false none (.t 162) (.k (.int .i64 0)), none⟩,
 ⟨none, .store 1 (.t 166) (.t 165), none⟩])
 .skip))))))),
 [], false⟩

def a47_0 : ACode := (.seq (.seq (.reg [⟨(some 66), .mov (.t 1), none⟩,
 ⟨(some 67), .mov (.t 17), none⟩,
 ⟨(some 68), .bin .geq (.t 66) (.t 67), none⟩])
 (.cond (.t 68) .skip
 (.exit 2)))
 (.block 3 (.seq (.reg [⟨(some 69), .mov (.t 13), none⟩,
 ⟨(some 70), .bin .sub (.t 69) (.k (.int .i64 1)), none⟩,
 ⟨(some 13), .mov (.t 70), none⟩])
 (.seq (.reg [⟨(some 71), .mov (.t 1), none⟩,
 ⟨(some 72), .mov (.t 17), none⟩,
 ⟨(some 73), .bin .quo (.t 71) (.t 72), none⟩,
 ⟨(some 18), .mov (.t 73), none⟩])
 (.seq (.reg [⟨(some 74), .mov (.t 13), none⟩,
 ⟨(some 75), .mov (.t 1), none⟩,
 ⟨(some 76), .mov (.t 18), none⟩,
 ⟨(some 77), .mov (.t 17), none⟩,
 ⟨(some 78), .bin .mul (.t 76) (.t 77), none⟩,
 ⟨(some 79), .bin .sub (.t 75) (.t 78), none⟩,
 ⟨(some 80), .indexStr (.k (.str [48, 49, 50, 51, 52, 53, 54, 55, 56, 57, 97, 98, 99, 100, 101, 102, 103, 104, 105, 106, 107, 108, 109, 110, 111, 112, 113, 114, 115, 116, 117, 118, 119, 120, 121, 122])) (.t 79), none⟩,
 ⟨(some 81), .indexAddr 1 false (some 65) (.t 12) (.t 74), none⟩,
 ⟨none, .store 1 (.t 81) (.t 80), none⟩])
 (.reg [⟨(some 82), .mov (.t 18), none⟩,
 ⟨(some 1), .mov (.t 82), none⟩]))))))

def a47_1 : ACode := (.seq (.seq (.reg [⟨(some 44), .mov (.t 1), none⟩,
 ⟨(some 45), .mov (.t 15), none⟩,
 ⟨(some 46), .bin .geq (.t 44) (.t 45), none⟩])
 (.cond (.t 46) .skip
 (.exit 0)))
 (.block 1 (.seq (.reg [⟨(some 47), .mov (.t 13), none⟩,
 ⟨(some 48), .bin .sub (.t 47) (.k (.int .i64 1)), none⟩,
 ⟨(some 13), .mov (.t 48), none⟩])
 (.seq (.reg [⟨(some 49), .mov (.t 13), none⟩,
 ⟨(some 50), .mov (.t 1), none⟩,
 ⟨(some 51), .mov (.t 16), none⟩,
 ⟨(some 52), .bin .and (.t 50) (.t 51), none⟩,
 ⟨(some 53), .indexStr (.k (.str [48, 49, 50, 51, 52, 53, 54, 55, 56, 57, 97, 98, 99, 100, 101, 102, 103, 104, 105, 106, 107, 108, 109, 110, 111, 112, 113, 114, 115, 116, 117, 118, 119, 120, 121, 122])) (.t 52), none⟩,
 ⟨(some 54), .indexAddr 1 false (some 65) (.t 12) (.t 49), none⟩,
 ⟨none, .store 1 (.t 54) (.t 53), none⟩])
 (.reg [⟨(some 55), .mov (.t 1), none⟩,
 ⟨(some 56), .mov (.t 14), none⟩,
 ⟨(some 57), .bin .shr (.t 55) (.t 56), none⟩,
 ⟨(some 1), .mov (.t 57), none⟩])))))

def a47 : AFunc := ⟨102, [.tmp 10, .tmp 11],
 (.seq (.reg [⟨(some 10), .mov (.k (.lst 1 [] .tight)), none⟩,
 ⟨(some 11), .mov (.k (.str [])), none⟩])
 (.seq (.seq (.reg [⟨(some 19), .mov (.t 2), none⟩,
 ⟨(some 20), .bin .lss (.t 19) (.k (.int .i64 2)), none⟩,
 ⟨(some 21), .mov (.t 20), none⟩,
 ⟨(some 22), .mov (.t 2), some (21, false)⟩,
 ⟨(some 23), .bin .eql (.t 22) (.k (.int .i64 10)), some (21, false)⟩,
 ⟨(some 24), .pick (.t 21) (.k (.bool true)) (.t 23), none⟩,
 ⟨(some 25), .mov (.t 24), none⟩,
 ⟨(some 26), .mov (.t 2), some (25, false)⟩,
 ⟨(some 27), .bin .gtr (.t 26) (.k (.int .i64 36)), some (25, false)⟩,
 ⟨(some 28), .pick (.t 25) (.k (.bool true)) (.t 27), none⟩])
 (.cond (.t 28) (.reg [⟨(some 29), .mkIface 9 (.k (.str [115, 116, 114, 99, 111, 110, 118, 58, 32, 105, 108, 108, 101, 103, 97, 108, 32, 65, 112, 112, 101, 110, 100, 73, 110, 116, 47, 70, 111, 114, 109, 97, 116, 73, 110, 116, 32, 98, 97, 115, 101])), none⟩,
 ⟨none, .panic (.t 29), none⟩])
 .skip))
 (.seq (.reg [⟨(some 12), .new (.agg [(.int .u8 0), (.int .u8 0), (.int .u8 0), (.int .u8 0), (.int .u8 0), (.int .u8 0), (.int .u8 0), (.int .u8 0), (.int .u8 0), (.int .u8 0), (.int .u8 0), (.int .u8 0), (.int .u8 0), (.int .u8 0), (.int .u8 0), (.int .u8 0), (.int .u8 0), (.int .u8 0), (.int .u8 0), (.int .u8 0), (.int .u8 0), (.int .u8 0), (.int .u8 0), (.int .u8 0), (.int .u8 0), (.int .u8 0), (.int .u8 0), (.int .u8 0), (.int .u8 0), (.int .u8 0), (.int .u8 0), (.int .u8 0), (.int .u8 0), (.int .u8 0), (.int .u8 0), (.int .u8 0), (.int .u8 0), (.int .u8 0), (.int .u8 0), (.int .u8 0), (.int .u8 0), (.int .u8 0), (.int .u8 0), (.int .u8 0), (.int .u8 0), (.int .u8 0), (.int .u8 0), (.int .u8 0), (.int .u8 0), (.int .u8 0), (.int .u8 0), (.int .u8 0), (.int .u8 0), (.int .u8 0), (.int .u8 0), (.int .u8 0), (.int .u8 0), (.int .u8 0), (.int .u8 0), (.int .u8 0), (.int .u8 0), (.int .u8 0), (.int .u8 0), (.int .u8 0), (.int .u8 0)]) true none, none⟩])
 (.seq (.reg [⟨(some 13), .mov (.k (.int .i64 65)), none⟩])
 (.seq (.seq (.reg [⟨(some 30), .mov (.t 3), none⟩])
 (.cond (.t 30) (.reg [⟨(some 31), .mov (.t 1), none⟩,
 ⟨(some 32), .un .neg (.t 31), none⟩,
 ⟨(some 1), .mov (.t 32), none⟩])
 .skip))
 (.seq (.seq (.reg [⟨(some 33), .mov (.t 2), none⟩,
 ⟨(some 34), .call (.k (.func (.func 54) [] [])) [(.t 33)], none⟩])
 (.cond (.t 34) (.seq (.reg [⟨(some 35), .mov (.t 2), none⟩,
 ⟨(some 36), .convInt .u64 (.t 35), none⟩,
 ⟨(some 37), .call (.k (.func (.func 55) [] [])) [(.t 36)], none⟩,
 ⟨(some 38), .convInt .u64 (.t 37), none⟩,
 ⟨(some 14), .mov (.t 38), none⟩])
 (.seq (.reg [⟨(some 39), .mov (.t 2), none⟩,
 ⟨(some 40), .convInt .u64 (.t 39), none⟩,
 ⟨(some 15), .mov (.t 40), none⟩])
 (.seq (.reg [⟨(some 41), .mov (.t 2), none⟩,
 ⟨(some 42), .convInt .u64 (.t 41), none⟩,
 ⟨(some 43), .bin .sub (.t 42) (.k (.int .u64 1)), none⟩,
 ⟨(some 16), .mov (.t 43), none⟩])
 (.seq (.block 0 (.loop a47_1))
 (.seq (.reg [⟨(some 58), .mov (.t 13), none⟩,
 ⟨(some 59), .bin .sub (.t 58) (.k (.int .i64 1)), none⟩,
 ⟨(some 13), .mov (.t 59), none⟩])
 (.reg [⟨(some 60), .mov (.t 13), none⟩,
 ⟨(some 61), .mov (.t 1), none⟩,
 ⟨(some 62), .indexStr (.k (.str [48, 49, 50, 51, 52, 53, 54, 55, 56, 57, 97, 98, 99, 100, 101, 102, 103, 104, 105, 106, 107, 108, 109, 110, 111, 112, 113, 114, 115, 116, 117, 118, 119, 120, 121, 122])) (.t 61), none⟩,
 ⟨(some 63), .indexAddr 1 false (some 65) (.t 12) (.t 60), none⟩,
 ⟨none, .store 1 (.t 63) (.t 62), none⟩]))))))
 (.seq (.reg [⟨(some 64), .mov (.t 2), none⟩,
 ⟨(some 65), .convInt .u64 (.t 64), none⟩,
 ⟨(some 17), .mov (.t 65), none⟩])
 (.seq (.block 2 (.loop a47_0))
 (.seq (.reg [⟨(some 83), .mov (.t 13), none⟩,
 ⟨(some 84), .bin .sub (.t 83) (.k (.int .i64 1)), none⟩,
 ⟨(some 13), .mov (.t 84), none⟩])
 (.reg [⟨(some 85), .mov (.t 13), none⟩,
 ⟨(some 86), .mov (.t 1), none⟩,
 ⟨(some 87), .indexStr (.k (.str [48, 49, 50, 51, 52, 53, 54, 55, 56, 57, 97, 98, 99, 100, 101, 102, 103, 104, 105, 106, 107, 108, 109, 110, 111, 112, 113, 114, 115, 116, 117, 118, 119, 120, 121, 122])) (.t 86), none⟩,
 ⟨(some 88), .indexAddr 1 false (some 65) (.t 12) (.t 85), none⟩,
 ⟨none, .store 1 (.t 88) (.t 87), none⟩]))))))
 (.seq (.seq (.reg [⟨(some 89), .mov (.t 3), none⟩])
 (.cond (.t 89) (.seq (.reg [⟨(some 90), .mov (.t 13), none⟩,
 ⟨(some 91), .bin .sub (.t 90) (.k (.int .i64 1)), none⟩,
 ⟨(some 13), .mov (.t 91), none⟩])
 (.reg [⟨(some 92), .mov (.t 13), none⟩,
 ⟨(some 93), .indexAddr 1 false (some 65) (.t 12) (.t 92), none⟩,
 ⟨none, .store 1 (.t 93) (.k (.int .u8 45)), none⟩]))
 .skip))
 (.seq (.seq (.reg [⟨(some 94), .mov (.t 4), none⟩])
 (.cond (.t 94) (.seq (.reg [⟨(some 95), .mov (.t 0), none⟩,
 ⟨(some 96), .mov (.t 13), none⟩,
 ⟨(some 97), .sliceArr 65 1 (.t 12) (some (.t 96)) none, none⟩,
 ⟨(some 98), .append 1 1 (some 5) (.t 95) (.t 97), none⟩,
 ⟨(some 10), .mov (.t 98), none⟩])
 .ret)
 .skip))
 (.seq (.reg [⟨(some 99), .mov (.t 13), none⟩,
 ⟨(some 100), .sliceArr 65 1 (.t 12) (some (.t 99)) none, none⟩,
 ⟨(some 101), .convStr (.t 100), none⟩,
 ⟨(some 11), .mov (.t 101), none⟩])
 .ret))))))))),
 [], false⟩

def a48 : AFunc := ⟨32, [.tmp 4],
 (.seq (.reg [⟨(some 4), .mov (.k (.str [])), none⟩])
 (.seq (.seq (.reg [⟨(some 9), .mov (.t 1), none⟩,
 ⟨(some 10), .bin .eql (.t 9) (.k (.int .i64 10)), none⟩])
 (.cond (.t 10) (.seq (.seq (.reg [⟨(some 11), .mov (.t 0), none⟩,
 ⟨(some 12), .bin .lss (.t 11) (.k (.int .u64 100)), none⟩])
 (.cond (.t 12) (.seq (.reg [⟨(some 13), .mov (.t 0), none⟩,
 ⟨(some 14), .convInt .i64 (.t 13), none⟩,
 ⟨(some 15), .call (.k (.func (.func 44) [] [])) [(.t 14)], none⟩,
 ⟨(some 4), .mov (.t 15), none⟩])
 .ret)
 .skip))
 (.seq (.reg [⟨(some 5), .new (.agg [(.int .u8 0), (.int .u8 0), (.int .u8 0), (.int .u8 0), (.int .u8 0), (.int .u8 0), (.int .u8 0), (.int .u8 0), (.int .u8 0), (.int .u8 0), (.int .u8 0), (.int .u8 0), (.int .u8 0), (.int .u8 0), (.int .u8 0), (.int .u8 0), (.int .u8 0), (.int .u8 0), (.int .u8 0), (.int .u8 0), (.int .u8 0), (.int .u8 0), (.int .u8 0), (.int .u8 0)]) true none, none⟩])
 (.seq (.reg [⟨(some 16), .mov (.t 0), none⟩,
 ⟨(some 17), .call (.k (.func (.func 45) [] [])) [(.t 16)], none⟩,
 ⟨(some 6), .mov (.t 17), none⟩])
 (.seq (.reg [⟨(some 18), .mov (.t 6), none⟩,
 ⟨(some 19), .sliceArr 24 1 (.t 5) none (some (.t 18)), none⟩,
 ⟨(some 20), .mov (.t 0), none⟩,
 ⟨(some 21), .call (.k (.func (.func 46) [] [])) [(.t 19), (.t 20)], none⟩])
 (.seq (.reg [⟨(some 22), .mov (.t 6), none⟩,
 ⟨(some 23), .sliceArr 24 1 (.t 5) none (some (.t 22)), none⟩,
 ⟨(some 24), .convStr (.t 23), none⟩,
 ⟨(some 4), .mov (.t 24), none⟩])
 .ret)))))
 .skip))
 (.seq (.reg [⟨(some 26), .mov (.t 0), none⟩,
 ⟨(some 27), .mov (.t 1), none⟩,
 ⟨(some 28), .call (.k (.func (.func 47) [] [])) [(.k (.lst 1 [] .tight)), (.t 26), (.t 27), (.k (.bool false)), (.k (.bool false))], none⟩,
 ⟨(some 25), .mov (.t 28), none⟩,
 ⟨(some 29), .extract (.t 25) 0, none⟩,
 ⟨(some 30), .extract (.t 25) 1, none⟩,
 ⟨(some 7), .mov (.t 29), none⟩,
 ⟨(some 8), .mov (.t 30), none⟩])
 (.seq (.reg [⟨(some 31), .mov (.t 8), none⟩,
 ⟨(some 4), .mov (.t 31), none⟩])
 .ret)))),
 [], false⟩

def a51 : AFunc := ⟨6, [.tmp 2],
 (.seq (.reg [⟨(some 2), .mov (.k (.int .i64 0)), none⟩])
 (.seq (.reg [⟨(some 3), .mov (.t 0), none⟩,
 ⟨(some 4), .bin .mul (.t 3) (.k (.int .i64 78913)), none⟩,
 ⟨(some 5), .bin .shr (.t 4) (.k (.int .u64 18)), none⟩,
 ⟨(some 2), .mov (.t 5), none⟩])
 .ret)),
 [], false⟩

def a52 : AFunc := ⟨25, [.tmp 2],
 (.seq (.reg [⟨(some 2), .mov (.k (.int .i64 0)), none⟩])
 (.seq (.seq (.reg [⟨(some 3), .mov (.t 0), none⟩,
 ⟨(some 4), .bin .geq (.t 3) (.k (.int .u64 4294967296)), none⟩])
 (.cond (.t 4) (.seq (.reg [⟨(some 5), .mov (.t 0), none⟩,
 ⟨(some 6), .bin .shr (.t 5) (.k (.int .u64 32)), none⟩,
 ⟨(some 0), .mov (.t 6), none⟩])
 (.reg [⟨(some 2), .mov (.k (.int .i64 32)), none⟩]))
 .skip))
 (.seq (.seq (.reg [⟨(some 7), .mov (.t 0), none⟩,
 ⟨(some 8), .bin .geq (.t 7) (.k (.int .u64 65536)), none⟩])
 (.cond (.t 8) (.seq (.reg [⟨(some 9), .mov (.t 0), none⟩,
 ⟨(some 10), .bin .shr (.t 9) (.k (.int .u64 16)), none⟩,
 ⟨(some 0), .mov (.t 10), none⟩])
 (.reg [⟨(some 11), .mov (.t 2), none⟩,
 ⟨(some 12), .bin .add (.t 11) (.k (.int .i64 16)), none⟩,
 ⟨(some 2), .mov (.t 12), none⟩]))
 .skip))
 (.seq (.seq (.reg [⟨(some 13), .mov (.t 0), none⟩,
 ⟨(some 14), .bin .geq (.t 13) (.k (.int .u64 256)), none⟩])
 (.cond (.t 14) (.seq (.reg [⟨(some 15), .mov (.t 0), none⟩,
 ⟨(some 16), .bin .shr (.t 15) (.k (.int .u64 8)), none⟩,
 ⟨(some 0), .mov (.t 16), none⟩])
 (.reg [⟨(some 17), .mov (.t 2), none⟩,
 ⟨(some 18), .bin .add (.t 17) (.k (.int .i64 8)), none⟩,
 ⟨(some 2), .mov (.t 18), none⟩]))
 .skip))
 (.seq (.reg [⟨(some 19), .mov (.t 2), none⟩,
 ⟨(some 20), .mov (.t 0), none⟩,
 ⟨(some 21), .convInt .u8 (.t 20), none⟩,
 ⟨(some 22), .indexStr (.k (.str [0, 1, 2, 2, 3, 3, 3, 3, 4, 4, 4, 4, 4, 4, 4, 4, 5, 5, 5, 5, 5, 5, 5, 5, 5, 5, 5, 5, 5, 5, 5, 5, 6, 6, 6, 6, 6, 6, 6, 6, 6, 6, 6, 6, 6, 6, 6, 6, 6, 6, 6, 6, 6, 6, 6, 6, 6, 6, 6, 6, 6, 6, 6, 6, 7, 7, 7, 7, 7, 7, 7, 7, 7, 7, 7, 7, 7, 7, 7, 7, 7, 7, 7, 7, 7, 7, 7, 7, 7, 7, 7, 7, 7, 7, 7, 7, 7, 7, 7, 7, 7, 7, 7, 7, 7, 7, 7, 7, 7, 7, 7, 7, 7, 7, 7, 7, 7, 7, 7, 7, 7, 7, 7, 7, 7, 7, 7, 7, 8, 8, 8, 8, 8, 8, 8, 8, 8, 8, 8, 8, 8, 8, 8, 8, 8, 8, 8, 8, 8, 8, 8, 8, 8, 8, 8, 8, 8, 8, 8, 8, 8, 8, 8, 8, 8, 8, 8, 8, 8, 8, 8, 8, 8, 8, 8, 8, 8, 8, 8, 8, 8, 8, 8, 8, 8, 8, 8, 8, 8, 8, 8, 8, 8, 8, 8, 8, 8, 8, 8, 8, 8, 8, 8, 8, 8, 8, 8, 8, 8, 8, 8, 8, 8, 8, 8, 8, 8, 8, 8, 8, 8, 8, 8, 8, 8, 8, 8, 8, 8, 8, 8, 8, 8, 8, 8, 8, 8, 8, 8, 8, 8, 8, 8, 8, 8, 8, 8, 8, 8, 8, 8, 8, 8, 8, 8, 8])) (.t 21), none⟩,
 ⟨(some 23), .convInt .i64 (.t 22), none⟩,
 ⟨(some 24), .bin .add (.t 19) (.t 23), none⟩,
 ⟨(some 2), .mov (.t 24), none⟩])
 .ret))))),
 [], false⟩

def a53 : AFunc := ⟨4, [.tmp 2],
 (.seq (.reg [⟨(some 2), .mov (.k (.int .i64 0)), none⟩])
 (.seq (.seq (.reg [⟨(some 3), .mov (.t 0), none⟩])
 (.cond (.t 3) (.seq (.reg [⟨(some 2), .mov (.k (.int .i64 1)), none⟩])
 .ret)
 .skip))
 (.seq (.reg [⟨(some 2), .mov (.k (.int .i64 0)), none⟩])
 .ret))),
 [], false⟩

def a54 : AFunc := ⟨8, [.tmp 2],
 (.seq (.reg [⟨(some 2), .mov (.k (.bool false)), none⟩])
 (.seq (.reg [⟨(some 3), .mov (.t 0), none⟩,
 ⟨(some 4), .mov (.t 0), none⟩,
 ⟨(some 5), .bin .sub (.t 4) (.k (.int .i64 1)), none⟩,
 ⟨(some 6), .bin .and (.t 3) (.t 5), none⟩,
 ⟨(some 7), .bin .eql (.t 6) (.k (.int .i64 0)), none⟩,
 ⟨(some 2), .mov (.t 7), none⟩])
 .ret)),
 [], false⟩

def a55 : AFunc := ⟨8, [.tmp 2],
 (.seq (.reg [⟨(some 2), .mov (.k (.int .i64 0)), none⟩])
 (.seq (.cond (.k (.bool false)) (.seq (.reg [⟨(some 3), .mov (.t 0), none⟩,
 ⟨(some 4), .convInt .u32 (.t 3), none⟩,
 ⟨(some 5), .call (.k (.func (.func 60) [] [])) [(.t 4)], none⟩,
 ⟨(some 2), .mov (.t 5), none⟩])
 .ret)
 .skip)
 (.seq (.reg [⟨(some 6), .mov (.t 0), none⟩,
 ⟨(some 7), .call (.k (.func (.func 61) [] [])) [(.t 6)], none⟩,
 ⟨(some 2), .mov (.t 7), none⟩])
 .ret))),
 [], false⟩

def a56_0 : ACode := (.seq (.seq (.reg [⟨(some 5), .mov (.t 0), none⟩,
 ⟨(some 6), .lenStr (.t 5), none⟩,
 ⟨(some 7), .bin .gtr (.t 6) (.k (.int .i64 0)), none⟩,
 ⟨(some 8), .mov (.t 7), none⟩,
 ⟨(some 9), .mov (.t 0), some (8, true)⟩,
 ⟨(some 10), .mov (.t 0), some (8, true)⟩,
 ⟨(some 11), .lenStr (.t 10), some (8, true)⟩,
 ⟨(some 12), .bin .sub (.t 11) (.k (.int .i64 1)), some (8, true)⟩,
 ⟨(some 13), .indexStr (.t 9) (.t 12), some (8, true)⟩,
 ⟨(some 14), .mov (.t 1), some (8, true)⟩,
 ⟨(some 15), .bin .eql (.t 13) (.t 14), some (8, true)⟩,
 ⟨(some 16), .pick (.t 8) (.t 15) (.k (.bool false)), none⟩])
 (.cond (.t 16) .skip
 (.exit 0)))
 (.block 1 (.reg [⟨(some 17), .mov (.t 0), none⟩,
 ⟨(some 18), .mov (.t 0), none⟩,
 ⟨(some 19), .lenStr (.t 18), none⟩,
 ⟨(some 20), .bin .sub (.t 19) (.k (.int .i64 1)), none⟩,
 ⟨(some 21), .sliceStr (.t 17) none (some (.t 20)), none⟩,
 ⟨(some 0), .mov (.t 21), none⟩])))

def a56 : AFunc := ⟨23, [.tmp 4],
 (.seq (.reg [⟨(some 4), .mov (.k (.str [])), none⟩])
 (.seq (.block 0 (.loop a56_0))
 (.seq (.reg [⟨(some 22), .mov (.t 0), none⟩,
 ⟨(some 4), .mov (.t 22), none⟩])
 .ret))),
 [], false⟩

def a57_0 : ACode := (.seq (.seq (.reg [⟨(some 6), .mov (.t 4), none⟩,
 ⟨(some 7), .mov (.t 0), none⟩,
 ⟨(some 8), .lenStr (.t 7), none⟩,
 ⟨(some 9), .bin .lss (.t 6) (.t 8), none⟩])
 (.cond (.t 9) .skip
 (.exit 0)))
 (.seq (.block 1 (.seq (.reg [⟨(some 12), .mov (.t 0), none⟩,
 ⟨(some 13), .mov (.t 4), none⟩,
 ⟨(some 14), .indexStr (.t 12) (.t 13), none⟩,
 ⟨(some 5), .mov (.t 14), none⟩])
 (.seq (.seq (.reg [⟨(some 15), .mov (.t 5), none⟩,
 ⟨(some 16), .bin .geq (.t 15) (.k (.int .u8 128)), none⟩])
 (.cond (.t 16) (.seq (.reg [⟨(some 17), .load 256 true (.t 2), none⟩,
 ⟨none, .store 256 (.t 2) (.t 17), none⟩,
 ⟨(some 3), .mov (.k (.bool false)), none⟩])
 .ret)
 .skip))
 (.reg [⟨(some 18), .mov (.t 5), none⟩,
 ⟨(some 19), .indexAddr 1 false (some 256) (.t 2) (.t 18), none⟩,
 ⟨none, .store 1 (.t 19) (.k (.bool true)), none⟩]))))
 (.reg [⟨(some 10), .mov (.t 4), none⟩,
 ⟨(some 11), .bin .add (.t 10) (.k (.int .i64 1)), none⟩,
 ⟨(some 4), .mov (.t 11), none⟩])))

def a57 : AFunc := ⟨21, [.cell 2 256 true, .tmp 3],
 (.seq (.reg [⟨(some 2), .new (.agg [(.bool false), (.bool false), (.bool false), (.bool false), (.bool false), (.bool false), (.bool false), (.bool false), (.bool false), (.bool false), (.bool false), (.bool false), (.bool false), (.bool false), (.bool false), (.bool false), (.bool false), (.bool false), (.bool false), (.bool false), (.bool false), (.bool false), (.bool false), (.bool false), (.bool false), (.bool false), (.bool false), (.bool false), (.bool false), (.bool false), (.bool false), (.bool false), (.bool false), (.bool false), (.bool false), (.bool false), (.bool false), (.bool false), (.bool false), (.bool false), (.bool false), (.bool false), (.bool false), (.bool false), (.bool false), (.bool false), (.bool false), (.bool false), (.bool false), (.bool false), (.bool false), (.bool false), (.bool false), (.bool false), (.bool false), (.bool false), (.bool false), (.bool false), (.bool false), (.bool false), (.bool false), (.bool false), (.bool false), (.bool false), (.bool false), (.bool false), (.bool false), (.bool false), (.bool false), (.bool false), (.bool false), (.bool false), (.bool false), (.bool false), (.bool false), (.bool false), (.bool false), (.bool false), (.bool false), (.bool false), (.bool false), (.bool false), (.bool false), (.bool false), (.bool false), (.bool false), (.bool false), (.bool false), (.bool false), (.bool false), (.bool false), (.bool false), (.bool false), (.bool false), (.bool false), (.bool false), (.bool false), (.bool false), (.bool false), (.bool false), (.bool false), (.bool false), (.bool false), (.bool false), (.bool false), (.bool false), (.bool false), (.bool false), (.bool false), (.bool false), (.bool false), (.bool false), (.bool false), (.bool false), (.bool false), (.bool false), (.bool false), (.bool false), (.bool false), (.bool false), (.bool false), (.bool false), (.bool false), (.bool false), (.bool false), (.bool false), (.bool false), (.bool false), (.bool false), (.bool false), (.bool false), (.bool false), (.bool false), (.bool false), (.bool false), (.bool false), (.bool false), (.bool false), (.bool false), (.bool false), (.bool false), (.bool false), (.bool false), (.bool false), (.bool false), (.bool false), (.bool false), (.bool false), (.bool false), (.bool false), (.bool false), (.bool false), (.bool false), (.bool false), (.bool false), (.bool false), (.bool false), (.bool false), (.bool false), (.bool false), (.bool false), (.bool false), (.bool false), (.bool false), (.bool false), (.bool false), (.bool false), (.bool false), (.bool false), (.bool false), (.bool false), (.bool false), (.bool false), (.bool false), (.bool false), (.bool false), (.bool false), (.bool false), (.bool false), (.bool false), (.bool false), (.bool false), (.bool false), (.bool false), (.bool false), (.bool false), (.bool false), (.bool false), (.bool false), (.bool false), (.bool false), (.bool false), (.bool false), (.bool false), (.bool false), (.bool false), (.bool false), (.bool false), (.bool false), (.bool false), (.bool false), (.bool false), (.bool false), (.bool false), (.bool false), (.bool false), (.bool false), (.bool false), (.bool false), (.bool false), (.bool false), (.bool false), (.bool false), (.bool false), (.bool false), (.bool false), (.bool false), (.bool false), (.bool false), (.bool false), (.bool false), (.bool false), (.bool false), (.bool false), (.bool false), (.bool false), (.bool false), (.bool false), (.bool false), (.bool false), (.bool false), (.bool false), (.bool false), (.bool false), (.bool false), (.bool false), (.bool false), (.bool false), (.bool false), (.bool false), (.bool false), (.bool false), (.bool false), (.bool false), (.bool false), (.bool false), (.bool false), (.bool false), (.bool false), (.bool false), (.bool false), (.bool false), (.bool false), (.bool false), (.bool false), (.bool false)]) true none, none⟩,
 ⟨(some 3), .mov (.k (.bool false)), none⟩])
 (.seq (.seq (.reg [⟨(some 4), .mov (.k (.int .i64 0)), none⟩])
 (.block 0 (.loop a57_0)))
 (.seq (.reg [⟨(some 20), .load 256 true (.t 2), none⟩,
 ⟨none, .store 256 (.t 2) (.t 20), none⟩,
 ⟨(some 3), .mov (.k (.bool true)), none⟩])
 .ret))),
 [], false⟩

def a58_0 : ACode := (.seq (.seq (.reg [⟨(some 5), .mov (.t 0), none⟩,
 ⟨(some 6), .lenStr (.t 5), none⟩,
 ⟨(some 7), .bin .gtr (.t 6) (.k (.int .i64 0)), none⟩])
 (.cond (.t 7) .skip
 (.exit 0)))
 (.block 1 (.seq (.seq (.reg [⟨(some 8), .mov (.t 1), none⟩,
 ⟨(some 9), .mov (.t 0), none⟩,
 ⟨(some 10), .mov (.t 0), none⟩,
 ⟨(some 11), .lenStr (.t 10), none⟩,
 ⟨(some 12), .bin .sub (.t 11) (.k (.int .i64 1)), none⟩,
 ⟨(some 13), .indexStr (.t 9) (.t 12), none⟩,
 ⟨(some 14), .call (.k (.func (.func 62) [] [])) [(.t 8), (.t 13)], none⟩,
 ⟨(some 15), .un .not (.t 14), none⟩])
 (.cond (.t 15) (.exit 0)
 .skip))
 (.reg [⟨(some 16), .mov (.t 0), none⟩,
 ⟨(some 17), .mov (.t 0), none⟩,
 ⟨(some 18), .lenStr (.t 17), none⟩,
 ⟨(some 19), .bin .sub (.t 18) (.k (.int .i64 1)), none⟩,
 ⟨(some 20), .sliceStr (.t 16) none (some (.t 19)), none⟩,
 ⟨(some 0), .mov (.t 20), none⟩]))))

def a58 : AFunc := ⟨22, [.tmp 4],
 (.seq (.reg [⟨(some 4), .mov (.k (.str [])), none⟩])
 (.seq (.block 0 (.loop a58_0))
 (.seq (.reg [⟨(some 21), .mov (.t 0), none⟩,
 ⟨(some 4), .mov (.t 21), none⟩])
 .ret))),
 [], true⟩

def a59_0 : ACode := (.seq (.seq (.reg [⟨(some 7), .mov (.t 0), none⟩,
 ⟨(some 8), .lenStr (.t 7), none⟩,
 ⟨(some 9), .bin .gtr (.t 8) (.k (.int .i64 0)), none⟩])
 (.cond (.t 9) .skip
 (.exit 0)))
 (.block 1 (.seq (.reg [⟨(some 10), .mov (.t 0), none⟩,
 ⟨(some 11), .mov (.t 0), none⟩,
 ⟨(some 12), .lenStr (.t 11), none⟩,
 ⟨(some 13), .bin .sub (.t 12) (.k (.int .i64 1)), none⟩,
 ⟨(some 14), .indexStr (.t 10) (.t 13), none⟩,
 ⟨(some 15), .convInt .i32 (.t 14), none⟩,
 ⟨(some 5), .mov (.t 15), none⟩,
 ⟨(some 6), .mov (.k (.int .i64 1)), none⟩])
 (.seq (.seq (.reg [⟨(some 16), .mov (.t 5), none⟩,
 ⟨(some 17), .bin .geq (.t 16) (.k (.int .i32 128)), none⟩])
 (.cond (.t 17) (.reg [⟨(some 19), .mov (.t 0), none⟩,
 ⟨(some 20), .call (.k (.func (.func 63) [] [])) [(.t 19)], none⟩,
 ⟨(some 18), .mov (.t 20), none⟩,
 ⟨(some 21), .extract (.t 18) 0, none⟩,
 ⟨(some 22), .extract (.t 18) 1, none⟩,
 ⟨(some 5), .mov (.t 21), none⟩,
 ⟨(some 6), .mov (.t 22), none⟩])
 .skip))
 (.seq (.seq (.reg [⟨(some 23), .mov (.t 1), none⟩,
 ⟨(some 24), .mov (.t 5), none⟩,
 ⟨(some 25), .call (.k (.func (.func 64) [] [])) [(.t 23), (.t 24)], none⟩,
 ⟨(some 26), .un .not (.t 25), none⟩])
 (.cond (.t 26) (.exit 0)
 .skip))
 (.reg [⟨(some 27), .mov (.t 0), none⟩,
 ⟨(some 28), .mov (.t 0), none⟩,
 ⟨(some 29), .lenStr (.t 28), none⟩,
 ⟨(some 30), .mov (.t 6), none⟩,
 ⟨(some 31), .bin .sub (.t 29) (.t 30), none⟩,
 ⟨(some 32), .sliceStr (.t 27) none (some (.t 31)), none⟩,
 ⟨(some 0), .mov (.t 32), none⟩]))))))

def a59 : AFunc := ⟨34, [.tmp 4],
 (.seq (.reg [⟨(some 4), .mov (.k (.str [])), none⟩])
 (.seq (.block 0 (.loop a59_0))
 (.seq (.reg [⟨(some 33), .mov (.t 0), none⟩,
 ⟨(some 4), .mov (.t 33), none⟩])
 .ret))),
 [], false⟩

def a62 : AFunc := ⟨10, [.tmp 4],
 (.seq (.reg [⟨(some 4), .mov (.k (.bool false)), none⟩])
 (.seq (.reg [⟨(some 5), .mov (.t 0), none⟩,
 ⟨(some 6), .mov (.t 1), none⟩,
 ⟨(some 7), .nilCheck (.t 5), none⟩,
 ⟨(some 8), .indexAddr 1 false (some 256) (.t 7) (.t 6), none⟩,
 ⟨(some 9), .load 1 false (.t 8), none⟩,
 ⟨(some 4), .mov (.t 9), none⟩])
 .ret)),
 [], true⟩

def a63_0 : ACode := (.seq (.seq (.reg [⟨(some 25), .mov (.t 5), none⟩,
 ⟨(some 26), .mov (.t 6), none⟩,
 ⟨(some 27), .bin .geq (.t 25) (.t 26), none⟩])
 (.cond (.t 27) .skip
 (.exit 0)))
 (.seq (.block 1 (.seq (.reg [⟨(some 30), .mov (.t 0), none⟩,
 ⟨(some 31), .mov (.t 5), none⟩,
 ⟨(some 32), .indexStr (.t 30) (.t 31), none⟩,
 ⟨(some 33), .call (.k (.func (.func 65) [] [])) [(.t 32)], none⟩])
 (.cond (.t 33) (.exit 0)
 .skip)))
 (.reg [⟨(some 28), .mov (.t 5), none⟩,
 ⟨(some 29), .bin .sub (.t 28) (.k (.int .i64 1)), none⟩,
 ⟨(some 5), .mov (.t 29), none⟩])))

def a63 : AFunc := ⟨51, [.tmp 2, .tmp 3],
 (.seq (.reg [⟨(some 2), .mov (.k (.int .i32 0)), none⟩,
 ⟨(some 3), .mov (.k (.int .i64 0)), none⟩])
 (.seq (.reg [⟨(some 7), .mov (.t 0), none⟩,
 ⟨(some 8), .lenStr (.t 7), none⟩,
 ⟨(some 4), .mov (.t 8), none⟩])
 (.seq (.seq (.reg [⟨(some 9), .mov (.t 4), none⟩,
 ⟨(some 10), .bin .eql (.t 9) (.k (.int .i64 0)), none⟩])
 (.cond (.t 10) (.seq (.reg [⟨(some 2), .mov (.k (.int .i32 65533)), none⟩,
 ⟨(some 3), .mov (.k (.int .i64 0)), none⟩])
 .ret)
 .skip))
 (.seq (.reg [⟨(some 11), .mov (.t 4), none⟩,
 ⟨(some 12), .bin .sub (.t 11) (.k (.int .i64 1)), none⟩,
 ⟨(some 5), .mov (.t 12), none⟩])
 (.seq (.reg [⟨(some 13), .mov (.t 0), none⟩,
 ⟨(some 14), .mov (.t 5), none⟩,
 ⟨(some 15), .indexStr (.t 13) (.t 14), none⟩,
 ⟨(some 16), .convInt .i32 (.t 15), none⟩,
 ⟨(some 2), .mov (.t 16), none⟩])
 (.seq (.seq (.reg [⟨(some 17), .mov (.t 2), none⟩,
 ⟨(some 18), .bin .lss (.t 17) (.k (.int .i32 128)), none⟩])
 (.cond (.t 18) (.seq (.reg [⟨(some 19), .mov (.t 2), none⟩,
 ⟨(some 2), .mov (.t 19), none⟩,
 ⟨(some 3), .mov (.k (.int .i64 1)), none⟩])
 .ret)
 .skip))
 (.seq (.reg [⟨(some 20), .mov (.t 4), none⟩,
 ⟨(some 21), .bin .sub (.t 20) (.k (.int .i64 4)), none⟩,
 ⟨(some 22), .minmax true [(.t 21), (.k (.int .i64 0))], none⟩,
 ⟨(some 6), .mov (.t 22), none⟩])
 (.seq (.seq (.reg [⟨(some 23), .mov (.t 5), none⟩,
 ⟨(some 24), .bin .sub (.t 23) (.k (.int .i64 1)), none⟩,
 ⟨(some 5), .mov (.t 24), none⟩])
 (.block 0 (.loop a63_0)))
 (.seq (.seq (.reg [⟨(some 34), .mov (.t 5), none⟩,
 ⟨(some 35), .bin .lss (.t 34) (.k (.int .i64 0)), none⟩])
 (.cond (.t 35) (.reg [⟨(some 5), .mov (.k (.int .i64 0)), none⟩])
 .skip))
 (.seq (.reg [⟨(some 37), .mov (.t 0), none⟩,
 ⟨(some 38), .mov (.t 5), none⟩,
 ⟨(some 39), .mov (.t 4), none⟩,
 ⟨(some 40), .sliceStr (.t 37) (some (.t 38)) (some (.t 39)), none⟩,
 ⟨(some 41), .call (.k (.func (.func 66) [] [])) [(.t 40)], none⟩,
 ⟨(some 36), .mov (.t 41), none⟩,
 ⟨(some 42), .extract (.t 36) 0, none⟩,
 ⟨(some 43), .extract (.t 36) 1, none⟩,
 ⟨(some 2), .mov (.t 42), none⟩,
 ⟨(some 3), .mov (.t 43), none⟩])
 (.seq (.seq (.reg [⟨(some 44), .mov (.t 5), none⟩,
 ⟨(some 45), .mov (.t 3), none⟩,
 ⟨(some 46), .bin .add (.t 44) (.t 45), none⟩,
 ⟨(some 47), .mov (.t 4), none⟩,
 ⟨(some 48), .bin .neq (.t 46) (.t 47), none⟩])
 (.cond (.t 48) (.seq (.reg [⟨(some 2), .mov (.k (.int .i32 65533)), none⟩,
 ⟨(some 3), .mov (.k (.int .i64 1)), none⟩])
 .ret)
 .skip))
 (.seq (.reg [⟨(some 49), .mov (.t 2), none⟩,
 ⟨(some 50), .mov (.t 3), none⟩,
 ⟨(some 2), .mov (.t 49), none⟩,
 ⟨(some 3), .mov (.t 50), none⟩])
 .ret)))))))))))),
 [], false⟩

def a64 : AFunc := ⟨9, [.tmp 4],
 (.seq (.reg [⟨(some 4), .mov (.k (.bool false)), none⟩])
 (.seq (.reg [⟨(some 5), .mov (.t 0), none⟩,
 ⟨(some 6), .mov (.t 1), none⟩,
 ⟨(some 7), .call (.k (.func (.func 67) [] [])) [(.t 5), (.t 6)], none⟩,
 ⟨(some 8), .bin .geq (.t 7) (.k (.int .i64 0)), none⟩,
 ⟨(some 4), .mov (.t 8), none⟩])
 .ret)),
 [], false⟩

def a65 : AFunc := ⟨6, [.tmp 2],
 (.seq (.reg [⟨(some 2), .mov (.k (.bool false)), none⟩])
 (.seq (.reg [⟨(some 3), .mov (.t 0), none⟩,
 ⟨(some 4), .bin .and (.t 3) (.k (.int .u8 192)), none⟩,
 ⟨(some 5), .bin .neq (.t 4) (.k (.int .u8 128)), none⟩,
 ⟨(some 2), .mov (.t 5), none⟩])
 .ret)),
 [], false⟩

def a66 : AFunc := ⟨19, [.tmp 2, .tmp 3],
 (.seq (.reg [⟨(some 2), .mov (.k (.int .i32 0)), none⟩,
 ⟨(some 3), .mov (.k (.int .i64 0)), none⟩])
 (.seq (.seq (.reg [⟨(some 4), .mov (.t 0), none⟩,
 ⟨(some 5), .bin .neq (.t 4) (.k (.str [])), none⟩,
 ⟨(some 6), .mov (.t 5), none⟩,
 ⟨(some 7), .mov (.t 0), some (6, true)⟩,
 ⟨(some 8), .indexStr (.t 7) (.k (.int .i64 0)), some (6, true)⟩,
 ⟨(some 9), .bin .lss (.t 8) (.k (.int .u8 128)), some (6, true)⟩,
 ⟨(some 10), .pick (.t 6) (.t 9) (.k (.bool false)), none⟩])
 (.cond (.t 10) (.seq (.reg [⟨(some 11), .mov (.t 0), none⟩,
 ⟨(some 12), .indexStr (.t 11) (.k (.int .i64 0)), none⟩,
 ⟨(some 13), .convInt .i32 (.t 12), none⟩,
 ⟨(some 2), .mov (.t 13), none⟩,
 ⟨(some 3), .mov (.k (.int .i64 1)), none⟩])
 .ret)
 (.reg [⟨(some 15), .mov (.t 0), none⟩,
 ⟨(some 16), .call (.k (.func (.func 68) [] [])) [(.t 15)], none⟩,
 ⟨(some 14), .mov (.t 16), none⟩,
 ⟨(some 17), .extract (.t 14) 0, none⟩,
 ⟨(some 18), .extract (.t 14) 1, none⟩,
 ⟨(some 2), .mov (.t 17), none⟩,
 ⟨(some 3), .mov (.t 18), none⟩])))
 .ret)),
 [], false⟩

def a69 : AFunc := ⟨8, [.tmp 4],
 (.seq (.reg [⟨(some 4), .mov (.k (.int .i64 0)), none⟩])
 (.seq (.reg [⟨(some 5), .mov (.t 0), none⟩,
 ⟨(some 6), .mov (.t 1), none⟩,
 ⟨(some 7), .call (.k (.func (.func 73) [] [])) [(.t 5), (.t 6)], none⟩,
 ⟨(some 4), .mov (.t 7), none⟩])
 .ret)),
 [], false⟩

def a70 : AFunc := ⟨17, [.tmp 2],
 (.seq (.reg [⟨(some 2), .mov (.k (.bool false)), none⟩])
 (.seq (.block 0 (.seq (.reg [⟨(some 4), .mov (.t 0), none⟩,
 ⟨(some 5), .bin .leq (.k (.int .i32 0)) (.t 4), none⟩,
 ⟨(some 6), .mov (.t 5), none⟩,
 ⟨(some 7), .mov (.t 0), some (6, true)⟩,
 ⟨(some 8), .bin .lss (.t 7) (.k (.int .i32 55296)), some (6, true)⟩,
 ⟨(some 9), .pick (.t 6) (.t 8) (.k (.bool false)), none⟩,
 ⟨(some 3), .mov (.t 9), none⟩])
 (.cond (.t 3) (.seq (.reg [⟨(some 2), .mov (.k (.bool true)), none⟩])
 .ret)
 (.seq (.reg [⟨(some 11), .mov (.t 0), none⟩,
 ⟨(some 12), .bin .lss (.k (.int .i32 57343)) (.t 11), none⟩,
 ⟨(some 13), .mov (.t 12), none⟩,
 ⟨(some 14), .mov (.t 0), some (13, true)⟩,
 ⟨(some 15), .bin .leq (.t 14) (.k (.int .i32 1114111)), some (13, true)⟩,
 ⟨(some 16), .pick (.t 13) (.t 15) (.k (.bool false)), none⟩,
 ⟨(some 10), .mov (.t 16), none⟩])
 (.cond (.t 10) (.seq (.reg [⟨(some 2), .mov (.k (.bool true)), none⟩])
 .ret)
 .skip)))))
 (.seq (.reg [⟨(some 2), .mov (.k (.bool false)), none⟩])
 .ret))),
 [], false⟩

def a71 : AFunc := ⟨6, [.tmp 2],
 (.seq (.reg [⟨(some 2), .mov (.k (.int .i64 0)), none⟩])
 (.seq (.reg [⟨(some 3), .mov (.t 0), none⟩,
 ⟨(some 4), .bin .add (.t 3) (.k (.int .i64 16)), none⟩,
 ⟨(some 5), .bin .quo (.t 4) (.k (.int .i64 8)), none⟩,
 ⟨(some 2), .mov (.t 5), none⟩])
 .ret)),
 [], false⟩

def a73 : AFunc := ⟨8, [.tmp 4],
 (.seq (.reg [⟨(some 4), .mov (.k (.int .i64 0)), none⟩])
 (.seq (.reg [⟨(some 5), .mov (.t 0), none⟩,
 ⟨(some 6), .mov (.t 1), none⟩,
 ⟨(some 7), .call (.k (.func (.func 74) [] [])) [(.t 5), (.t 6)], none⟩,
 ⟨(some 4), .mov (.t 7), none⟩])
 .ret)),
 [], false⟩


def tab : List (Nat × AFunc) := [(3, a3), (4, a4), (5, a5), (6, a6), (7, a7), (8, a8), (9, a9), (10, a10), (11, a11), (12, a12), (13, a13), (14, a14), (15, a15), (16, a16), (17, a17), (18, a18), (19, a19), (22, a22), (23, a23), (24, a24), (25, a25), (26, a26), (28, a28), (29, a29), (30, a30), (32, a32), (33, a33), (34, a34), (36, a36), (38, a38), (39, a39), (41, a41), (42, a42), (44, a44), (46, a46), (47, a47), (48, a48), (51, a51), (52, a52), (53, a53), (54, a54), (55, a55), (56, a56), (57, a57), (58, a58), (59, a59), (62, a62), (63, a63), (64, a64), (65, a65), (66, a66), (69, a69), (70, a70), (71, a71), (73, a73)]
def gl : List (Nat × AV) := []
def prims : List (Nat × (List AV → St → Option (AOut × St))) := [(27, copyA 48), (21, stringA 48 5), (31, pureP joinA), (20, pureP itoaA), (40, pureP fmtUintA), (49, pureP trimRightA)]
def A : AProg := ⟨fun f => (tab.find? fun e => e.1 == f).map (·.2), fun f => (prims.find? fun e => e.1 == f).map (·.2)⟩
set_option maxRecDepth 100000 in
theorem tabFits : (tab.all fun e => funcFits Tryd.prog gl e.1 e.2) = true := by kernel_rfl
theorem fits : ∀ f F, A.fn f = some F → funcFits Tryd.prog gl f F = true := by
  intro f F h
  simp only [A, Option.map_eq_some_iff] at h
  obtain ⟨e, he, rfl⟩ := h
  have h1 := List.mem_of_find?_eq_some he
  have h2 := List.find?_some he
  have := List.all_eq_true.1 tabFits e h1
  rw [beq_iff_eq] at h2
  rwa [h2] at this
end Go.Proofs.YtfkmdajlpnkebaaDoor

namespace Go.Proofs.YtfkmdajlpnkebaaDoor
open Go Ai
set_option maxRecDepth 1000000 in
theorem alive_run : (match runA A 300 (.seqc 7 []) [] with | some ⟨.ret, fr, st⟩ => AV.beqs fr.env [.bool true] && st.isEmpty && fr.defs.isEmpty | _ => false) = true := by kernel_rfl
end Go.Proofs.YtfkmdajlpnkebaaDoor

