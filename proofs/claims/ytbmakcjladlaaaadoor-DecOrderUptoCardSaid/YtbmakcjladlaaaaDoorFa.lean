/- Chapter 02: the library's contracts at this dump; the abstract code; the example. No condition. -/
import Derived.Shelf.Strings.Builder1
import Derived.Shelf.Strings.OnBuilder
import Derived.Shelf.Strconv.Itoa3
import Derived.Shelf.Strings.Trim
import Derived.Shelf.Strings.Search2
import Derived.Test.YtbmakcjladlaaaaDoorChecked
import Derived.Test.YtbmakcjladlaaaaDoorEg
import Derived.Lib.Walk
import Derived.Lib.ItoaMem
import Derived.WalkKit
import Derived.BigCall
import Derived.BigGuard
import Derived.KernelRfl
set_option linter.unusedVariables false
set_option linter.unusedSimpArgs false
namespace Go.Proofs
open Go.Shelf
def Tryd.lays156_ren : Go.Shelf.Ren := ⟨fun | 156 => 25 | 165 => 39 | 166 => 40 | 169 => 41 | 240 => 56 | 241 => 57 | 276 => 73 | 277 => 74 | n => n, fun | 31 => 45 | 9 => 9 | 3 => 3 | 4 => 4 | 0 => 0 | 20 => 20 | 72 => 69 | 76 => 71 | 70 => 67 | 37 => 37 | 75 => 48 | 127 => 87 | 164 => 96 | 5 => 5 | 80 => 73 | n => n, fun | n => n⟩
theorem Tryd.lays156 : Go.Proofs.Lays.n156 Tryd.prog Tryd.lays156_ren := {
  mixed := by kernel_rfl
  f156 := Tryd.func25.trans (congrArg some (by kernel_rfl))
  f165 := Tryd.func39.trans (congrArg some (by kernel_rfl))
  f166 := Tryd.func40.trans (congrArg some (by kernel_rfl))
  f169 := Tryd.func41.trans (congrArg some (by kernel_rfl))
  f240 := Tryd.func56.trans (congrArg some (by kernel_rfl))
  f241 := Tryd.func57.trans (congrArg some (by kernel_rfl))
  f276 := Tryd.func73.trans (congrArg some (by kernel_rfl))
  f277 := Tryd.func74.trans (congrArg some (by kernel_rfl))
  t0 := Tryd.underlying0
  a0 := Tryd.isAgg0
  z0 := Tryd.sizeOf0
  v0 := Tryd.zeroValue0
  t3 := Tryd.underlying3
  a3 := Tryd.isAgg3
  z3 := Tryd.sizeOf3
  v3 := Tryd.zeroValue3
  t4 := Tryd.underlying4
  a4 := Tryd.isAgg4
  z4 := Tryd.sizeOf4
  v4 := Tryd.zeroValue4
  t9 := Tryd.underlying9
  a9 := Tryd.isAgg9
  z9 := Tryd.sizeOf9
  v9 := Tryd.zeroValue9
  t20 := Tryd.underlying20
  a20 := Tryd.isAgg20
  z20 := Tryd.sizeOf20
  v20 := Tryd.zeroValue20
  t31 := Tryd.underlying45
  a31 := Tryd.isAgg45
  z31 := Tryd.sizeOf45
  v31 := Tryd.zeroValue45
  t37 := Tryd.underlying37
  a37 := Tryd.isAgg37
  z37 := Tryd.sizeOf37
  v37 := Tryd.zeroValue37
  t70 := Tryd.underlying67
  a70 := Tryd.isAgg67
  z70 := Tryd.sizeOf67
  v70 := Tryd.zeroValue67
  t72 := Tryd.underlying69
  a72 := Tryd.isAgg69
  z72 := Tryd.sizeOf69
  v72 := Tryd.zeroValue69
  t75 := Tryd.underlying48
  a75 := Tryd.isAgg48
  z75 := Tryd.sizeOf48
  v75 := Tryd.zeroValue48
  t76 := Tryd.underlying71
  a76 := Tryd.isAgg71
  z76 := Tryd.sizeOf71
  v76 := Tryd.zeroValue71
  t127 := Tryd.underlying87
  a127 := Tryd.isAgg87
  z127 := Tryd.sizeOf87
  v127 := Tryd.zeroValue87
  t164 := Tryd.underlying96
  a164 := Tryd.isAgg96
  z164 := Tryd.sizeOf96
  v164 := Tryd.zeroValue96 }
theorem Tryd.bx156 : Builder.Extra Tryd.prog Tryd.lays156_ren := {
  sizeBuilder := by kernel_rfl
  liesBuilder := by kernel_rfl
  t5 := Tryd.underlying5
  a5 := Tryd.isAgg5
  z5 := Tryd.sizeOf5
  v5 := Tryd.zeroValue5
  infoByte := by kernel_rfl
  cellsByte := by kernel_rfl
  sizeByte := by kernel_rfl
  neB5 := by decide }
def Tryd.lays283_ren : Go.Shelf.Ren := ⟨fun | 283 => 31 | n => n, fun | 3 => 3 | 9 => 9 | 4 => 4 | n => n, fun | n => n⟩
theorem Tryd.lays283 : Go.Proofs.Lays.n283 Tryd.prog Tryd.lays283_ren := {
  mixed := by kernel_rfl
  f283 := Tryd.func31.trans (congrArg some (by kernel_rfl))
  t3 := Tryd.underlying3
  a3 := Tryd.isAgg3
  z3 := Tryd.sizeOf3
  v3 := Tryd.zeroValue3
  t4 := Tryd.underlying4
  a4 := Tryd.isAgg4
  z4 := Tryd.sizeOf4
  v4 := Tryd.zeroValue4
  t9 := Tryd.underlying9
  a9 := Tryd.isAgg9
  z9 := Tryd.sizeOf9
  v9 := Tryd.zeroValue9 }
def Tryd.lays284_ren : Go.Shelf.Ren := ⟨fun | 284 => 32 | 129 => 49 | 317 => 48 | 318 => 50 | n => n, fun | 53 => 31 | 3 => 3 | 212 => 78 | 0 => 0 | 4 => 4 | 46 => 35 | 5 => 5 | 9 => 9 | n => n, fun | 17 => 0 | n => n⟩
theorem Tryd.lays284 : Go.Proofs.LaysM.n284 Tryd.prog Tryd.lays284_ren := {
  mixed := by kernel_rfl
  f129 := Tryd.func49.trans (congrArg some (by kernel_rfl))
  f284 := Tryd.func32.trans (congrArg some (by kernel_rfl))
  f317 := Tryd.func48.trans (congrArg some (by kernel_rfl))
  f318 := Tryd.func50.trans (congrArg some (by kernel_rfl))
  t0 := Tryd.underlying0
  a0 := Tryd.isAgg0
  z0 := Tryd.sizeOf0
  v0 := Tryd.zeroValue0
  t3 := Tryd.underlying3
  a3 := Tryd.isAgg3
  z3 := Tryd.sizeOf3
  v3 := Tryd.zeroValue3
  t4 := Tryd.underlying4
  a4 := Tryd.isAgg4
  z4 := Tryd.sizeOf4
  v4 := Tryd.zeroValue4
  t5 := Tryd.underlying5
  a5 := Tryd.isAgg5
  z5 := Tryd.sizeOf5
  v5 := Tryd.zeroValue5
  t9 := Tryd.underlying9
  a9 := Tryd.isAgg9
  z9 := Tryd.sizeOf9
  v9 := Tryd.zeroValue9
  t46 := Tryd.underlying35
  a46 := Tryd.isAgg35
  z46 := Tryd.sizeOf35
  v46 := Tryd.zeroValue35
  t53 := Tryd.underlying31
  a53 := Tryd.isAgg31
  z53 := Tryd.sizeOf31
  v53 := Tryd.zeroValue31
  t212 := Tryd.underlying78
  a212 := Tryd.isAgg78
  z212 := Tryd.sizeOf78
  v212 := Tryd.zeroValue78
  g17 := by kernel_rfl
  i0 := by kernel_rfl
  i3 := by kernel_rfl
  i4 := by kernel_rfl
  i5 := by kernel_rfl
  i9 := by kernel_rfl
  i46 := by kernel_rfl
  i53 := by kernel_rfl
  i212 := by kernel_rfl
  m17 := by kernel_rfl }
def Tryd.lays285_ren : Go.Shelf.Ren := ⟨fun | 285 => 33 | n => n, fun | 37 => 37 | 53 => 31 | 3 => 3 | 4 => 4 | 51 => 79 | 9 => 9 | 5 => 5 | 0 => 0 | n => n, fun | n => n⟩
theorem Tryd.lays285 : Go.Proofs.Lays.n285 Tryd.prog Tryd.lays285_ren := {
  mixed := by kernel_rfl
  f285 := Tryd.func33.trans (congrArg some (by kernel_rfl))
  t0 := Tryd.underlying0
  a0 := Tryd.isAgg0
  z0 := Tryd.sizeOf0
  v0 := Tryd.zeroValue0
  t3 := Tryd.underlying3
  a3 := Tryd.isAgg3
  z3 := Tryd.sizeOf3
  v3 := Tryd.zeroValue3
  t4 := Tryd.underlying4
  a4 := Tryd.isAgg4
  z4 := Tryd.sizeOf4
  v4 := Tryd.zeroValue4
  t5 := Tryd.underlying5
  a5 := Tryd.isAgg5
  z5 := Tryd.sizeOf5
  v5 := Tryd.zeroValue5
  t9 := Tryd.underlying9
  a9 := Tryd.isAgg9
  z9 := Tryd.sizeOf9
  v9 := Tryd.zeroValue9
  t37 := Tryd.underlying37
  a37 := Tryd.isAgg37
  z37 := Tryd.sizeOf37
  v37 := Tryd.zeroValue37
  t51 := Tryd.underlying79
  a51 := Tryd.isAgg79
  z51 := Tryd.sizeOf79
  v51 := Tryd.zeroValue79
  t53 := Tryd.underlying31
  a53 := Tryd.isAgg31
  z53 := Tryd.sizeOf31
  v53 := Tryd.zeroValue31 }
def Tryd.lays162_ren : Go.Shelf.Ren := ⟨fun | 162 => 24 | 232 => 35 | 227 => 36 | 234 => 37 | 236 => 38 | 228 => 53 | 271 => 54 | 151 => 55 | 120 => 70 | 197 => 71 | 152 => 72 | 260 => 82 | 137 => 83 | 119 => 84 | 224 => 80 | 225 => 79 | 217 => 78 | 266 => 86 | n => n, fun | 9 => 9 | 4 => 4 | 3 => 3 | 5 => 5 | 117 => 63 | 116 => 62 | 0 => 0 | 124 => 66 | 21 => 21 | 105 => 84 | 46 => 35 | 119 => 112 | 139 => 115 | 138 => 114 | n => n, fun | 3 => 6 | 4 => 7 | n => n⟩
theorem Tryd.lays162 : Go.Proofs.Lays.n162 Tryd.prog Tryd.lays162_ren := {
  mixed := by kernel_rfl
  f119 := Tryd.func84.trans (congrArg some (by kernel_rfl))
  f120 := Tryd.func70.trans (congrArg some (by kernel_rfl))
  f137 := Tryd.func83.trans (congrArg some (by kernel_rfl))
  f151 := Tryd.func55.trans (congrArg some (by kernel_rfl))
  f152 := Tryd.func72.trans (congrArg some (by kernel_rfl))
  f162 := Tryd.func24.trans (congrArg some (by kernel_rfl))
  f197 := Tryd.func71.trans (congrArg some (by kernel_rfl))
  f217 := Tryd.func78.trans (congrArg some (by kernel_rfl))
  f224 := Tryd.func80.trans (congrArg some (by kernel_rfl))
  f225 := Tryd.func79.trans (congrArg some (by kernel_rfl))
  f227 := Tryd.func36.trans (congrArg some (by kernel_rfl))
  f228 := Tryd.func53.trans (congrArg some (by kernel_rfl))
  f232 := Tryd.func35.trans (congrArg some (by kernel_rfl))
  f234 := Tryd.func37.trans (congrArg some (by kernel_rfl))
  f236 := Tryd.func38.trans (congrArg some (by kernel_rfl))
  f260 := Tryd.func82.trans (congrArg some (by kernel_rfl))
  f266 := Tryd.func86.trans (congrArg some (by kernel_rfl))
  f271 := Tryd.func54.trans (congrArg some (by kernel_rfl))
  t0 := Tryd.underlying0
  a0 := Tryd.isAgg0
  z0 := Tryd.sizeOf0
  v0 := Tryd.zeroValue0
  t3 := Tryd.underlying3
  a3 := Tryd.isAgg3
  z3 := Tryd.sizeOf3
  v3 := Tryd.zeroValue3
  t4 := Tryd.underlying4
  a4 := Tryd.isAgg4
  z4 := Tryd.sizeOf4
  v4 := Tryd.zeroValue4
  t5 := Tryd.underlying5
  a5 := Tryd.isAgg5
  z5 := Tryd.sizeOf5
  v5 := Tryd.zeroValue5
  t9 := Tryd.underlying9
  a9 := Tryd.isAgg9
  z9 := Tryd.sizeOf9
  v9 := Tryd.zeroValue9
  t21 := Tryd.underlying21
  a21 := Tryd.isAgg21
  z21 := Tryd.sizeOf21
  v21 := Tryd.zeroValue21
  t46 := Tryd.underlying35
  a46 := Tryd.isAgg35
  z46 := Tryd.sizeOf35
  v46 := Tryd.zeroValue35
  t105 := Tryd.underlying84
  a105 := Tryd.isAgg84
  z105 := Tryd.sizeOf84
  v105 := Tryd.zeroValue84
  t116 := Tryd.underlying62
  a116 := Tryd.isAgg62
  z116 := Tryd.sizeOf62
  t117 := Tryd.underlying63
  a117 := Tryd.isAgg63
  z117 := Tryd.sizeOf63
  v117 := Tryd.zeroValue63
  t119 := Tryd.underlying112
  a119 := Tryd.isAgg112
  z119 := Tryd.sizeOf112
  t124 := Tryd.underlying66
  a124 := Tryd.isAgg66
  z124 := Tryd.sizeOf66
  v124 := Tryd.zeroValue66
  t138 := Tryd.underlying114
  a138 := Tryd.isAgg114
  z138 := Tryd.sizeOf114
  v138 := Tryd.zeroValue114
  t139 := Tryd.underlying115
  a139 := Tryd.isAgg115
  z139 := Tryd.sizeOf115
  v139 := Tryd.zeroValue115
  g3 := by kernel_rfl
  g4 := by kernel_rfl }
def Tryd.lays219_ren : Go.Shelf.Ren := ⟨fun | 219 => 64 | 217 => 78 | 225 => 79 | 224 => 80 | 267 => 81 | 266 => 86 | 314 => 87 | n => n, fun | 9 => 9 | 3 => 3 | 4 => 4 | 5 => 5 | 46 => 35 | 146 => 110 | 51 => 79 | n => n, fun | 1 => 3 | n => n⟩
theorem Tryd.lays219 : Go.Proofs.Lays.n219 Tryd.prog Tryd.lays219_ren := {
  mixed := by kernel_rfl
  f217 := Tryd.func78.trans (congrArg some (by kernel_rfl))
  f219 := Tryd.func64.trans (congrArg some (by kernel_rfl))
  f224 := Tryd.func80.trans (congrArg some (by kernel_rfl))
  f225 := Tryd.func79.trans (congrArg some (by kernel_rfl))
  f266 := Tryd.func86.trans (congrArg some (by kernel_rfl))
  f267 := Tryd.func81.trans (congrArg some (by kernel_rfl))
  f314 := Tryd.func87.trans (congrArg some (by kernel_rfl))
  t3 := Tryd.underlying3
  a3 := Tryd.isAgg3
  z3 := Tryd.sizeOf3
  v3 := Tryd.zeroValue3
  t4 := Tryd.underlying4
  a4 := Tryd.isAgg4
  z4 := Tryd.sizeOf4
  v4 := Tryd.zeroValue4
  t5 := Tryd.underlying5
  a5 := Tryd.isAgg5
  z5 := Tryd.sizeOf5
  v5 := Tryd.zeroValue5
  t9 := Tryd.underlying9
  a9 := Tryd.isAgg9
  z9 := Tryd.sizeOf9
  v9 := Tryd.zeroValue9
  t46 := Tryd.underlying35
  a46 := Tryd.isAgg35
  z46 := Tryd.sizeOf35
  v46 := Tryd.zeroValue35
  t51 := Tryd.underlying79
  a51 := Tryd.isAgg79
  z51 := Tryd.sizeOf79
  v51 := Tryd.zeroValue79
  t146 := Tryd.underlying110
  a146 := Tryd.isAgg110
  z146 := Tryd.sizeOf110
  v146 := Tryd.zeroValue110
  g1 := by kernel_rfl }
end Go.Proofs

namespace Go.Proofs.YtbmakcjladlaaaaDoor
open Go Go.Shelf Go.RowKit Go.Sort Go.Lib

theorem enters31 : ∀ args w, (callFunc 31 args).run Tryd.prog w = .ok (.enter 31 args) w := enters_of Tryd.func31 (by kernel_rfl) rfl
theorem enters32 : ∀ args w, (callFunc 32 args).run Tryd.prog w = .ok (.enter 32 args) w := enters_of Tryd.func32 (by kernel_rfl) rfl
theorem enters33 : ∀ args w, (callFunc 33 args).run Tryd.prog w = .ok (.enter 33 args) w := enters_of Tryd.func33 (by kernel_rfl) rfl
theorem enters23 : ∀ args w, (callFunc 23 args).run Tryd.prog w = .ok (.enter 23 args) w := enters_of Tryd.func23 (by kernel_rfl) rfl

set_option maxHeartbeats 6400000 in
set_option maxRecDepth 100000 in
theorem formatUint23 (u : Nat) (hu64 : u < 18446744073709551616) (w : World) (htab : Lib.TabIs Tryd.prog w "internal/strconv.uint64pow10" .u64 Lib.pow10Tab) :
    Calls Tryd.prog 23 #[.int .u64 u, .int .i64 10] w fun e w' => e = .returned (.string ⟨(Lib.decDigits u).toArray⟩) ∧ ∃ k os, w' = grow (w.drewN k) os := by
  by_cases hs : u < 100
  · have hc : IntKind.i64.wrap (u : Int) = (u : Int) := by
      simp [IntKind.wrap, IntKind.signed, IntKind.bits]; split <;> omega
    have e44 := enters31
    have hsm := Any.internal_strconv_small (P := Tryd.prog) (ρ := Tryd.lays283_ren) Tryd.lays283 u hs
    go_enter Tryd.func23, Tryd.ntmps23
    go_wp2_with (go_at_fn 31; refine (hsm _).mono ?_; rintro e w' ⟨rfl, rfl⟩)
    go_ret
    exact ⟨rfl, 0, #[], by simp [World.drewN_zero]⟩
  · have hu1 : 1 ≤ u := by omega
    have hnd20 : Lib.nDigits u ≤ 20 := by have := Lib.numDigits_eq u hu1 hu64; split at this <;> omega
    have hb3 : Lib.nDigits u ≤ 24 := by omega
    have hal : Tryd.prog.arrayLen 55 = 24 := by kernel_rfl
    have hsl : ∀ W, (Instr.sliceAt 55 (.pointer (some ⟨w.heap.size, 0, none⟩)) none (some (.int .i64 (Lib.nDigits u : Int))) none).run Tryd.prog W = .ok (.slice (some ⟨w.heap.size, 0, none⟩) (Lib.nDigits u) 24) W := fun W => by
      rw [run_sliceAt_array_h W 55 ⟨w.heap.size, 0, none⟩ (by kernel_rfl) .i64 (Lib.nDigits u : Int) (by omega) (by rw [hal]; omega)]
      go_simp
    have hH0 := Lib.holds_zero0 w 55 (Lib.nDigits u) (by omega)
    have hfmt := Any.internal_strconv_formatBase10 (P := Tryd.prog) (ρ := Tryd.lays285_ren) Tryd.lays285 w.heap.size 0 24 u (Array.replicate (Lib.nDigits u) 0) (w.alloc (.cells Lib.zeros24 55)) hH0 (by rw [Array.size_replicate]; exact Lib.lt_pow_nDigits u) hu64 (by rw [Array.size_replicate]; omega)
    rw [Array.size_replicate] at hfmt
    have HH0 := Lib.hid hH0
    clear hH0 hal
    have hnd := Any.internal_strconv_numDigits (P := Tryd.prog) (ρ := Tryd.lays284_ren) Tryd.lays284 u hu1 hu64
    have e45 := enters32
    have e46 := enters33
    go_enter Tryd.func23, Tryd.ntmps23
    go_wp2_with (first
      | (go_at_fn 32; refine (hnd _ (Lib.tabIs_alloc htab _)).mono ?_; rintro e w' ⟨rfl, rfl⟩))
    go_at_fn 33
    refine hfmt.mono ?_
    rintro e w' ⟨rfl, k, v', dk, rfl, hF⟩
    have hcv : (convert 37 9 (.slice (some ⟨w.heap.size, 0, none⟩) (Lib.nDigits u) 24)).run Tryd.prog ((putRow (fun (b : UInt8) => Value.int .u8 (b.toNat : Int)) (w.alloc (.cells Lib.zeros24 55)) w.heap.size 0 dk).drewN k) = .ok (.string ⟨(Lib.decDigits u).toArray⟩) ((putRow (fun (b : UInt8) => Value.int .u8 (b.toNat : Int)) (w.alloc (.cells Lib.zeros24 55)) w.heap.size 0 dk).drewN k) := by
      have h := run_convert_bytes_back (P := Tryd.prog) ((putRow (fun (b : UInt8) => Value.int .u8 (b.toNat : Int)) (w.alloc (.cells Lib.zeros24 55)) w.heap.size 0 dk).drewN k) 37 9 5 ⟨w.heap.size, 0, none⟩ 24 (Lib.decDigits u) Tryd.underlying37 Tryd.underlying5 Tryd.underlying9 (fun j hj => by
        rw [Lib.row_is_numeral hF j hj, Lib.add_plain, World.cell?_drewN]
        exact cell?_putRow (fun (b : UInt8) => Value.int .u8 (b.toNat : Int)) _ w.heap.size 0 _ dk HH0.out (by rw [hF.size, Array.size_replicate]) j (by rw [hF.size]; rw [Lib.decDigits_length] at hj; exact hj))
      rw [Lib.decDigits_length] at h
      exact h
    go_wp2
    go_ret
    obtain ⟨os, eo⟩ := Lib.fin_at w (.cells Lib.zeros24 55) dk k 0
    exact ⟨rfl, k, os, eo⟩

set_option maxRecDepth 100000 in
theorem formatUint17 (u : Nat) (hu64 : u < 18446744073709551616) (w : World) (htab : Lib.TabIs Tryd.prog w "internal/strconv.uint64pow10" .u64 Lib.pow10Tab) :
    Calls Tryd.prog 17 #[.int .u64 u, .int .i64 10] w fun e w' => e = .returned (.string ⟨(Lib.decDigits u).toArray⟩) ∧ ∃ k os, w' = grow (w.drewN k) os := by
  have e48 := enters23
  have h48 := formatUint23 u hu64
  go_enter Tryd.func17, Tryd.ntmps17
  go_wp2_with (go_at_fn 23; refine (h48 _ htab).mono ?_; rintro e w' ⟨rfl, k, os, rfl⟩)
  go_ret
  exact ⟨rfl, k, os, rfl⟩

theorem enters17 : ∀ args w, (callFunc 17 args).run Tryd.prog w = .ok (.enter 17 args) w := enters_of Tryd.func17 (by kernel_rfl) rfl
open Ai

/-- The digits, by so many steps. -/
def decF : Nat → Nat → List UInt8
  | 0, _ => []
  | n + 1, u => if u < 10 then [UInt8.ofNat (48 + u)] else decF n (u / 10) ++ [UInt8.ofNat (48 + u % 10)]
theorem decF_eq : ∀ (n u : Nat), u < 10 ^ n → 0 < n → decF n u = Lib.decDigits u
  | n + 1, u, h, _ => by
    rw [decF, Lib.decDigits]
    split
    · rfl
    · congr 1
      cases n with
      | zero => simp at h; omega
      | succ n =>
        refine decF_eq (n + 1) (u / 10) ?_ (by omega)
        rw [Nat.pow_succ] at h
        exact Nat.div_lt_of_lt_mul (by rw [Nat.mul_comm]; exact h)
def fmtUintA : List AV → Option AV
  | [.int .u64 n, .int .i64 b] => if 0 ≤ n ∧ n < 18446744073709551616 ∧ b = 10 then some (.str (decF 20 n.toNat)) else none
  | _ => none

theorem fmtUint17 {gl : List (Nat × AV)} {B : World → Prop} (hB : ∀ w, B w → Lib.TabIs Tryd.prog w pow10Name .u64 Lib.pow10Tab) : PureOk Tryd.prog gl B 17 fmtUintA := by
  intro avs v hv K J base st w args hS hG hR
  unfold fmtUintA at hv
  split at hv
  · rename_i n b
    split at hv
    · rename_i hn
      cases hv
      obtain ⟨h0, h1, rfl⟩ := hn
      obtain ⟨u, rfl⟩ : ∃ u : Nat, n = u := ⟨n.toNat, by omega⟩
      simp only [Reps, Rep] at hR
      obtain ⟨y, ys, e1, rfl, y2, ys2, e2, rfl, rfl⟩ := hR
      subst e2
      obtain rfl : args = #[.int .u64 u, .int .i64 10] := by apply Array.toList_inj.1; simpa using e1
      have hu : u < 18446744073709551616 := by omega
      refine ⟨enters17 _ _, (formatUint17 u hu w (tab_of_sim hS (hB _ hG.2))).mono fun e w' ⟨h1, k, os, h2⟩ => ⟨_, h1, by simp only [Rep]; exact ⟨_, rfl, by simp [decF_eq 20 u (by omega) (by omega)]⟩, ?_⟩⟩
      subst h2
      exact Kept.of_below (Lib.below_grow _ w (Nat.le_refl _) k os)
    · cases hv
  · cases hv
end Go.Proofs.YtbmakcjladlaaaaDoor

namespace Go.Proofs.YtbmakcjladlaaaaDoor
open Go Go.Shelf Ai

def indexOneA : List AV → Option AV
  | [.str s, .str [c]] => some (.int .i64 (Lib.indexByte s c))
  | _ => none
theorem index_ok {P : Program} {gl : List (Nat × AV)} {B : World → Prop} {f : FuncId} (he : ∀ args w, (callFunc f args).run P w = .ok (.enter f args) w)
    (C : ∀ (s : ByteArray) (c : UInt8) (w : World), Calls P f #[.string s, .string ⟨#[c]⟩] w fun e w' => e = .returned (.int .i64 (Lib.indexByte s.data.toList c)) ∧ w' = w) :
    PureOk P gl B f indexOneA := by
  intro avs v hv K J base st w args hS hG hR
  unfold indexOneA at hv
  split at hv
  · rename_i s c
    cases hv
    simp only [Reps, Rep] at hR
    obtain ⟨y, ys, e1, ⟨ba, rfl, hba⟩, y2, ys2, e2, ⟨bc, rfl, hbc⟩, rfl⟩ := hR
    subst e2
    obtain rfl : args = #[.string ba, .string bc] := by apply Array.toList_inj.1; simpa using e1
    obtain rfl : bc = ⟨#[c]⟩ := by
      cases bc with
      | mk d => simp only at hbc; congr 1; apply Array.toList_inj.1; simpa using hbc
    refine ⟨he _ _, (C ba c w).mono fun e w' ⟨h1, h2⟩ => ⟨_, h1, ?_, h2 ▸ Kept.refl w⟩⟩
    simp only [Rep]; rw [hba]
  · cases hv

theorem enters25 : ∀ args w, (callFunc 25 args).run Tryd.prog w = .ok (.enter 25 args) w := enters_of Tryd.func25 (by kernel_rfl) rfl
theorem enters24 : ∀ args w, (callFunc 24 args).run Tryd.prog w = .ok (.enter 24 args) w := enters_of Tryd.func24 (by kernel_rfl) rfl
theorem enters64 : ∀ args w, (callFunc 64 args).run Tryd.prog w = .ok (.enter 64 args) w := enters_of Tryd.func64 (by kernel_rfl) rfl
theorem join25 {gl : List (Nat × AV)} {B : World → Prop} : PureOk Tryd.prog gl B 25 joinA :=
  join_ok enters25 (fun a c sep w => Any.strings_Join_none (P := Tryd.prog) (ρ := Tryd.lays156_ren) Tryd.lays156 Tryd.bx156 a c sep w)
    (fun bk o c xs sep w h1 h2 h3 h4 h5 => Any.strings_Join (P := Tryd.prog) (ρ := Tryd.lays156_ren) Tryd.lays156 Tryd.bx156 bk o c xs sep w h1 h2 h3 h4 h5)
theorem trim24 {gl : List (Nat × AV)} {B : World → Prop} : PureOk Tryd.prog gl B 24 trimRightA :=
  trimRight_ok enters24 (fun s c w h1 h2 => Any.strings_TrimRight_one (P := Tryd.prog) (ρ := Tryd.lays162_ren) Tryd.lays162 s c h1 w h2)
theorem index64 {gl : List (Nat × AV)} {B : World → Prop} : PureOk Tryd.prog gl B 64 indexOneA :=
  index_ok enters64 (fun s c w => Any.stringslite_Index_one (P := Tryd.prog) (ρ := Tryd.lays219_ren) Tryd.lays219 s c w)
end Go.Proofs.YtbmakcjladlaaaaDoor

namespace Go.Proofs.YtbmakcjladlaaaaDoor
open Go Ai

def a2 : AFunc := ⟨1, [],
 (.reg [⟨(some 0), .call (.k (.func (.func 1) [] [])) [], none⟩]),
 [], false⟩

def a3 : AFunc := ⟨14, [.tmp 4],
 (.seq (.reg [⟨(some 4), .mov (.k (.bool false)), none⟩])
 (.seq (.seq (.reg [⟨(some 5), .call (.k (.func (.func 8) [] [])) [], none⟩,
 ⟨(some 6), .un .not (.t 5), none⟩])
 (.cond (.t 6) (.seq (.reg [⟨(some 4), .mov (.k (.bool false)), none⟩])
 .ret)
 .skip))
 (.seq (.reg [⟨(some 7), .mov (.t 0), none⟩,
 ⟨(some 8), .mov (.t 1), none⟩,
 ⟨(some 9), .call (.k (.func (.func 9) [] [])) [(.t 7), (.t 8)], none⟩,
 ⟨(some 10), .mov (.t 0), none⟩,
 ⟨(some 11), .mov (.t 1), none⟩,
 ⟨(some 12), .call (.k (.func (.func 10) [] [])) [(.t 10), (.t 11)], none⟩,
 ⟨(some 13), .bin .eql (.t 9) (.t 12), none⟩,
 ⟨(some 4), .mov (.t 13), none⟩])
 .ret))),
 [], false⟩

def a4 : AFunc := ⟨33, [.tmp 4],
 (.seq (.reg [⟨(some 4), .mov (.k (.bool false)), none⟩])
 (.seq (.seq (.reg [⟨(some 7), .call (.k (.func (.func 8) [] [])) [], none⟩,
 ⟨(some 8), .un .not (.t 7), none⟩])
 (.cond (.t 8) (.seq (.reg [⟨(some 4), .mov (.k (.bool false)), none⟩])
 .ret)
 .skip))
 (.seq (.reg [⟨(some 9), .mov (.t 0), none⟩,
 ⟨(some 10), .call (.k (.func (.func 11) [] [])) [(.t 9)], none⟩,
 ⟨(some 11), .mov (.t 0), none⟩,
 ⟨(some 12), .mov (.t 1), none⟩,
 ⟨(some 13), .call (.k (.func (.func 9) [] [])) [(.t 11), (.t 12)], none⟩,
 ⟨(some 5), .mov (.t 10), none⟩,
 ⟨(some 6), .mov (.t 13), none⟩])
 (.seq (.reg [⟨(some 14), .mov (.t 6), none⟩,
 ⟨(some 15), .lenStr (.t 14), none⟩,
 ⟨(some 16), .mov (.t 5), none⟩,
 ⟨(some 17), .lenStr (.t 16), none⟩,
 ⟨(some 18), .bin .leq (.t 15) (.t 17), none⟩,
 ⟨(some 19), .mov (.t 18), none⟩,
 ⟨(some 20), .mov (.t 5), some (19, true)⟩,
 ⟨(some 21), .mov (.t 6), some (19, true)⟩,
 ⟨(some 22), .lenStr (.t 21), some (19, true)⟩,
 ⟨(some 23), .sliceStr (.t 20) none (some (.t 22)), some (19, true)⟩,
 ⟨(some 24), .mov (.t 6), some (19, true)⟩,
 ⟨(some 25), .bin .eql (.t 23) (.t 24), some (19, true)⟩,
 ⟨(some 26), .pick (.t 19) (.t 25) (.k (.bool false)), none⟩,
 ⟨(some 27), .mov (.t 26), none⟩,
 ⟨(some 28), .mov (.t 0), some (27, true)⟩,
 ⟨(some 29), .call (.k (.func (.func 9) [] [])) [(.t 28), (.k (.int .i64 32))], some (27, true)⟩,
 ⟨(some 30), .mov (.t 5), some (27, true)⟩,
 ⟨(some 31), .bin .eql (.t 29) (.t 30), some (27, true)⟩,
 ⟨(some 32), .pick (.t 27) (.t 31) (.k (.bool false)), none⟩,
 ⟨(some 4), .mov (.t 32), none⟩])
 .ret)))),
 [], false⟩

def a5_0 : ACode := (.seq (.seq (.reg [⟨(some 37), .mov (.t 5), none⟩,
 ⟨(some 38), .mov (.t 0), none⟩,
 ⟨(some 39), .lenStr (.t 38), none⟩,
 ⟨(some 40), .bin .lss (.t 37) (.t 39), none⟩])
 (.cond (.t 40) .skip
 (.exit 0)))
 (.seq (.block 1 (.seq (.plan [⟨0, ⟨(some 43), .mov (.t 0), none⟩, []⟩,
 ⟨1, ⟨(some 44), .mov (.t 5), none⟩, []⟩,
 ⟨2, ⟨(some 45), .indexStr (.t 43) (.t 44), none⟩, []⟩,
 ⟨3, ⟨(some 46), .bin .eql (.t 45) (.k (.int .u8 46)), none⟩, []⟩,
 ⟨4, ⟨(some 47), .mov (.t 1), none⟩, []⟩,
 ⟨5, ⟨(some 48), .mov (.t 5), none⟩, []⟩,
 ⟨6, ⟨(some 49), .indexStr (.t 47) (.t 48), none⟩, []⟩,
 ⟨7, ⟨(some 50), .bin .eql (.t 49) (.k (.int .u8 46)), none⟩, []⟩,
 ⟨8, ⟨(some 51), .eqBool true (.t 46) (.t 50), none⟩, []⟩])
 (.cond (.t 51) (.seq (.reg [⟨(some 4), .mov (.k (.bool true)), none⟩])
 .ret)
 .skip)))
 (.reg [⟨(some 41), .mov (.t 5), none⟩,
 ⟨(some 42), .bin .add (.t 41) (.k (.int .i64 1)), none⟩,
 ⟨(some 5), .mov (.t 42), none⟩])))

def a5 : AFunc := ⟨72, [.tmp 4],
 (.seq (.reg [⟨(some 4), .mov (.k (.bool false)), none⟩])
 (.seq (.seq (.reg [⟨(some 10), .call (.k (.func (.func 8) [] [])) [], none⟩,
 ⟨(some 11), .un .not (.t 10), none⟩])
 (.cond (.t 11) (.seq (.reg [⟨(some 4), .mov (.k (.bool false)), none⟩])
 .ret)
 .skip))
 (.seq (.seq (.reg [⟨(some 12), .mov (.t 0), none⟩,
 ⟨(some 13), .lenStr (.t 12), none⟩,
 ⟨(some 14), .bin .gtr (.t 13) (.k (.int .i64 100)), none⟩,
 ⟨(some 15), .mov (.t 14), none⟩,
 ⟨(some 16), .mov (.t 0), some (15, false)⟩,
 ⟨(some 17), .lenStr (.t 16), some (15, false)⟩,
 ⟨(some 18), .mov (.t 1), some (15, false)⟩,
 ⟨(some 19), .lenStr (.t 18), some (15, false)⟩,
 ⟨(some 20), .bin .neq (.t 17) (.t 19), some (15, false)⟩,
 ⟨(some 21), .pick (.t 15) (.k (.bool true)) (.t 20), none⟩,
 ⟨(some 22), .mov (.t 21), none⟩,
 ⟨(some 23), .mov (.t 0), some (22, false)⟩,
 ⟨(some 24), .call (.k (.func (.func 12) [] [])) [(.t 23)], some (22, false)⟩,
 ⟨(some 25), .un .not (.t 24), some (22, false)⟩,
 ⟨(some 26), .pick (.t 22) (.k (.bool true)) (.t 25), none⟩,
 ⟨(some 27), .mov (.t 26), none⟩,
 ⟨(some 28), .mov (.t 1), some (27, false)⟩,
 ⟨(some 29), .call (.k (.func (.func 12) [] [])) [(.t 28)], some (27, false)⟩,
 ⟨(some 30), .un .not (.t 29), some (27, false)⟩,
 ⟨(some 31), .pick (.t 27) (.k (.bool true)) (.t 30), none⟩,
 ⟨(some 32), .mov (.t 31), none⟩,
 ⟨(some 33), .mov (.t 0), some (32, false)⟩,
 ⟨(some 34), .mov (.t 1), some (32, false)⟩,
 ⟨(some 35), .bin .gtr (.t 33) (.t 34), some (32, false)⟩,
 ⟨(some 36), .pick (.t 32) (.k (.bool true)) (.t 35), none⟩])
 (.cond (.t 36) (.seq (.reg [⟨(some 4), .mov (.k (.bool true)), none⟩])
 .ret)
 .skip))
 (.seq (.seq (.reg [⟨(some 5), .mov (.k (.int .i64 0)), none⟩])
 (.block 0 (.loop a5_0)))
 (.seq (.reg [⟨(some 53), .mov (.t 0), none⟩,
 ⟨(some 54), .call (.k (.func (.func 13) [] [])) [(.t 53)], none⟩,
 ⟨(some 52), .mov (.t 54), none⟩,
 ⟨(some 55), .extract (.t 52) 0, none⟩,
 ⟨(some 56), .extract (.t 52) 1, none⟩,
 ⟨(some 6), .mov (.t 55), none⟩,
 ⟨(some 7), .mov (.t 56), none⟩])
 (.seq (.reg [⟨(some 58), .mov (.t 1), none⟩,
 ⟨(some 59), .call (.k (.func (.func 13) [] [])) [(.t 58)], none⟩,
 ⟨(some 57), .mov (.t 59), none⟩,
 ⟨(some 60), .extract (.t 57) 0, none⟩,
 ⟨(some 61), .extract (.t 57) 1, none⟩,
 ⟨(some 8), .mov (.t 60), none⟩,
 ⟨(some 9), .mov (.t 61), none⟩])
 (.seq (.reg [⟨(some 62), .mov (.t 9), none⟩,
 ⟨(some 63), .un .not (.t 62), none⟩,
 ⟨(some 64), .mov (.t 63), none⟩,
 ⟨(some 65), .mov (.t 7), some (64, false)⟩,
 ⟨(some 66), .mov (.t 65), some (64, false)⟩,
 ⟨(some 67), .mov (.t 6), some (66, true)⟩,
 ⟨(some 68), .mov (.t 8), some (66, true)⟩,
 ⟨(some 69), .bin .leq (.t 67) (.t 68), some (66, true)⟩,
 ⟨(some 70), .pick (.t 66) (.t 69) (.k (.bool false)), some (64, false)⟩,
 ⟨(some 71), .pick (.t 64) (.k (.bool true)) (.t 70), none⟩,
 ⟨(some 4), .mov (.t 71), none⟩])
 .ret))))))),
 [], false⟩

def a6 : AFunc := ⟨43, [.tmp 2],
 (.seq (.reg [⟨(some 2), .mov (.k (.bool false)), none⟩])
 (.seq (.seq (.reg [⟨(some 9), .call (.k (.func (.func 8) [] [])) [], none⟩,
 ⟨(some 10), .un .not (.t 9), none⟩])
 (.cond (.t 10) (.seq (.reg [⟨(some 2), .mov (.k (.bool false)), none⟩])
 .ret)
 .skip))
 (.seq (.seq (.reg [⟨(some 11), .mov (.t 0), none⟩,
 ⟨(some 12), .lenStr (.t 11), none⟩,
 ⟨(some 13), .bin .gtr (.t 12) (.k (.int .i64 100)), none⟩])
 (.cond (.t 13) (.seq (.reg [⟨(some 2), .mov (.k (.bool true)), none⟩])
 .ret)
 .skip))
 (.seq (.reg [⟨(some 15), .mov (.t 0), none⟩,
 ⟨(some 16), .call (.k (.func (.func 13) [] [])) [(.t 15)], none⟩,
 ⟨(some 14), .mov (.t 16), none⟩,
 ⟨(some 17), .extract (.t 14) 0, none⟩,
 ⟨(some 18), .extract (.t 14) 1, none⟩,
 ⟨(some 3), .mov (.t 17), none⟩,
 ⟨(some 4), .mov (.t 18), none⟩])
 (.seq (.reg [⟨(some 20), .mov (.t 0), none⟩,
 ⟨(some 21), .bin .add (.k (.str [45])) (.t 20), none⟩,
 ⟨(some 22), .call (.k (.func (.func 14) [] [])) [(.t 21)], none⟩,
 ⟨(some 19), .mov (.t 22), none⟩,
 ⟨(some 23), .extract (.t 19) 0, none⟩,
 ⟨(some 24), .extract (.t 19) 1, none⟩,
 ⟨(some 5), .mov (.t 23), none⟩,
 ⟨(some 6), .mov (.t 24), none⟩])
 (.seq (.reg [⟨(some 26), .mov (.t 0), none⟩,
 ⟨(some 27), .bin .add (.k (.str [45, 45])) (.t 26), none⟩,
 ⟨(some 28), .call (.k (.func (.func 14) [] [])) [(.t 27)], none⟩,
 ⟨(some 25), .mov (.t 28), none⟩,
 ⟨(some 29), .extract (.t 25) 0, none⟩,
 ⟨(some 30), .extract (.t 25) 1, none⟩,
 ⟨(some 7), .mov (.t 29), none⟩,
 ⟨(some 8), .mov (.t 30), none⟩])
 (.seq (.seq (.reg [⟨(some 31), .mov (.t 8), none⟩])
 (.cond (.t 31) (.seq (.reg [⟨(some 2), .mov (.k (.bool false)), none⟩])
 .ret)
 .skip))
 (.seq (.reg [⟨(some 32), .mov (.t 4), none⟩,
 ⟨(some 33), .un .not (.t 32), none⟩,
 ⟨(some 34), .mov (.t 33), none⟩,
 ⟨(some 35), .mov (.t 6), some (34, false)⟩,
 ⟨(some 36), .mov (.t 35), some (34, false)⟩,
 ⟨(some 37), .mov (.t 5), some (36, true)⟩,
 ⟨(some 38), .mov (.t 3), some (36, true)⟩,
 ⟨(some 39), .un .neg (.t 38), some (36, true)⟩,
 ⟨(some 40), .bin .eql (.t 37) (.t 39), some (36, true)⟩,
 ⟨(some 41), .pick (.t 36) (.t 40) (.k (.bool false)), some (34, false)⟩,
 ⟨(some 42), .pick (.t 34) (.k (.bool true)) (.t 41), none⟩,
 ⟨(some 2), .mov (.t 42), none⟩])
 .ret)))))))),
 [], false⟩

def a7 : AFunc := ⟨34, [.tmp 2],
 (.seq (.reg [⟨(some 2), .mov (.k (.bool false)), none⟩])
 (.seq (.seq (.reg [⟨(some 6), .call (.k (.func (.func 8) [] [])) [], none⟩,
 ⟨(some 7), .un .not (.t 6), none⟩])
 (.cond (.t 7) (.seq (.reg [⟨(some 2), .mov (.k (.bool false)), none⟩])
 .ret)
 .skip))
 (.seq (.reg [⟨(some 8), .mov (.t 0), none⟩,
 ⟨(some 9), .call (.k (.func (.func 11) [] [])) [(.t 8)], none⟩,
 ⟨(some 3), .mov (.t 9), none⟩])
 (.seq (.reg [⟨(some 11), .mov (.t 3), none⟩,
 ⟨(some 12), .call (.k (.func (.func 14) [] [])) [(.t 11)], none⟩,
 ⟨(some 10), .mov (.t 12), none⟩,
 ⟨(some 13), .extract (.t 10) 0, none⟩,
 ⟨(some 14), .extract (.t 10) 1, none⟩,
 ⟨(some 4), .mov (.t 13), none⟩,
 ⟨(some 5), .mov (.t 14), none⟩])
 (.seq (.reg [⟨(some 15), .mov (.t 3), none⟩,
 ⟨(some 16), .mov (.t 0), none⟩,
 ⟨(some 17), .call (.k (.func (.func 10) [] [])) [(.t 16), (.k (.int .i64 32))], none⟩,
 ⟨(some 18), .bin .eql (.t 15) (.t 17), none⟩,
 ⟨(some 19), .mov (.t 18), none⟩,
 ⟨(some 20), .mov (.t 5), some (19, true)⟩,
 ⟨(some 21), .pick (.t 19) (.t 20) (.k (.bool false)), none⟩,
 ⟨(some 22), .mov (.t 21), none⟩,
 ⟨(some 23), .mov (.t 4), some (22, true)⟩,
 ⟨(some 24), .mov (.t 0), some (22, true)⟩,
 ⟨(some 25), .bin .eql (.t 23) (.t 24), some (22, true)⟩,
 ⟨(some 26), .pick (.t 22) (.t 25) (.k (.bool false)), none⟩,
 ⟨(some 27), .mov (.t 26), none⟩,
 ⟨(some 28), .mov (.t 3), some (27, true)⟩,
 ⟨(some 29), .call (.k (.func (.func 15) [] [])) [(.t 28)], some (27, true)⟩,
 ⟨(some 30), .mov (.t 0), some (27, true)⟩,
 ⟨(some 31), .bin .geq (.t 30) (.k (.int .i64 0)), some (27, true)⟩,
 ⟨(some 32), .eqBool false (.t 29) (.t 31), some (27, true)⟩,
 ⟨(some 33), .pick (.t 27) (.t 32) (.k (.bool false)), none⟩,
 ⟨(some 2), .mov (.t 33), none⟩])
 .ret))))),
 [], false⟩

def a8 : AFunc := ⟨17, [.tmp 0],
 (.seq (.reg [⟨(some 0), .mov (.k (.bool false)), none⟩])
 (.seq (.reg [⟨(some 4), .call (.k (.func (.func 13) [] [])) [(.k (.str [48, 46, 49]))], none⟩,
 ⟨(some 3), .mov (.t 4), none⟩,
 ⟨(some 5), .extract (.t 3) 0, none⟩,
 ⟨(some 6), .extract (.t 3) 1, none⟩,
 ⟨(some 1), .mov (.t 5), none⟩,
 ⟨(some 2), .mov (.t 6), none⟩])
 (.seq (.reg [⟨(some 7), .mov (.t 2), none⟩,
 ⟨(some 8), .mov (.t 7), none⟩,
 ⟨(some 9), .mov (.t 1), some (8, true)⟩,
 ⟨(some 10), .bin .eql (.t 9) (.k (.int .i64 429496729)), some (8, true)⟩,
 ⟨(some 11), .pick (.t 8) (.t 10) (.k (.bool false)), none⟩,
 ⟨(some 12), .mov (.t 11), none⟩,
 ⟨(some 13), .mov (.t 1), some (12, true)⟩,
 ⟨(some 14), .call (.k (.func (.func 11) [] [])) [(.t 13)], some (12, true)⟩,
 ⟨(some 15), .bin .eql (.t 14) (.k (.str [48, 46, 48, 57, 57, 57, 57, 57, 57, 57, 57, 56, 54, 48, 51, 48, 49, 54, 49, 51, 56, 48, 55, 54, 55, 56, 50, 50, 50, 54, 53, 54, 50, 53])), some (12, true)⟩,
 ⟨(some 16), .pick (.t 12) (.t 15) (.k (.bool false)), none⟩,
 ⟨(some 0), .mov (.t 16), none⟩])
 .ret))),
 [], false⟩

def a9 : AFunc := ⟨33, [.tmp 4],
 (.seq (.reg [⟨(some 4), .mov (.k (.str [])), none⟩])
 (.seq (.reg [⟨(some 10), .mov (.t 0), none⟩,
 ⟨(some 11), .call (.k (.func (.func 16) [] [])) [(.t 10)], none⟩,
 ⟨(some 9), .mov (.t 11), none⟩,
 ⟨(some 12), .extract (.t 9) 0, none⟩,
 ⟨(some 13), .extract (.t 9) 1, none⟩,
 ⟨(some 5), .mov (.t 12), none⟩,
 ⟨(some 6), .mov (.t 13), none⟩])
 (.seq (.reg [⟨(some 14), .mov (.t 6), none⟩,
 ⟨(some 15), .bin .shr (.t 14) (.k (.int .u64 32)), none⟩,
 ⟨(some 16), .call (.k (.func (.func 17) [] [])) [(.t 15), (.k (.int .i64 10))], none⟩,
 ⟨(some 17), .mov (.t 6), none⟩,
 ⟨(some 18), .mov (.t 1), none⟩,
 ⟨(some 19), .minmax false [(.t 18), (.k (.int .i64 32))], none⟩,
 ⟨(some 20), .minmax true [(.k (.int .i64 0)), (.t 19)], none⟩,
 ⟨(some 21), .call (.k (.func (.func 18) [] [])) [(.t 17), (.t 20)], none⟩,
 ⟨(some 7), .mov (.t 16), none⟩,
 ⟨(some 8), .mov (.t 21), none⟩])
 (.seq (.seq (.reg [⟨(some 22), .mov (.t 8), none⟩,
 ⟨(some 23), .bin .eql (.t 22) (.k (.str [])), none⟩])
 (.cond (.t 23) (.seq (.reg [⟨(some 24), .mov (.t 5), none⟩,
 ⟨(some 25), .mov (.t 7), none⟩,
 ⟨(some 26), .mkLit 1 [(.str []), (.str [])] [(0, 1, (.t 24)), (1, 1, (.t 25))] false, none⟩,
 ⟨(some 27), .call (.k (.func (.func 19) [] [])) [(.t 26)], none⟩,
 ⟨(some 4), .mov (.t 27), none⟩])
 .ret)
 .skip))
 (.seq (.reg [⟨(some 28), .mov (.t 5), none⟩,
 ⟨(some 29), .mov (.t 7), none⟩,
 ⟨(some 30), .mov (.t 8), none⟩,
 ⟨(some 31), .mkLit 1 [(.str []), (.str []), (.str []), (.str [])] [(0, 1, (.t 28)), (1, 1, (.t 29)), (2, 1, (.k (.str [46]))), (3, 1, (.t 30))] false, none⟩,
 ⟨(some 32), .call (.k (.func (.func 19) [] [])) [(.t 31)], none⟩,
 ⟨(some 4), .mov (.t 32), none⟩])
 .ret))))),
 [], false⟩

def a10_0 : ACode := (.seq (.seq (.reg [⟨(some 67), .mov (.t 10), none⟩,
 ⟨(some 68), .lenStr (.t 67), none⟩,
 ⟨(some 69), .bin .gtr (.t 68) (.k (.int .i64 0)), none⟩,
 ⟨(some 70), .mov (.t 69), none⟩,
 ⟨(some 71), .mov (.t 10), some (70, true)⟩,
 ⟨(some 72), .mov (.t 10), some (70, true)⟩,
 ⟨(some 73), .lenStr (.t 72), some (70, true)⟩,
 ⟨(some 74), .bin .sub (.t 73) (.k (.int .i64 1)), some (70, true)⟩,
 ⟨(some 75), .indexStr (.t 71) (.t 74), some (70, true)⟩,
 ⟨(some 76), .bin .eql (.t 75) (.k (.int .u8 48)), some (70, true)⟩,
 ⟨(some 77), .pick (.t 70) (.t 76) (.k (.bool false)), none⟩])
 (.cond (.t 77) .skip
 (.exit 4)))
 (.block 5 (.reg [⟨(some 78), .mov (.t 10), none⟩,
 ⟨(some 79), .mov (.t 10), none⟩,
 ⟨(some 80), .lenStr (.t 79), none⟩,
 ⟨(some 81), .bin .sub (.t 80) (.k (.int .i64 1)), none⟩,
 ⟨(some 82), .sliceStr (.t 78) none (some (.t 81)), none⟩,
 ⟨(some 10), .mov (.t 82), none⟩])))

def a10_1 : ACode := (.seq (.seq (.reg [⟨(some 50), .mov (.t 11), none⟩,
 ⟨(some 51), .mov (.t 1), none⟩,
 ⟨(some 52), .bin .lss (.t 50) (.t 51), none⟩])
 (.cond (.t 52) .skip
 (.exit 2)))
 (.seq (.block 3 (.seq (.reg [⟨(some 55), .mov (.t 8), none⟩,
 ⟨(some 56), .bin .mul (.t 55) (.k (.int .u64 10)), none⟩,
 ⟨(some 8), .mov (.t 56), none⟩])
 (.seq (.reg [⟨(some 57), .mov (.t 10), none⟩,
 ⟨(some 58), .mov (.t 8), none⟩,
 ⟨(some 59), .bin .quo (.t 58) (.k (.int .u64 4294967296)), none⟩,
 ⟨(some 60), .bin .add (.k (.int .u64 48)) (.t 59), none⟩,
 ⟨(some 61), .convInt .u8 (.t 60), none⟩,
 ⟨(some 62), .mkLit 1 [(.int .u8 0)] [(0, 1, (.t 61))] false, none⟩,
 ⟨(some 63), .convStr (.t 62), none⟩,
 ⟨(some 64), .bin .add (.t 57) (.t 63), none⟩,
 ⟨(some 10), .mov (.t 64), none⟩])
 (.reg [⟨(some 65), .mov (.t 8), none⟩,
 ⟨(some 66), .bin .rem (.t 65) (.k (.int .u64 4294967296)), none⟩,
 ⟨(some 8), .mov (.t 66), none⟩]))))
 (.reg [⟨(some 53), .mov (.t 11), none⟩,
 ⟨(some 54), .bin .add (.t 53) (.k (.int .i64 1)), none⟩,
 ⟨(some 11), .mov (.t 54), none⟩])))

def a10_2 : ACode := (.seq (.seq (.reg [⟨(some 29), .mov (.t 7), none⟩,
 ⟨(some 30), .bin .geq (.t 29) (.k (.int .u64 10)), none⟩])
 (.cond (.t 30) .skip
 (.exit 0)))
 (.block 1 (.seq (.reg [⟨(some 31), .mov (.t 7), none⟩,
 ⟨(some 32), .bin .rem (.t 31) (.k (.int .u64 10)), none⟩,
 ⟨(some 33), .bin .add (.k (.int .u64 48)) (.t 32), none⟩,
 ⟨(some 34), .convInt .u8 (.t 33), none⟩,
 ⟨(some 35), .mkLit 1 [(.int .u8 0)] [(0, 1, (.t 34))] false, none⟩,
 ⟨(some 36), .convStr (.t 35), none⟩,
 ⟨(some 37), .mov (.t 9), none⟩,
 ⟨(some 38), .bin .add (.t 36) (.t 37), none⟩,
 ⟨(some 9), .mov (.t 38), none⟩])
 (.reg [⟨(some 39), .mov (.t 7), none⟩,
 ⟨(some 40), .bin .quo (.t 39) (.k (.int .u64 10)), none⟩,
 ⟨(some 7), .mov (.t 40), none⟩]))))

def a10 : AFunc := ⟨90, [.tmp 4],
 (.seq (.reg [⟨(some 4), .mov (.k (.str [])), none⟩])
 (.seq (.reg [⟨(some 5), .mov (.k (.str [])), none⟩])
 (.seq (.reg [⟨(some 12), .mov (.t 0), none⟩,
 ⟨(some 13), .convInt .u64 (.t 12), none⟩,
 ⟨(some 6), .mov (.t 13), none⟩])
 (.seq (.seq (.reg [⟨(some 14), .mov (.t 0), none⟩,
 ⟨(some 15), .bin .lss (.t 14) (.k (.int .i64 0)), none⟩])
 (.cond (.t 15) (.seq (.reg [⟨(some 5), .mov (.k (.str [45])), none⟩])
 (.reg [⟨(some 16), .mov (.t 0), none⟩,
 ⟨(some 17), .bin .add (.t 16) (.k (.int .i64 1)), none⟩,
 ⟨(some 18), .un .neg (.t 17), none⟩,
 ⟨(some 19), .convInt .u64 (.t 18), none⟩,
 ⟨(some 20), .bin .add (.t 19) (.k (.int .u64 1)), none⟩,
 ⟨(some 6), .mov (.t 20), none⟩]))
 .skip))
 (.seq (.seq (.reg [⟨(some 21), .mov (.t 1), none⟩,
 ⟨(some 22), .bin .lss (.t 21) (.k (.int .i64 0)), none⟩])
 (.cond (.t 22) (.reg [⟨(some 1), .mov (.k (.int .i64 0)), none⟩])
 .skip))
 (.seq (.seq (.reg [⟨(some 23), .mov (.t 1), none⟩,
 ⟨(some 24), .bin .gtr (.t 23) (.k (.int .i64 32)), none⟩])
 (.cond (.t 24) (.reg [⟨(some 1), .mov (.k (.int .i64 32)), none⟩])
 .skip))
 (.seq (.reg [⟨(some 25), .mov (.t 6), none⟩,
 ⟨(some 26), .bin .quo (.t 25) (.k (.int .u64 4294967296)), none⟩,
 ⟨(some 7), .mov (.t 26), none⟩])
 (.seq (.reg [⟨(some 27), .mov (.t 6), none⟩,
 ⟨(some 28), .bin .rem (.t 27) (.k (.int .u64 4294967296)), none⟩,
 ⟨(some 8), .mov (.t 28), none⟩])
 (.seq (.reg [⟨(some 9), .mov (.k (.str [])), none⟩])
 (.seq (.block 0 (.loop a10_2))
 (.seq (.reg [⟨(some 41), .mov (.t 5), none⟩,
 ⟨(some 42), .mov (.t 7), none⟩,
 ⟨(some 43), .bin .add (.k (.int .u64 48)) (.t 42), none⟩,
 ⟨(some 44), .convInt .u8 (.t 43), none⟩,
 ⟨(some 45), .mkLit 1 [(.int .u8 0)] [(0, 1, (.t 44))] false, none⟩,
 ⟨(some 46), .convStr (.t 45), none⟩,
 ⟨(some 47), .bin .add (.t 41) (.t 46), none⟩,
 ⟨(some 48), .mov (.t 9), none⟩,
 ⟨(some 49), .bin .add (.t 47) (.t 48), none⟩,
 ⟨(some 5), .mov (.t 49), none⟩])
 (.seq (.reg [⟨(some 10), .mov (.k (.str [])), none⟩])
 (.seq (.seq (.reg [⟨(some 11), .mov (.k (.int .i64 0)), none⟩])
 (.block 2 (.loop a10_1)))
 (.seq (.block 4 (.loop a10_0))
 (.seq (.seq (.reg [⟨(some 83), .mov (.t 10), none⟩,
 ⟨(some 84), .bin .eql (.t 83) (.k (.str [])), none⟩])
 (.cond (.t 84) (.seq (.reg [⟨(some 85), .mov (.t 5), none⟩,
 ⟨(some 4), .mov (.t 85), none⟩])
 .ret)
 .skip))
 (.seq (.reg [⟨(some 86), .mov (.t 5), none⟩,
 ⟨(some 87), .bin .add (.t 86) (.k (.str [46])), none⟩,
 ⟨(some 88), .mov (.t 10), none⟩,
 ⟨(some 89), .bin .add (.t 87) (.t 88), none⟩,
 ⟨(some 4), .mov (.t 89), none⟩])
 .ret)))))))))))))))),
 [], false⟩

def a11 : AFunc := ⟨5, [.tmp 2],
 (.seq (.reg [⟨(some 2), .mov (.k (.str [])), none⟩])
 (.seq (.reg [⟨(some 3), .mov (.t 0), none⟩,
 ⟨(some 4), .call (.k (.func (.func 9) [] [])) [(.t 3), (.k (.int .i64 32))], none⟩,
 ⟨(some 2), .mov (.t 4), none⟩])
 .ret)),
 [], false⟩

def a12_0 : ACode := (.seq (.seq (.reg [⟨(some 7), .mov (.t 6), none⟩,
 ⟨(some 8), .mov (.t 0), none⟩,
 ⟨(some 9), .lenStr (.t 8), none⟩,
 ⟨(some 10), .bin .lss (.t 7) (.t 9), none⟩])
 (.cond (.t 10) .skip
 (.exit 0)))
 (.seq (.block 1 (.seq (.seq (.reg [⟨(some 13), .mov (.t 0), none⟩,
 ⟨(some 14), .mov (.t 6), none⟩,
 ⟨(some 15), .indexStr (.t 13) (.t 14), none⟩,
 ⟨(some 16), .bin .eql (.t 15) (.k (.int .u8 46)), none⟩])
 (.cond (.t 16) (.seq (.reg [⟨(some 17), .mov (.t 5), none⟩,
 ⟨(some 18), .bin .add (.t 17) (.k (.int .i64 1)), none⟩,
 ⟨(some 5), .mov (.t 18), none⟩])
 (.exit 1))
 .skip))
 (.seq (.seq (.reg [⟨(some 19), .mov (.t 0), none⟩,
 ⟨(some 20), .mov (.t 6), none⟩,
 ⟨(some 21), .indexStr (.t 19) (.t 20), none⟩,
 ⟨(some 22), .bin .lss (.t 21) (.k (.int .u8 48)), none⟩,
 ⟨(some 23), .mov (.t 22), none⟩,
 ⟨(some 24), .mov (.t 0), some (23, false)⟩,
 ⟨(some 25), .mov (.t 6), some (23, false)⟩,
 ⟨(some 26), .indexStr (.t 24) (.t 25), some (23, false)⟩,
 ⟨(some 27), .bin .gtr (.t 26) (.k (.int .u8 57)), some (23, false)⟩,
 ⟨(some 28), .pick (.t 23) (.k (.bool true)) (.t 27), none⟩])
 (.cond (.t 28) (.seq (.reg [⟨(some 2), .mov (.k (.bool false)), none⟩])
 .ret)
 .skip))
 (.seq (.reg [⟨(some 29), .mov (.t 5), none⟩,
 ⟨(some 30), .bin .eql (.t 29) (.k (.int .i64 0)), none⟩])
 (.cond (.t 30) (.reg [⟨(some 31), .mov (.t 3), none⟩,
 ⟨(some 32), .bin .add (.t 31) (.k (.int .i64 1)), none⟩,
 ⟨(some 3), .mov (.t 32), none⟩])
 (.reg [⟨(some 33), .mov (.t 4), none⟩,
 ⟨(some 34), .bin .add (.t 33) (.k (.int .i64 1)), none⟩,
 ⟨(some 4), .mov (.t 34), none⟩]))))))
 (.reg [⟨(some 11), .mov (.t 6), none⟩,
 ⟨(some 12), .bin .add (.t 11) (.k (.int .i64 1)), none⟩,
 ⟨(some 6), .mov (.t 12), none⟩])))

def a12 : AFunc := ⟨64, [.tmp 2],
 (.seq (.reg [⟨(some 2), .mov (.k (.bool false)), none⟩])
 (.seq (.reg [⟨(some 3), .mov (.k (.int .i64 0)), none⟩,
 ⟨(some 4), .mov (.k (.int .i64 0)), none⟩,
 ⟨(some 5), .mov (.k (.int .i64 0)), none⟩])
 (.seq (.seq (.reg [⟨(some 6), .mov (.k (.int .i64 0)), none⟩])
 (.block 0 (.loop a12_0)))
 (.seq (.seq (.reg [⟨(some 35), .mov (.t 3), none⟩,
 ⟨(some 36), .bin .lss (.t 35) (.k (.int .i64 1)), none⟩,
 ⟨(some 37), .mov (.t 36), none⟩,
 ⟨(some 38), .mov (.t 3), some (37, false)⟩,
 ⟨(some 39), .bin .gtr (.t 38) (.k (.int .i64 10)), some (37, false)⟩,
 ⟨(some 40), .pick (.t 37) (.k (.bool true)) (.t 39), none⟩,
 ⟨(some 41), .mov (.t 40), none⟩,
 ⟨(some 42), .mov (.t 5), some (41, false)⟩,
 ⟨(some 43), .bin .gtr (.t 42) (.k (.int .i64 1)), some (41, false)⟩,
 ⟨(some 44), .pick (.t 41) (.k (.bool true)) (.t 43), none⟩,
 ⟨(some 45), .mov (.t 44), none⟩,
 ⟨(some 46), .mov (.t 5), some (45, false)⟩,
 ⟨(some 47), .bin .eql (.t 46) (.k (.int .i64 1)), some (45, false)⟩,
 ⟨(some 48), .mov (.t 47), some (45, false)⟩,
 ⟨(some 49), .mov (.t 4), some (48, true)⟩,
 ⟨(some 50), .bin .lss (.t 49) (.k (.int .i64 1)), some (48, true)⟩,
 ⟨(some 51), .mov (.t 50), some (48, true)⟩,
 ⟨(some 52), .mov (.t 4), some (51, false)⟩,
 ⟨(some 53), .bin .gtr (.t 52) (.k (.int .i64 40)), some (51, false)⟩,
 ⟨(some 54), .pick (.t 51) (.k (.bool true)) (.t 53), some (48, true)⟩,
 ⟨(some 55), .pick (.t 48) (.t 54) (.k (.bool false)), some (45, false)⟩,
 ⟨(some 56), .pick (.t 45) (.k (.bool true)) (.t 55), none⟩])
 (.cond (.t 56) (.seq (.reg [⟨(some 2), .mov (.k (.bool false)), none⟩])
 .ret)
 .skip))
 (.seq (.reg [⟨(some 57), .mov (.t 3), none⟩,
 ⟨(some 58), .bin .eql (.t 57) (.k (.int .i64 1)), none⟩,
 ⟨(some 59), .mov (.t 58), none⟩,
 ⟨(some 60), .mov (.t 0), some (59, false)⟩,
 ⟨(some 61), .indexStr (.t 60) (.k (.int .i64 0)), some (59, false)⟩,
 ⟨(some 62), .bin .neq (.t 61) (.k (.int .u8 48)), some (59, false)⟩,
 ⟨(some 63), .pick (.t 59) (.k (.bool true)) (.t 62), none⟩,
 ⟨(some 2), .mov (.t 63), none⟩])
 .ret))))),
 [], false⟩

def a13 : AFunc := ⟨19, [.tmp 2, .tmp 3],
 (.seq (.reg [⟨(some 2), .mov (.k (.int .i64 0)), none⟩,
 ⟨(some 3), .mov (.k (.bool false)), none⟩])
 (.seq (.reg [⟨(some 7), .mov (.t 0), none⟩,
 ⟨(some 8), .call (.k (.func (.func 20) [] [])) [(.t 7)], none⟩,
 ⟨(some 6), .mov (.t 8), none⟩,
 ⟨(some 9), .extract (.t 6) 0, none⟩,
 ⟨(some 10), .extract (.t 6) 1, none⟩,
 ⟨(some 4), .mov (.t 9), none⟩,
 ⟨(some 5), .mov (.t 10), none⟩])
 (.seq (.seq (.reg [⟨(some 11), .mov (.t 5), none⟩,
 ⟨(some 12), .un .not (.t 11), none⟩,
 ⟨(some 13), .mov (.t 12), none⟩,
 ⟨(some 14), .mov (.t 4), some (13, false)⟩,
 ⟨(some 15), .bin .gtr (.t 14) (.k (.int .u64 9223372036854775807)), some (13, false)⟩,
 ⟨(some 16), .pick (.t 13) (.k (.bool true)) (.t 15), none⟩])
 (.cond (.t 16) (.seq (.reg [⟨(some 2), .mov (.k (.int .i64 0)), none⟩,
 ⟨(some 3), .mov (.k (.bool false)), none⟩])
 .ret)
 .skip))
 (.seq (.reg [⟨(some 17), .mov (.t 4), none⟩,
 ⟨(some 18), .convInt .i64 (.t 17), none⟩,
 ⟨(some 2), .mov (.t 18), none⟩,
 ⟨(some 3), .mov (.k (.bool true)), none⟩])
 .ret)))),
 [], false⟩

def a14 : AFunc := ⟨33, [.tmp 2, .tmp 3],
 (.seq (.reg [⟨(some 2), .mov (.k (.int .i64 0)), none⟩,
 ⟨(some 3), .mov (.k (.bool false)), none⟩])
 (.seq (.reg [⟨(some 9), .mov (.t 0), none⟩,
 ⟨(some 10), .call (.k (.func (.func 21) [] [])) [(.t 9), (.k (.str [45]))], none⟩,
 ⟨(some 8), .mov (.t 10), none⟩,
 ⟨(some 11), .extract (.t 8) 0, none⟩,
 ⟨(some 12), .extract (.t 8) 1, none⟩,
 ⟨(some 4), .mov (.t 11), none⟩,
 ⟨(some 5), .mov (.t 12), none⟩])
 (.seq (.seq (.reg [⟨(some 13), .mov (.t 5), none⟩,
 ⟨(some 14), .un .not (.t 13), none⟩])
 (.cond (.t 14) (.seq (.reg [⟨(some 15), .mov (.t 0), none⟩,
 ⟨(some 16), .call (.k (.func (.func 13) [] [])) [(.t 15)], none⟩,
 ⟨(some 17), .extract (.t 16) 0, none⟩,
 ⟨(some 18), .extract (.t 16) 1, none⟩,
 ⟨(some 2), .mov (.t 17), none⟩,
 ⟨(some 3), .mov (.t 18), none⟩])
 .ret)
 .skip))
 (.seq (.reg [⟨(some 20), .mov (.t 4), none⟩,
 ⟨(some 21), .call (.k (.func (.func 20) [] [])) [(.t 20)], none⟩,
 ⟨(some 19), .mov (.t 21), none⟩,
 ⟨(some 22), .extract (.t 19) 0, none⟩,
 ⟨(some 23), .extract (.t 19) 1, none⟩,
 ⟨(some 6), .mov (.t 22), none⟩,
 ⟨(some 7), .mov (.t 23), none⟩])
 (.seq (.seq (.reg [⟨(some 24), .mov (.t 7), none⟩,
 ⟨(some 25), .un .not (.t 24), none⟩,
 ⟨(some 26), .mov (.t 25), none⟩,
 ⟨(some 27), .mov (.t 6), some (26, false)⟩,
 ⟨(some 28), .bin .gtr (.t 27) (.k (.int .u64 9223372036854775808)), some (26, false)⟩,
 ⟨(some 29), .pick (.t 26) (.k (.bool true)) (.t 28), none⟩])
 (.cond (.t 29) (.seq (.reg [⟨(some 2), .mov (.k (.int .i64 0)), none⟩,
 ⟨(some 3), .mov (.k (.bool false)), none⟩])
 .ret)
 .skip))
 (.seq (.reg [⟨(some 30), .mov (.t 6), none⟩,
 ⟨(some 31), .un .neg (.t 30), none⟩,
 ⟨(some 32), .convInt .i64 (.t 31), none⟩,
 ⟨(some 2), .mov (.t 32), none⟩,
 ⟨(some 3), .mov (.k (.bool true)), none⟩])
 .ret)))))),
 [], false⟩

def a15 : AFunc := ⟨13, [.tmp 2],
 (.seq (.reg [⟨(some 2), .mov (.k (.bool false)), none⟩])
 (.seq (.reg [⟨(some 7), .mov (.t 0), none⟩,
 ⟨(some 8), .call (.k (.func (.func 22) [] [])) [(.t 7)], none⟩,
 ⟨(some 6), .mov (.t 8), none⟩,
 ⟨(some 9), .extract (.t 6) 0, none⟩,
 ⟨(some 10), .extract (.t 6) 1, none⟩,
 ⟨(some 11), .extract (.t 6) 2, none⟩,
 ⟨(some 3), .mov (.t 9), none⟩,
 ⟨(some 4), .mov (.t 10), none⟩,
 ⟨(some 5), .mov (.t 11), none⟩])
 (.seq (.reg [⟨(some 12), .mov (.t 5), none⟩,
 ⟨(some 2), .mov (.t 12), none⟩])
 .ret))),
 [], false⟩

def a16 : AFunc := ⟨11, [.tmp 2, .tmp 3],
 (.seq (.reg [⟨(some 2), .mov (.k (.str [])), none⟩,
 ⟨(some 3), .mov (.k (.int .u64 0)), none⟩])
 (.seq (.seq (.reg [⟨(some 4), .mov (.t 0), none⟩,
 ⟨(some 5), .bin .lss (.t 4) (.k (.int .i64 0)), none⟩])
 (.cond (.t 5) (.seq (.reg [⟨(some 6), .mov (.t 0), none⟩,
 ⟨(some 7), .convInt .u64 (.t 6), none⟩,
 ⟨(some 8), .un .neg (.t 7), none⟩,
 ⟨(some 2), .mov (.k (.str [45])), none⟩,
 ⟨(some 3), .mov (.t 8), none⟩])
 .ret)
 .skip))
 (.seq (.reg [⟨(some 9), .mov (.t 0), none⟩,
 ⟨(some 10), .convInt .u64 (.t 9), none⟩,
 ⟨(some 2), .mov (.k (.str [])), none⟩,
 ⟨(some 3), .mov (.t 10), none⟩])
 .ret))),
 [], false⟩

def a18_0 : ACode := (.seq (.seq (.reg [⟨(some 9), .mov (.t 6), none⟩,
 ⟨(some 10), .bin .gtr (.t 9) (.k (.int .u64 0)), none⟩,
 ⟨(some 11), .mov (.t 10), none⟩,
 ⟨(some 12), .mov (.t 5), some (11, true)⟩,
 ⟨(some 13), .lenSl (.t 12), some (11, true)⟩,
 ⟨(some 14), .mov (.t 1), some (11, true)⟩,
 ⟨(some 15), .bin .lss (.t 13) (.t 14), some (11, true)⟩,
 ⟨(some 16), .pick (.t 11) (.t 15) (.k (.bool false)), none⟩])
 (.cond (.t 16) .skip
 (.exit 0)))
 (.seq (.block 1 (.seq (.reg [⟨(some 19), .mov (.t 6), none⟩,
 ⟨(some 20), .bin .mul (.t 19) (.k (.int .u64 10)), none⟩,
 ⟨(some 6), .mov (.t 20), none⟩])
 (.reg [⟨(some 21), .mov (.t 5), none⟩,
 ⟨(some 22), .mov (.t 6), none⟩,
 ⟨(some 23), .bin .shr (.t 22) (.k (.int .u64 32)), none⟩,
 ⟨(some 24), .convInt .u8 (.t 23), none⟩,
 ⟨(some 25), .bin .add (.k (.int .u8 48)) (.t 24), none⟩,
 ⟨(some 26), .mkLit 1 [(.int .u8 0)] [(0, 1, (.t 25))] false, none⟩,
 ⟨(some 27), .append 1 1 (some 5) (.t 21) (.t 26), none⟩,
 ⟨(some 5), .mov (.t 27), none⟩])))
 (.reg [⟨(some 17), .mov (.t 6), none⟩,
 ⟨(some 18), .bin .and (.t 17) (.k (.int .u64 4294967295)), none⟩,
 ⟨(some 6), .mov (.t 18), none⟩])))

def a18 : AFunc := ⟨31, [.tmp 4],
 (.seq (.reg [⟨(some 4), .mov (.k (.str [])), none⟩])
 (.seq (.reg [⟨(some 5), .mov (.k (.lst 1 [] .tight)), none⟩])
 (.seq (.seq (.reg [⟨(some 7), .mov (.t 0), none⟩,
 ⟨(some 8), .bin .and (.t 7) (.k (.int .u64 4294967295)), none⟩,
 ⟨(some 6), .mov (.t 8), none⟩])
 (.block 0 (.loop a18_0)))
 (.seq (.reg [⟨(some 28), .mov (.t 5), none⟩,
 ⟨(some 29), .convStr (.t 28), none⟩,
 ⟨(some 30), .call (.k (.func (.func 24) [] [])) [(.t 29), (.k (.str [48]))], none⟩,
 ⟨(some 4), .mov (.t 30), none⟩])
 .ret)))),
 [], false⟩

def a19 : AFunc := ⟨5, [.tmp 2],
 (.seq (.reg [⟨(some 2), .mov (.k (.str [])), none⟩])
 (.seq (.reg [⟨(some 3), .mov (.t 0), none⟩,
 ⟨(some 4), .call (.k (.func (.func 25) [] [])) [(.t 3), (.k (.str []))], none⟩,
 ⟨(some 2), .mov (.t 4), none⟩])
 .ret)),
 [], false⟩

def a20 : AFunc := ⟨34, [.tmp 2, .tmp 3],
 (.seq (.reg [⟨(some 2), .mov (.k (.int .u64 0)), none⟩,
 ⟨(some 3), .mov (.k (.bool false)), none⟩])
 (.seq (.reg [⟨(some 10), .mov (.t 0), none⟩,
 ⟨(some 11), .call (.k (.func (.func 22) [] [])) [(.t 10)], none⟩,
 ⟨(some 9), .mov (.t 11), none⟩,
 ⟨(some 12), .extract (.t 9) 0, none⟩,
 ⟨(some 13), .extract (.t 9) 1, none⟩,
 ⟨(some 14), .extract (.t 9) 2, none⟩,
 ⟨(some 4), .mov (.t 12), none⟩,
 ⟨(some 5), .mov (.t 13), none⟩,
 ⟨(some 6), .mov (.t 14), none⟩])
 (.seq (.seq (.reg [⟨(some 15), .mov (.t 6), none⟩,
 ⟨(some 16), .un .not (.t 15), none⟩])
 (.cond (.t 16) (.seq (.reg [⟨(some 2), .mov (.k (.int .u64 0)), none⟩,
 ⟨(some 3), .mov (.k (.bool false)), none⟩])
 .ret)
 .skip))
 (.seq (.reg [⟨(some 18), .mov (.t 4), none⟩,
 ⟨(some 19), .call (.k (.func (.func 26) [] [])) [(.t 18), (.k (.int .i64 10)), (.k (.int .i64 64))], none⟩,
 ⟨(some 17), .mov (.t 19), none⟩,
 ⟨(some 20), .extract (.t 17) 0, none⟩,
 ⟨(some 21), .extract (.t 17) 1, none⟩,
 ⟨(some 7), .mov (.t 20), none⟩,
 ⟨(some 8), .mov (.t 21), none⟩])
 (.seq (.seq (.reg [⟨(some 22), .mov (.t 8), none⟩,
 ⟨(some 23), .eqIface true (.t 22) (.k .nilIface), none⟩,
 ⟨(some 24), .mov (.t 23), none⟩,
 ⟨(some 25), .mov (.t 7), some (24, false)⟩,
 ⟨(some 26), .bin .gtr (.t 25) (.k (.int .u64 4294967295)), some (24, false)⟩,
 ⟨(some 27), .pick (.t 24) (.k (.bool true)) (.t 26), none⟩])
 (.cond (.t 27) (.seq (.reg [⟨(some 2), .mov (.k (.int .u64 18446744073709551615)), none⟩,
 ⟨(some 3), .mov (.k (.bool true)), none⟩])
 .ret)
 .skip))
 (.seq (.reg [⟨(some 28), .mov (.t 7), none⟩,
 ⟨(some 29), .bin .shl (.t 28) (.k (.int .u64 32)), none⟩,
 ⟨(some 30), .mov (.t 5), none⟩,
 ⟨(some 31), .call (.k (.func (.func 27) [] [])) [(.t 30)], none⟩,
 ⟨(some 32), .convInt .u64 (.t 31), none⟩,
 ⟨(some 33), .bin .or (.t 29) (.t 32), none⟩,
 ⟨(some 2), .mov (.t 33), none⟩,
 ⟨(some 3), .mov (.k (.bool true)), none⟩])
 .ret)))))),
 [], false⟩

def a21 : AFunc := ⟨11, [.tmp 4, .tmp 5],
 (.seq (.reg [⟨(some 4), .mov (.k (.str [])), none⟩,
 ⟨(some 5), .mov (.k (.bool false)), none⟩])
 (.seq (.reg [⟨(some 6), .mov (.t 0), none⟩,
 ⟨(some 7), .mov (.t 1), none⟩,
 ⟨(some 8), .call (.k (.func (.func 28) [] [])) [(.t 6), (.t 7)], none⟩,
 ⟨(some 9), .extract (.t 8) 0, none⟩,
 ⟨(some 10), .extract (.t 8) 1, none⟩,
 ⟨(some 4), .mov (.t 9), none⟩,
 ⟨(some 5), .mov (.t 10), none⟩])
 .ret)),
 [], false⟩

def a22 : AFunc := ⟨37, [.tmp 2, .tmp 3, .tmp 4],
 (.seq (.reg [⟨(some 2), .mov (.k (.str [])), none⟩,
 ⟨(some 3), .mov (.k (.str [])), none⟩,
 ⟨(some 4), .mov (.k (.bool false)), none⟩])
 (.seq (.reg [⟨(some 9), .mov (.t 0), none⟩,
 ⟨(some 10), .call (.k (.func (.func 29) [] [])) [(.t 9), (.k (.str [46]))], none⟩,
 ⟨(some 8), .mov (.t 10), none⟩,
 ⟨(some 11), .extract (.t 8) 0, none⟩,
 ⟨(some 12), .extract (.t 8) 1, none⟩,
 ⟨(some 13), .extract (.t 8) 2, none⟩,
 ⟨(some 5), .mov (.t 11), none⟩,
 ⟨(some 6), .mov (.t 12), none⟩,
 ⟨(some 7), .mov (.t 13), none⟩])
 (.seq (.seq (.reg [⟨(some 14), .mov (.t 5), none⟩,
 ⟨(some 15), .call (.k (.func (.func 30) [] [])) [(.t 14), (.k (.int .i64 10))], none⟩,
 ⟨(some 16), .un .not (.t 15), none⟩,
 ⟨(some 17), .mov (.t 16), none⟩,
 ⟨(some 18), .mov (.t 5), some (17, false)⟩,
 ⟨(some 19), .lenStr (.t 18), some (17, false)⟩,
 ⟨(some 20), .bin .gtr (.t 19) (.k (.int .i64 1)), some (17, false)⟩,
 ⟨(some 21), .mov (.t 20), some (17, false)⟩,
 ⟨(some 22), .mov (.t 5), some (21, true)⟩,
 ⟨(some 23), .indexStr (.t 22) (.k (.int .i64 0)), some (21, true)⟩,
 ⟨(some 24), .bin .eql (.t 23) (.k (.int .u8 48)), some (21, true)⟩,
 ⟨(some 25), .pick (.t 21) (.t 24) (.k (.bool false)), some (17, false)⟩,
 ⟨(some 26), .pick (.t 17) (.k (.bool true)) (.t 25), none⟩,
 ⟨(some 27), .mov (.t 26), none⟩,
 ⟨(some 28), .mov (.t 7), some (27, false)⟩,
 ⟨(some 29), .mov (.t 28), some (27, false)⟩,
 ⟨(some 30), .mov (.t 6), some (29, true)⟩,
 ⟨(some 31), .call (.k (.func (.func 30) [] [])) [(.t 30), (.k (.int .i64 40))], some (29, true)⟩,
 ⟨(some 32), .un .not (.t 31), some (29, true)⟩,
 ⟨(some 33), .pick (.t 29) (.t 32) (.k (.bool false)), some (27, false)⟩,
 ⟨(some 34), .pick (.t 27) (.k (.bool true)) (.t 33), none⟩])
 (.cond (.t 34) (.seq (.reg [⟨(some 2), .mov (.k (.str [])), none⟩,
 ⟨(some 3), .mov (.k (.str [])), none⟩,
 ⟨(some 4), .mov (.k (.bool false)), none⟩])
 .ret)
 .skip))
 (.seq (.reg [⟨(some 35), .mov (.t 5), none⟩,
 ⟨(some 36), .mov (.t 6), none⟩,
 ⟨(some 2), .mov (.t 35), none⟩,
 ⟨(some 3), .mov (.t 36), none⟩,
 ⟨(some 4), .mov (.k (.bool true)), none⟩])
 .ret)))),
 [], false⟩

def a23 : AFunc := ⟨32, [.tmp 4],
 (.seq (.reg [⟨(some 4), .mov (.k (.str [])), none⟩])
 (.seq (.seq (.reg [⟨(some 9), .mov (.t 1), none⟩,
 ⟨(some 10), .bin .eql (.t 9) (.k (.int .i64 10)), none⟩])
 (.cond (.t 10) (.seq (.seq (.reg [⟨(some 11), .mov (.t 0), none⟩,
 ⟨(some 12), .bin .lss (.t 11) (.k (.int .u64 100)), none⟩])
 (.cond (.t 12) (.seq (.reg [⟨(some 13), .mov (.t 0), none⟩,
 ⟨(some 14), .convInt .i64 (.t 13), none⟩,
 ⟨(some 15), .call (.k (.func (.func 31) [] [])) [(.t 14)], none⟩,
 ⟨(some 4), .mov (.t 15), none⟩])
 .ret)
 .skip))
 (.seq (.reg [⟨(some 5), .new (.agg [(.int .u8 0), (.int .u8 0), (.int .u8 0), (.int .u8 0), (.int .u8 0), (.int .u8 0), (.int .u8 0), (.int .u8 0), (.int .u8 0), (.int .u8 0), (.int .u8 0), (.int .u8 0), (.int .u8 0), (.int .u8 0), (.int .u8 0), (.int .u8 0), (.int .u8 0), (.int .u8 0), (.int .u8 0), (.int .u8 0), (.int .u8 0), (.int .u8 0), (.int .u8 0), (.int .u8 0)]) true none, none⟩])
 (.seq (.reg [⟨(some 16), .mov (.t 0), none⟩,
 ⟨(some 17), .call (.k (.func (.func 32) [] [])) [(.t 16)], none⟩,
 ⟨(some 6), .mov (.t 17), none⟩])
 (.seq (.reg [⟨(some 18), .mov (.t 6), none⟩,
 ⟨(some 19), .sliceArr 24 1 (.t 5) none (some (.t 18)), none⟩,
 ⟨(some 20), .mov (.t 0), none⟩,
 ⟨(some 21), .call (.k (.func (.func 33) [] [])) [(.t 19), (.t 20)], none⟩])
 (.seq (.reg [⟨(some 22), .mov (.t 6), none⟩,
 ⟨(some 23), .sliceArr 24 1 (.t 5) none (some (.t 22)), none⟩,
 ⟨(some 24), .convStr (.t 23), none⟩,
 ⟨(some 4), .mov (.t 24), none⟩])
 .ret)))))
 .skip))
 (.seq (.reg [⟨(some 26), .mov (.t 0), none⟩,
 ⟨(some 27), .mov (.t 1), none⟩,
 ⟨(some 28), .call (.k (.func (.func 34) [] [])) [(.k (.lst 1 [] .tight)), (.t 26), (.t 27), (.k (.bool false)), (.k (.bool false))], none⟩,
 ⟨(some 25), .mov (.t 28), none⟩,
 ⟨(some 29), .extract (.t 25) 0, none⟩,
 ⟨(some 30), .extract (.t 25) 1, none⟩,
 ⟨(some 7), .mov (.t 29), none⟩,
 ⟨(some 8), .mov (.t 30), none⟩])
 (.seq (.reg [⟨(some 31), .mov (.t 8), none⟩,
 ⟨(some 4), .mov (.t 31), none⟩])
 .ret)))),
 [], false⟩

def a26 : AFunc := ⟨26, [.tmp 6, .tmp 7],
 (.seq (.reg [⟨(some 6), .mov (.k (.int .u64 0)), none⟩,
 ⟨(some 7), .mov (.k .nilIface), none⟩])
 (.seq (.reg [⟨(some 11), .mov (.t 0), none⟩,
 ⟨(some 12), .mov (.t 1), none⟩,
 ⟨(some 13), .mov (.t 2), none⟩,
 ⟨(some 14), .call (.k (.func (.func 42) [] [])) [(.t 11), (.t 12), (.t 13)], none⟩,
 ⟨(some 10), .mov (.t 14), none⟩,
 ⟨(some 15), .extract (.t 10) 0, none⟩,
 ⟨(some 16), .extract (.t 10) 1, none⟩,
 ⟨(some 8), .mov (.t 15), none⟩,
 ⟨(some 9), .mov (.t 16), none⟩])
 (.seq (.seq (.reg [⟨(some 17), .mov (.t 9), none⟩,
 ⟨(some 18), .eqIface true (.t 17) (.k .nilIface), none⟩])
 (.cond (.t 18) (.seq (.reg [⟨(some 19), .mov (.t 8), none⟩,
 ⟨(some 20), .mov (.t 0), none⟩,
 ⟨(some 21), .mov (.t 1), none⟩,
 ⟨(some 22), .mov (.t 2), none⟩,
 ⟨(some 23), .mov (.t 9), none⟩,
 ⟨(some 24), .call (.k (.func (.func 43) [] [])) [(.k (.str [80, 97, 114, 115, 101, 85, 105, 110, 116])), (.t 20), (.t 21), (.t 22), (.t 23)], none⟩,
 ⟨(some 6), .mov (.t 19), none⟩,
 ⟨(some 7), .mov (.t 24), none⟩])
 .ret)
 .skip))
 (.seq (.reg [⟨(some 25), .mov (.t 8), none⟩,
 ⟨(some 6), .mov (.t 25), none⟩,
 ⟨(some 7), .mov (.k .nilIface), none⟩])
 .ret)))),
 [], false⟩

def a27_0 : ACode := (.seq (.reg [⟨(some 10), .bin .lss (.t 9) (.k (.int .i64 32)), none⟩])
 (.seq (.cond (.t 10) .skip
 (.exit 0))
 (.seq (.block 1 (.reg [⟨(some 11), .mov (.t 5), none⟩,
 ⟨(some 12), .bin .shl (.t 11) (.k (.int .u64 1)), none⟩,
 ⟨(some 13), .mov (.t 4), none⟩,
 ⟨(some 14), .call (.t 13) [], none⟩,
 ⟨(some 15), .bin .or (.t 12) (.t 14), none⟩,
 ⟨(some 5), .mov (.t 15), none⟩]))
 (.reg [⟨(some 16), .bin .add (.t 9) (.k (.int .i64 1)), none⟩,
 ⟨(some 9), .mov (.t 16), none⟩]))))

def a27 : AFunc := ⟨18, [.tmp 2],
 (.seq (.reg [⟨(some 2), .mov (.k (.int .i64 0)), none⟩])
 (.seq (.reg [⟨(some 6), .mov (.t 0), none⟩,
 ⟨(some 7), .convBytes true (.t 6), none⟩,
 ⟨(some 3), .new (.lst 1 [] .tight) true none, none⟩,
 ⟨none, .store 1 (.t 3) (.t 7), none⟩])
 (.seq (.reg [⟨(some 8), .mkFunc 44 [] [(.t 3)], none⟩,
 ⟨(some 4), .mov (.t 8), none⟩])
 (.seq (.reg [⟨(some 5), .mov (.k (.int .i64 0)), none⟩])
 (.seq (.seq (.reg [⟨(some 9), .mov (.k (.int .i64 0)), none⟩])
 (.block 0 (.loop a27_0)))
 (.seq (.reg [⟨(some 17), .mov (.t 5), none⟩,
 ⟨(some 2), .mov (.t 17), none⟩])
 .ret)))))),
 [], false⟩

def a28 : AFunc := ⟨15, [.tmp 4, .tmp 5],
 (.seq (.reg [⟨(some 4), .mov (.k (.str [])), none⟩,
 ⟨(some 5), .mov (.k (.bool false)), none⟩])
 (.seq (.seq (.reg [⟨(some 6), .mov (.t 0), none⟩,
 ⟨(some 7), .mov (.t 1), none⟩,
 ⟨(some 8), .call (.k (.func (.func 45) [] [])) [(.t 6), (.t 7)], none⟩,
 ⟨(some 9), .un .not (.t 8), none⟩])
 (.cond (.t 9) (.seq (.reg [⟨(some 10), .mov (.t 0), none⟩,
 ⟨(some 4), .mov (.t 10), none⟩,
 ⟨(some 5), .mov (.k (.bool false)), none⟩])
 .ret)
 .skip))
 (.seq (.reg [⟨(some 11), .mov (.t 0), none⟩,
 ⟨(some 12), .mov (.t 1), none⟩,
 ⟨(some 13), .lenStr (.t 12), none⟩,
 ⟨(some 14), .sliceStr (.t 11) (some (.t 13)) none, none⟩,
 ⟨(some 4), .mov (.t 14), none⟩,
 ⟨(some 5), .mov (.k (.bool true)), none⟩])
 .ret))),
 [], false⟩

def a29 : AFunc := ⟨13, [.tmp 4, .tmp 5, .tmp 6],
 (.seq (.reg [⟨(some 4), .mov (.k (.str [])), none⟩,
 ⟨(some 5), .mov (.k (.str [])), none⟩,
 ⟨(some 6), .mov (.k (.bool false)), none⟩])
 (.seq (.reg [⟨(some 7), .mov (.t 0), none⟩,
 ⟨(some 8), .mov (.t 1), none⟩,
 ⟨(some 9), .call (.k (.func (.func 46) [] [])) [(.t 7), (.t 8)], none⟩,
 ⟨(some 10), .extract (.t 9) 0, none⟩,
 ⟨(some 11), .extract (.t 9) 1, none⟩,
 ⟨(some 12), .extract (.t 9) 2, none⟩,
 ⟨(some 4), .mov (.t 10), none⟩,
 ⟨(some 5), .mov (.t 11), none⟩,
 ⟨(some 6), .mov (.t 12), none⟩])
 .ret)),
 [], false⟩

def a30 : AFunc := ⟨19, [.tmp 4],
 (.seq (.reg [⟨(some 4), .mov (.k (.bool false)), none⟩])
 (.seq (.reg [⟨(some 5), .mov (.t 0), none⟩,
 ⟨(some 6), .lenStr (.t 5), none⟩,
 ⟨(some 7), .bin .geq (.t 6) (.k (.int .i64 1)), none⟩,
 ⟨(some 8), .mov (.t 7), none⟩,
 ⟨(some 9), .mov (.t 0), some (8, true)⟩,
 ⟨(some 10), .lenStr (.t 9), some (8, true)⟩,
 ⟨(some 11), .mov (.t 1), some (8, true)⟩,
 ⟨(some 12), .bin .leq (.t 10) (.t 11), some (8, true)⟩,
 ⟨(some 13), .pick (.t 8) (.t 12) (.k (.bool false)), none⟩,
 ⟨(some 14), .mov (.t 13), none⟩,
 ⟨(some 15), .mov (.t 0), some (14, true)⟩,
 ⟨(some 16), .call (.k (.func (.func 47) [] [])) [(.t 15), (.k (.str [48, 49, 50, 51, 52, 53, 54, 55, 56, 57]))], some (14, true)⟩,
 ⟨(some 17), .bin .eql (.t 16) (.k (.str [])), some (14, true)⟩,
 ⟨(some 18), .pick (.t 14) (.t 17) (.k (.bool false)), none⟩,
 ⟨(some 4), .mov (.t 18), none⟩])
 .ret)),
 [], false⟩

def a31 : AFunc := ⟨15, [.tmp 2],
 (.seq (.reg [⟨(some 2), .mov (.k (.str [])), none⟩])
 (.seq (.seq (.reg [⟨(some 3), .mov (.t 0), none⟩,
 ⟨(some 4), .bin .lss (.t 3) (.k (.int .i64 10)), none⟩])
 (.cond (.t 4) (.seq (.reg [⟨(some 5), .mov (.t 0), none⟩,
 ⟨(some 6), .mov (.t 0), none⟩,
 ⟨(some 7), .bin .add (.t 6) (.k (.int .i64 1)), none⟩,
 ⟨(some 8), .sliceStr (.k (.str [48, 49, 50, 51, 52, 53, 54, 55, 56, 57, 97, 98, 99, 100, 101, 102, 103, 104, 105, 106, 107, 108, 109, 110, 111, 112, 113, 114, 115, 116, 117, 118, 119, 120, 121, 122])) (some (.t 5)) (some (.t 7)), none⟩,
 ⟨(some 2), .mov (.t 8), none⟩])
 .ret)
 .skip))
 (.seq (.reg [⟨(some 9), .mov (.t 0), none⟩,
 ⟨(some 10), .bin .mul (.t 9) (.k (.int .i64 2)), none⟩,
 ⟨(some 11), .mov (.t 0), none⟩,
 ⟨(some 12), .bin .mul (.t 11) (.k (.int .i64 2)), none⟩,
 ⟨(some 13), .bin .add (.t 12) (.k (.int .i64 2)), none⟩,
 ⟨(some 14), .sliceStr (.k (.str [48, 48, 48, 49, 48, 50, 48, 51, 48, 52, 48, 53, 48, 54, 48, 55, 48, 56, 48, 57, 49, 48, 49, 49, 49, 50, 49, 51, 49, 52, 49, 53, 49, 54, 49, 55, 49, 56, 49, 57, 50, 48, 50, 49, 50, 50, 50, 51, 50, 52, 50, 53, 50, 54, 50, 55, 50, 56, 50, 57, 51, 48, 51, 49, 51, 50, 51, 51, 51, 52, 51, 53, 51, 54, 51, 55, 51, 56, 51, 57, 52, 48, 52, 49, 52, 50, 52, 51, 52, 52, 52, 53, 52, 54, 52, 55, 52, 56, 52, 57, 53, 48, 53, 49, 53, 50, 53, 51, 53, 52, 53, 53, 53, 54, 53, 55, 53, 56, 53, 57, 54, 48, 54, 49, 54, 50, 54, 51, 54, 52, 54, 53, 54, 54, 54, 55, 54, 56, 54, 57, 55, 48, 55, 49, 55, 50, 55, 51, 55, 52, 55, 53, 55, 54, 55, 55, 55, 56, 55, 57, 56, 48, 56, 49, 56, 50, 56, 51, 56, 52, 56, 53, 56, 54, 56, 55, 56, 56, 56, 57, 57, 48, 57, 49, 57, 50, 57, 51, 57, 52, 57, 53, 57, 54, 57, 55, 57, 56, 57, 57])) (some (.t 10)) (some (.t 13)), none⟩,
 ⟨(some 2), .mov (.t 14), none⟩])
 .ret))),
 [], false⟩

def a33_0 : ACode := (.seq (.seq (.reg [⟨(some 19), .mov (.t 4), none⟩,
 ⟨(some 20), .bin .geq (.t 19) (.k (.int .i64 8)), none⟩])
 (.cond (.t 20) .skip
 (.exit 0)))
 (.block 1 (.seq (.reg [⟨(some 21), .mov (.t 1), none⟩,
 ⟨(some 22), .bin .rem (.t 21) (.k (.int .u64 100000000)), none⟩,
 ⟨(some 23), .convInt .u32 (.t 22), none⟩,
 ⟨(some 5), .mov (.t 23), none⟩])
 (.seq (.reg [⟨(some 24), .mov (.t 1), none⟩,
 ⟨(some 25), .bin .quo (.t 24) (.k (.int .u64 100000000)), none⟩,
 ⟨(some 1), .mov (.t 25), none⟩])
 (.seq (.reg [⟨(some 26), .mov (.t 5), none⟩,
 ⟨(some 27), .bin .quo (.t 26) (.k (.int .u32 10000)), none⟩,
 ⟨(some 28), .mov (.t 5), none⟩,
 ⟨(some 29), .bin .rem (.t 28) (.k (.int .u32 10000)), none⟩,
 ⟨(some 6), .mov (.t 27), none⟩,
 ⟨(some 7), .mov (.t 29), none⟩])
 (.seq (.reg [⟨(some 30), .mov (.t 7), none⟩,
 ⟨(some 31), .bin .quo (.t 30) (.k (.int .u32 100)), none⟩,
 ⟨(some 32), .bin .mul (.t 31) (.k (.int .u32 2)), none⟩,
 ⟨(some 33), .mov (.t 7), none⟩,
 ⟨(some 34), .bin .rem (.t 33) (.k (.int .u32 100)), none⟩,
 ⟨(some 35), .bin .mul (.t 34) (.k (.int .u32 2)), none⟩,
 ⟨(some 8), .mov (.t 32), none⟩,
 ⟨(some 9), .mov (.t 35), none⟩])
 (.seq (.reg [⟨(some 36), .mov (.t 6), none⟩,
 ⟨(some 37), .bin .quo (.t 36) (.k (.int .u32 100)), none⟩,
 ⟨(some 38), .bin .mul (.t 37) (.k (.int .u32 2)), none⟩,
 ⟨(some 39), .mov (.t 6), none⟩,
 ⟨(some 40), .bin .rem (.t 39) (.k (.int .u32 100)), none⟩,
 ⟨(some 41), .bin .mul (.t 40) (.k (.int .u32 2)), none⟩,
 ⟨(some 10), .mov (.t 38), none⟩,
 ⟨(some 11), .mov (.t 41), none⟩])
 (.seq (.plan [⟨0, ⟨(some 42), .mov (.t 0), none⟩, []⟩,
 ⟨1, ⟨(some 43), .mov (.t 4), none⟩, []⟩,
 ⟨2, ⟨(some 44), .bin .sub (.t 43) (.k (.int .i64 1)), none⟩, []⟩,
 ⟨3, ⟨(some 45), .mov (.t 0), none⟩, []⟩,
 ⟨4, ⟨(some 46), .mov (.t 4), none⟩, []⟩,
 ⟨5, ⟨(some 47), .bin .sub (.t 46) (.k (.int .i64 2)), none⟩, []⟩,
 ⟨6, ⟨(some 48), .mov (.t 9), none⟩, []⟩,
 ⟨7, ⟨(some 49), .bin .add (.t 48) (.k (.int .u32 1)), none⟩, []⟩,
 ⟨8, ⟨(some 50), .indexStr (.k (.str [48, 48, 48, 49, 48, 50, 48, 51, 48, 52, 48, 53, 48, 54, 48, 55, 48, 56, 48, 57, 49, 48, 49, 49, 49, 50, 49, 51, 49, 52, 49, 53, 49, 54, 49, 55, 49, 56, 49, 57, 50, 48, 50, 49, 50, 50, 50, 51, 50, 52, 50, 53, 50, 54, 50, 55, 50, 56, 50, 57, 51, 48, 51, 49, 51, 50, 51, 51, 51, 52, 51, 53, 51, 54, 51, 55, 51, 56, 51, 57, 52, 48, 52, 49, 52, 50, 52, 51, 52, 52, 52, 53, 52, 54, 52, 55, 52, 56, 52, 57, 53, 48, 53, 49, 53, 50, 53, 51, 53, 52, 53, 53, 53, 54, 53, 55, 53, 56, 53, 57, 54, 48, 54, 49, 54, 50, 54, 51, 54, 52, 54, 53, 54, 54, 54, 55, 54, 56, 54, 57, 55, 48, 55, 49, 55, 50, 55, 51, 55, 52, 55, 53, 55, 54, 55, 55, 55, 56, 55, 57, 56, 48, 56, 49, 56, 50, 56, 51, 56, 52, 56, 53, 56, 54, 56, 55, 56, 56, 56, 57, 57, 48, 57, 49, 57, 50, 57, 51, 57, 52, 57, 53, 57, 54, 57, 55, 57, 56, 57, 57])) (.t 49), none⟩, []⟩,
 ⟨9, ⟨(some 51), .mov (.t 9), none⟩, []⟩,
 ⟨10, ⟨(some 52), .indexStr (.k (.str [48, 48, 48, 49, 48, 50, 48, 51, 48, 52, 48, 53, 48, 54, 48, 55, 48, 56, 48, 57, 49, 48, 49, 49, 49, 50, 49, 51, 49, 52, 49, 53, 49, 54, 49, 55, 49, 56, 49, 57, 50, 48, 50, 49, 50, 50, 50, 51, 50, 52, 50, 53, 50, 54, 50, 55, 50, 56, 50, 57, 51, 48, 51, 49, 51, 50, 51, 51, 51, 52, 51, 53, 51, 54, 51, 55, 51, 56, 51, 57, 52, 48, 52, 49, 52, 50, 52, 51, 52, 52, 52, 53, 52, 54, 52, 55, 52, 56, 52, 57, 53, 48, 53, 49, 53, 50, 53, 51, 53, 52, 53, 53, 53, 54, 53, 55, 53, 56, 53, 57, 54, 48, 54, 49, 54, 50, 54, 51, 54, 52, 54, 53, 54, 54, 54, 55, 54, 56, 54, 57, 55, 48, 55, 49, 55, 50, 55, 51, 55, 52, 55, 53, 55, 54, 55, 55, 55, 56, 55, 57, 56, 48, 56, 49, 56, 50, 56, 51, 56, 52, 56, 53, 56, 54, 56, 55, 56, 56, 56, 57, 57, 48, 57, 49, 57, 50, 57, 51, 57, 52, 57, 53, 57, 54, 57, 55, 57, 56, 57, 57])) (.t 51), none⟩, []⟩,
 ⟨11, ⟨(some 53), .indexAddr 1 false none (.t 42) (.t 44), none⟩, []⟩,
 ⟨12, ⟨none, .store 1 (.t 53) (.t 50), none⟩, []⟩,
 ⟨13, ⟨(some 54), .indexAddr 1 false none (.t 45) (.t 47), none⟩, []⟩,
 ⟨14, ⟨none, .store 1 (.t 54) (.t 52), none⟩, []⟩])
 (.seq (.plan [⟨0, ⟨(some 55), .mov (.t 0), none⟩, []⟩,
 ⟨1, ⟨(some 56), .mov (.t 4), none⟩, []⟩,
 ⟨2, ⟨(some 57), .bin .sub (.t 56) (.k (.int .i64 3)), none⟩, []⟩,
 ⟨3, ⟨(some 58), .mov (.t 0), none⟩, []⟩,
 ⟨4, ⟨(some 59), .mov (.t 4), none⟩, []⟩,
 ⟨5, ⟨(some 60), .bin .sub (.t 59) (.k (.int .i64 4)), none⟩, []⟩,
 ⟨6, ⟨(some 61), .mov (.t 8), none⟩, []⟩,
 ⟨7, ⟨(some 62), .bin .add (.t 61) (.k (.int .u32 1)), none⟩, []⟩,
 ⟨8, ⟨(some 63), .indexStr (.k (.str [48, 48, 48, 49, 48, 50, 48, 51, 48, 52, 48, 53, 48, 54, 48, 55, 48, 56, 48, 57, 49, 48, 49, 49, 49, 50, 49, 51, 49, 52, 49, 53, 49, 54, 49, 55, 49, 56, 49, 57, 50, 48, 50, 49, 50, 50, 50, 51, 50, 52, 50, 53, 50, 54, 50, 55, 50, 56, 50, 57, 51, 48, 51, 49, 51, 50, 51, 51, 51, 52, 51, 53, 51, 54, 51, 55, 51, 56, 51, 57, 52, 48, 52, 49, 52, 50, 52, 51, 52, 52, 52, 53, 52, 54, 52, 55, 52, 56, 52, 57, 53, 48, 53, 49, 53, 50, 53, 51, 53, 52, 53, 53, 53, 54, 53, 55, 53, 56, 53, 57, 54, 48, 54, 49, 54, 50, 54, 51, 54, 52, 54, 53, 54, 54, 54, 55, 54, 56, 54, 57, 55, 48, 55, 49, 55, 50, 55, 51, 55, 52, 55, 53, 55, 54, 55, 55, 55, 56, 55, 57, 56, 48, 56, 49, 56, 50, 56, 51, 56, 52, 56, 53, 56, 54, 56, 55, 56, 56, 56, 57, 57, 48, 57, 49, 57, 50, 57, 51, 57, 52, 57, 53, 57, 54, 57, 55, 57, 56, 57, 57])) (.t 62), none⟩, []⟩,
 ⟨9, ⟨(some 64), .mov (.t 8), none⟩, []⟩,
 ⟨10, ⟨(some 65), .indexStr (.k (.str [48, 48, 48, 49, 48, 50, 48, 51, 48, 52, 48, 53, 48, 54, 48, 55, 48, 56, 48, 57, 49, 48, 49, 49, 49, 50, 49, 51, 49, 52, 49, 53, 49, 54, 49, 55, 49, 56, 49, 57, 50, 48, 50, 49, 50, 50, 50, 51, 50, 52, 50, 53, 50, 54, 50, 55, 50, 56, 50, 57, 51, 48, 51, 49, 51, 50, 51, 51, 51, 52, 51, 53, 51, 54, 51, 55, 51, 56, 51, 57, 52, 48, 52, 49, 52, 50, 52, 51, 52, 52, 52, 53, 52, 54, 52, 55, 52, 56, 52, 57, 53, 48, 53, 49, 53, 50, 53, 51, 53, 52, 53, 53, 53, 54, 53, 55, 53, 56, 53, 57, 54, 48, 54, 49, 54, 50, 54, 51, 54, 52, 54, 53, 54, 54, 54, 55, 54, 56, 54, 57, 55, 48, 55, 49, 55, 50, 55, 51, 55, 52, 55, 53, 55, 54, 55, 55, 55, 56, 55, 57, 56, 48, 56, 49, 56, 50, 56, 51, 56, 52, 56, 53, 56, 54, 56, 55, 56, 56, 56, 57, 57, 48, 57, 49, 57, 50, 57, 51, 57, 52, 57, 53, 57, 54, 57, 55, 57, 56, 57, 57])) (.t 64), none⟩, []⟩,
 ⟨11, ⟨(some 66), .indexAddr 1 false none (.t 55) (.t 57), none⟩, []⟩,
 ⟨12, ⟨none, .store 1 (.t 66) (.t 63), none⟩, []⟩,
 ⟨13, ⟨(some 67), .indexAddr 1 false none (.t 58) (.t 60), none⟩, []⟩,
 ⟨14, ⟨none, .store 1 (.t 67) (.t 65), none⟩, []⟩])
 (.seq (.plan [⟨0, ⟨(some 68), .mov (.t 0), none⟩, []⟩,
 ⟨1, ⟨(some 69), .mov (.t 4), none⟩, []⟩,
 ⟨2, ⟨(some 70), .bin .sub (.t 69) (.k (.int .i64 5)), none⟩, []⟩,
 ⟨3, ⟨(some 71), .mov (.t 0), none⟩, []⟩,
 ⟨4, ⟨(some 72), .mov (.t 4), none⟩, []⟩,
 ⟨5, ⟨(some 73), .bin .sub (.t 72) (.k (.int .i64 6)), none⟩, []⟩,
 ⟨6, ⟨(some 74), .mov (.t 11), none⟩, []⟩,
 ⟨7, ⟨(some 75), .bin .add (.t 74) (.k (.int .u32 1)), none⟩, []⟩,
 ⟨8, ⟨(some 76), .indexStr (.k (.str [48, 48, 48, 49, 48, 50, 48, 51, 48, 52, 48, 53, 48, 54, 48, 55, 48, 56, 48, 57, 49, 48, 49, 49, 49, 50, 49, 51, 49, 52, 49, 53, 49, 54, 49, 55, 49, 56, 49, 57, 50, 48, 50, 49, 50, 50, 50, 51, 50, 52, 50, 53, 50, 54, 50, 55, 50, 56, 50, 57, 51, 48, 51, 49, 51, 50, 51, 51, 51, 52, 51, 53, 51, 54, 51, 55, 51, 56, 51, 57, 52, 48, 52, 49, 52, 50, 52, 51, 52, 52, 52, 53, 52, 54, 52, 55, 52, 56, 52, 57, 53, 48, 53, 49, 53, 50, 53, 51, 53, 52, 53, 53, 53, 54, 53, 55, 53, 56, 53, 57, 54, 48, 54, 49, 54, 50, 54, 51, 54, 52, 54, 53, 54, 54, 54, 55, 54, 56, 54, 57, 55, 48, 55, 49, 55, 50, 55, 51, 55, 52, 55, 53, 55, 54, 55, 55, 55, 56, 55, 57, 56, 48, 56, 49, 56, 50, 56, 51, 56, 52, 56, 53, 56, 54, 56, 55, 56, 56, 56, 57, 57, 48, 57, 49, 57, 50, 57, 51, 57, 52, 57, 53, 57, 54, 57, 55, 57, 56, 57, 57])) (.t 75), none⟩, []⟩,
 ⟨9, ⟨(some 77), .mov (.t 11), none⟩, []⟩,
 ⟨10, ⟨(some 78), .indexStr (.k (.str [48, 48, 48, 49, 48, 50, 48, 51, 48, 52, 48, 53, 48, 54, 48, 55, 48, 56, 48, 57, 49, 48, 49, 49, 49, 50, 49, 51, 49, 52, 49, 53, 49, 54, 49, 55, 49, 56, 49, 57, 50, 48, 50, 49, 50, 50, 50, 51, 50, 52, 50, 53, 50, 54, 50, 55, 50, 56, 50, 57, 51, 48, 51, 49, 51, 50, 51, 51, 51, 52, 51, 53, 51, 54, 51, 55, 51, 56, 51, 57, 52, 48, 52, 49, 52, 50, 52, 51, 52, 52, 52, 53, 52, 54, 52, 55, 52, 56, 52, 57, 53, 48, 53, 49, 53, 50, 53, 51, 53, 52, 53, 53, 53, 54, 53, 55, 53, 56, 53, 57, 54, 48, 54, 49, 54, 50, 54, 51, 54, 52, 54, 53, 54, 54, 54, 55, 54, 56, 54, 57, 55, 48, 55, 49, 55, 50, 55, 51, 55, 52, 55, 53, 55, 54, 55, 55, 55, 56, 55, 57, 56, 48, 56, 49, 56, 50, 56, 51, 56, 52, 56, 53, 56, 54, 56, 55, 56, 56, 56, 57, 57, 48, 57, 49, 57, 50, 57, 51, 57, 52, 57, 53, 57, 54, 57, 55, 57, 56, 57, 57])) (.t 77), none⟩, []⟩,
 ⟨11, ⟨(some 79), .indexAddr 1 false none (.t 68) (.t 70), none⟩, []⟩,
 ⟨12, ⟨none, .store 1 (.t 79) (.t 76), none⟩, []⟩,
 ⟨13, ⟨(some 80), .indexAddr 1 false none (.t 71) (.t 73), none⟩, []⟩,
 ⟨14, ⟨none, .store 1 (.t 80) (.t 78), none⟩, []⟩])
 (.seq (.plan [⟨0, ⟨(some 81), .mov (.t 0), none⟩, []⟩,
 ⟨1, ⟨(some 82), .mov (.t 4), none⟩, []⟩,
 ⟨2, ⟨(some 83), .bin .sub (.t 82) (.k (.int .i64 7)), none⟩, []⟩,
 ⟨3, ⟨(some 84), .mov (.t 0), none⟩, []⟩,
 ⟨4, ⟨(some 85), .mov (.t 4), none⟩, []⟩,
 ⟨5, ⟨(some 86), .bin .sub (.t 85) (.k (.int .i64 8)), none⟩, []⟩,
 ⟨6, ⟨(some 87), .mov (.t 10), none⟩, []⟩,
 ⟨7, ⟨(some 88), .bin .add (.t 87) (.k (.int .u32 1)), none⟩, []⟩,
 ⟨8, ⟨(some 89), .indexStr (.k (.str [48, 48, 48, 49, 48, 50, 48, 51, 48, 52, 48, 53, 48, 54, 48, 55, 48, 56, 48, 57, 49, 48, 49, 49, 49, 50, 49, 51, 49, 52, 49, 53, 49, 54, 49, 55, 49, 56, 49, 57, 50, 48, 50, 49, 50, 50, 50, 51, 50, 52, 50, 53, 50, 54, 50, 55, 50, 56, 50, 57, 51, 48, 51, 49, 51, 50, 51, 51, 51, 52, 51, 53, 51, 54, 51, 55, 51, 56, 51, 57, 52, 48, 52, 49, 52, 50, 52, 51, 52, 52, 52, 53, 52, 54, 52, 55, 52, 56, 52, 57, 53, 48, 53, 49, 53, 50, 53, 51, 53, 52, 53, 53, 53, 54, 53, 55, 53, 56, 53, 57, 54, 48, 54, 49, 54, 50, 54, 51, 54, 52, 54, 53, 54, 54, 54, 55, 54, 56, 54, 57, 55, 48, 55, 49, 55, 50, 55, 51, 55, 52, 55, 53, 55, 54, 55, 55, 55, 56, 55, 57, 56, 48, 56, 49, 56, 50, 56, 51, 56, 52, 56, 53, 56, 54, 56, 55, 56, 56, 56, 57, 57, 48, 57, 49, 57, 50, 57, 51, 57, 52, 57, 53, 57, 54, 57, 55, 57, 56, 57, 57])) (.t 88), none⟩, []⟩,
 ⟨9, ⟨(some 90), .mov (.t 10), none⟩, []⟩,
 ⟨10, ⟨(some 91), .indexStr (.k (.str [48, 48, 48, 49, 48, 50, 48, 51, 48, 52, 48, 53, 48, 54, 48, 55, 48, 56, 48, 57, 49, 48, 49, 49, 49, 50, 49, 51, 49, 52, 49, 53, 49, 54, 49, 55, 49, 56, 49, 57, 50, 48, 50, 49, 50, 50, 50, 51, 50, 52, 50, 53, 50, 54, 50, 55, 50, 56, 50, 57, 51, 48, 51, 49, 51, 50, 51, 51, 51, 52, 51, 53, 51, 54, 51, 55, 51, 56, 51, 57, 52, 48, 52, 49, 52, 50, 52, 51, 52, 52, 52, 53, 52, 54, 52, 55, 52, 56, 52, 57, 53, 48, 53, 49, 53, 50, 53, 51, 53, 52, 53, 53, 53, 54, 53, 55, 53, 56, 53, 57, 54, 48, 54, 49, 54, 50, 54, 51, 54, 52, 54, 53, 54, 54, 54, 55, 54, 56, 54, 57, 55, 48, 55, 49, 55, 50, 55, 51, 55, 52, 55, 53, 55, 54, 55, 55, 55, 56, 55, 57, 56, 48, 56, 49, 56, 50, 56, 51, 56, 52, 56, 53, 56, 54, 56, 55, 56, 56, 56, 57, 57, 48, 57, 49, 57, 50, 57, 51, 57, 52, 57, 53, 57, 54, 57, 55, 57, 56, 57, 57])) (.t 90), none⟩, []⟩,
 ⟨11, ⟨(some 92), .indexAddr 1 false none (.t 81) (.t 83), none⟩, []⟩,
 ⟨12, ⟨none, .store 1 (.t 92) (.t 89), none⟩, []⟩,
 ⟨13, ⟨(some 93), .indexAddr 1 false none (.t 84) (.t 86), none⟩, []⟩,
 ⟨14, ⟨none, .store 1 (.t 93) (.t 91), none⟩, []⟩])
 (.reg [⟨(some 94), .mov (.t 4), none⟩,
 ⟨(some 95), .bin .sub (.t 94) (.k (.int .i64 8)), none⟩,
 ⟨(some 4), .mov (.t 95), none⟩]))))))))))))

def a33 : AFunc := ⟨167, [],
 (.seq (.reg [⟨(some 17), .mov (.t 0), none⟩,
 ⟨(some 18), .lenSl (.t 17), none⟩,
 ⟨(some 4), .mov (.t 18), none⟩])
 (.seq (.block 0 (.loop a33_0))
 (.seq (.reg [⟨(some 96), .mov (.t 1), none⟩,
 ⟨(some 97), .convInt .u32 (.t 96), none⟩,
 ⟨(some 12), .mov (.t 97), none⟩])
 (.seq (.seq (.reg [⟨(some 98), .mov (.t 4), none⟩,
 ⟨(some 99), .bin .geq (.t 98) (.k (.int .i64 4)), none⟩])
 (.cond (.t 99) (.seq (.reg [⟨(some 100), .mov (.t 12), none⟩,
 ⟨(some 101), .bin .rem (.t 100) (.k (.int .u32 10000)), none⟩,
 ⟨(some 13), .mov (.t 101), none⟩])
 (.seq (.reg [⟨(some 102), .mov (.t 12), none⟩,
 ⟨(some 103), .bin .quo (.t 102) (.k (.int .u32 10000)), none⟩,
 ⟨(some 12), .mov (.t 103), none⟩])
 (.seq (.reg [⟨(some 104), .mov (.t 13), none⟩,
 ⟨(some 105), .bin .quo (.t 104) (.k (.int .u32 100)), none⟩,
 ⟨(some 106), .bin .mul (.t 105) (.k (.int .u32 2)), none⟩,
 ⟨(some 107), .mov (.t 13), none⟩,
 ⟨(some 108), .bin .rem (.t 107) (.k (.int .u32 100)), none⟩,
 ⟨(some 109), .bin .mul (.t 108) (.k (.int .u32 2)), none⟩,
 ⟨(some 14), .mov (.t 106), none⟩,
 ⟨(some 15), .mov (.t 109), none⟩])
 (.seq (.plan [⟨0, ⟨(some 110), .mov (.t 0), none⟩, []⟩,
 ⟨1, ⟨(some 111), .mov (.t 4), none⟩, []⟩,
 ⟨2, ⟨(some 112), .bin .sub (.t 111) (.k (.int .i64 1)), none⟩, []⟩,
 ⟨3, ⟨(some 113), .mov (.t 0), none⟩, []⟩,
 ⟨4, ⟨(some 114), .mov (.t 4), none⟩, []⟩,
 ⟨5, ⟨(some 115), .bin .sub (.t 114) (.k (.int .i64 2)), none⟩, []⟩,
 ⟨6, ⟨(some 116), .mov (.t 15), none⟩, []⟩,
 ⟨7, ⟨(some 117), .bin .add (.t 116) (.k (.int .u32 1)), none⟩, []⟩,
 ⟨8, ⟨(some 118), .indexStr (.k (.str [48, 48, 48, 49, 48, 50, 48, 51, 48, 52, 48, 53, 48, 54, 48, 55, 48, 56, 48, 57, 49, 48, 49, 49, 49, 50, 49, 51, 49, 52, 49, 53, 49, 54, 49, 55, 49, 56, 49, 57, 50, 48, 50, 49, 50, 50, 50, 51, 50, 52, 50, 53, 50, 54, 50, 55, 50, 56, 50, 57, 51, 48, 51, 49, 51, 50, 51, 51, 51, 52, 51, 53, 51, 54, 51, 55, 51, 56, 51, 57, 52, 48, 52, 49, 52, 50, 52, 51, 52, 52, 52, 53, 52, 54, 52, 55, 52, 56, 52, 57, 53, 48, 53, 49, 53, 50, 53, 51, 53, 52, 53, 53, 53, 54, 53, 55, 53, 56, 53, 57, 54, 48, 54, 49, 54, 50, 54, 51, 54, 52, 54, 53, 54, 54, 54, 55, 54, 56, 54, 57, 55, 48, 55, 49, 55, 50, 55, 51, 55, 52, 55, 53, 55, 54, 55, 55, 55, 56, 55, 57, 56, 48, 56, 49, 56, 50, 56, 51, 56, 52, 56, 53, 56, 54, 56, 55, 56, 56, 56, 57, 57, 48, 57, 49, 57, 50, 57, 51, 57, 52, 57, 53, 57, 54, 57, 55, 57, 56, 57, 57])) (.t 117), none⟩, []⟩,
 ⟨9, ⟨(some 119), .mov (.t 15), none⟩, []⟩,
 ⟨10, ⟨(some 120), .indexStr (.k (.str [48, 48, 48, 49, 48, 50, 48, 51, 48, 52, 48, 53, 48, 54, 48, 55, 48, 56, 48, 57, 49, 48, 49, 49, 49, 50, 49, 51, 49, 52, 49, 53, 49, 54, 49, 55, 49, 56, 49, 57, 50, 48, 50, 49, 50, 50, 50, 51, 50, 52, 50, 53, 50, 54, 50, 55, 50, 56, 50, 57, 51, 48, 51, 49, 51, 50, 51, 51, 51, 52, 51, 53, 51, 54, 51, 55, 51, 56, 51, 57, 52, 48, 52, 49, 52, 50, 52, 51, 52, 52, 52, 53, 52, 54, 52, 55, 52, 56, 52, 57, 53, 48, 53, 49, 53, 50, 53, 51, 53, 52, 53, 53, 53, 54, 53, 55, 53, 56, 53, 57, 54, 48, 54, 49, 54, 50, 54, 51, 54, 52, 54, 53, 54, 54, 54, 55, 54, 56, 54, 57, 55, 48, 55, 49, 55, 50, 55, 51, 55, 52, 55, 53, 55, 54, 55, 55, 55, 56, 55, 57, 56, 48, 56, 49, 56, 50, 56, 51, 56, 52, 56, 53, 56, 54, 56, 55, 56, 56, 56, 57, 57, 48, 57, 49, 57, 50, 57, 51, 57, 52, 57, 53, 57, 54, 57, 55, 57, 56, 57, 57])) (.t 119), none⟩, []⟩,
 ⟨11, ⟨(some 121), .indexAddr 1 false none (.t 110) (.t 112), none⟩, []⟩,
 ⟨12, ⟨none, .store 1 (.t 121) (.t 118), none⟩, []⟩,
 ⟨13, ⟨(some 122), .indexAddr 1 false none (.t 113) (.t 115), none⟩, []⟩,
 ⟨14, ⟨none, .store 1 (.t 122) (.t 120), none⟩, []⟩])
 (.seq (.plan [⟨0, ⟨(some 123), .mov (.t 0), none⟩, []⟩,
 ⟨1, ⟨(some 124), .mov (.t 4), none⟩, []⟩,
 ⟨2, ⟨(some 125), .bin .sub (.t 124) (.k (.int .i64 3)), none⟩, []⟩,
 ⟨3, ⟨(some 126), .mov (.t 0), none⟩, []⟩,
 ⟨4, ⟨(some 127), .mov (.t 4), none⟩, []⟩,
 ⟨5, ⟨(some 128), .bin .sub (.t 127) (.k (.int .i64 4)), none⟩, []⟩,
 ⟨6, ⟨(some 129), .mov (.t 14), none⟩, []⟩,
 ⟨7, ⟨(some 130), .bin .add (.t 129) (.k (.int .u32 1)), none⟩, []⟩,
 ⟨8, ⟨(some 131), .indexStr (.k (.str [48, 48, 48, 49, 48, 50, 48, 51, 48, 52, 48, 53, 48, 54, 48, 55, 48, 56, 48, 57, 49, 48, 49, 49, 49, 50, 49, 51, 49, 52, 49, 53, 49, 54, 49, 55, 49, 56, 49, 57, 50, 48, 50, 49, 50, 50, 50, 51, 50, 52, 50, 53, 50, 54, 50, 55, 50, 56, 50, 57, 51, 48, 51, 49, 51, 50, 51, 51, 51, 52, 51, 53, 51, 54, 51, 55, 51, 56, 51, 57, 52, 48, 52, 49, 52, 50, 52, 51, 52, 52, 52, 53, 52, 54, 52, 55, 52, 56, 52, 57, 53, 48, 53, 49, 53, 50, 53, 51, 53, 52, 53, 53, 53, 54, 53, 55, 53, 56, 53, 57, 54, 48, 54, 49, 54, 50, 54, 51, 54, 52, 54, 53, 54, 54, 54, 55, 54, 56, 54, 57, 55, 48, 55, 49, 55, 50, 55, 51, 55, 52, 55, 53, 55, 54, 55, 55, 55, 56, 55, 57, 56, 48, 56, 49, 56, 50, 56, 51, 56, 52, 56, 53, 56, 54, 56, 55, 56, 56, 56, 57, 57, 48, 57, 49, 57, 50, 57, 51, 57, 52, 57, 53, 57, 54, 57, 55, 57, 56, 57, 57])) (.t 130), none⟩, []⟩,
 ⟨9, ⟨(some 132), .mov (.t 14), none⟩, []⟩,
 ⟨10, ⟨(some 133), .indexStr (.k (.str [48, 48, 48, 49, 48, 50, 48, 51, 48, 52, 48, 53, 48, 54, 48, 55, 48, 56, 48, 57, 49, 48, 49, 49, 49, 50, 49, 51, 49, 52, 49, 53, 49, 54, 49, 55, 49, 56, 49, 57, 50, 48, 50, 49, 50, 50, 50, 51, 50, 52, 50, 53, 50, 54, 50, 55, 50, 56, 50, 57, 51, 48, 51, 49, 51, 50, 51, 51, 51, 52, 51, 53, 51, 54, 51, 55, 51, 56, 51, 57, 52, 48, 52, 49, 52, 50, 52, 51, 52, 52, 52, 53, 52, 54, 52, 55, 52, 56, 52, 57, 53, 48, 53, 49, 53, 50, 53, 51, 53, 52, 53, 53, 53, 54, 53, 55, 53, 56, 53, 57, 54, 48, 54, 49, 54, 50, 54, 51, 54, 52, 54, 53, 54, 54, 54, 55, 54, 56, 54, 57, 55, 48, 55, 49, 55, 50, 55, 51, 55, 52, 55, 53, 55, 54, 55, 55, 55, 56, 55, 57, 56, 48, 56, 49, 56, 50, 56, 51, 56, 52, 56, 53, 56, 54, 56, 55, 56, 56, 56, 57, 57, 48, 57, 49, 57, 50, 57, 51, 57, 52, 57, 53, 57, 54, 57, 55, 57, 56, 57, 57])) (.t 132), none⟩, []⟩,
 ⟨11, ⟨(some 134), .indexAddr 1 false none (.t 123) (.t 125), none⟩, []⟩,
 ⟨12, ⟨none, .store 1 (.t 134) (.t 131), none⟩, []⟩,
 ⟨13, ⟨(some 135), .indexAddr 1 false none (.t 126) (.t 128), none⟩, []⟩,
 ⟨14, ⟨none, .store 1 (.t 135) (.t 133), none⟩, []⟩])
 (.reg [⟨(some 136), .mov (.t 4), none⟩,
 ⟨(some 137), .bin .sub (.t 136) (.k (.int .i64 4)), none⟩,
 ⟨(some 4), .mov (.t 137), none⟩]))))))
 .skip))
 (.seq (.seq (.reg [⟨(some 138), .mov (.t 4), none⟩,
 ⟨(some 139), .bin .geq (.t 138) (.k (.int .i64 2)), none⟩])
 (.cond (.t 139) (.seq (.reg [⟨(some 140), .mov (.t 12), none⟩,
 ⟨(some 141), .bin .rem (.t 140) (.k (.int .u32 100)), none⟩,
 ⟨(some 142), .bin .mul (.t 141) (.k (.int .u32 2)), none⟩,
 ⟨(some 16), .mov (.t 142), none⟩])
 (.seq (.reg [⟨(some 143), .mov (.t 12), none⟩,
 ⟨(some 144), .bin .quo (.t 143) (.k (.int .u32 100)), none⟩,
 ⟨(some 12), .mov (.t 144), none⟩])
 (.seq (.plan [⟨0, ⟨(some 145), .mov (.t 0), none⟩, []⟩,
 ⟨1, ⟨(some 146), .mov (.t 4), none⟩, []⟩,
 ⟨2, ⟨(some 147), .bin .sub (.t 146) (.k (.int .i64 1)), none⟩, []⟩,
 ⟨3, ⟨(some 148), .mov (.t 0), none⟩, []⟩,
 ⟨4, ⟨(some 149), .mov (.t 4), none⟩, []⟩,
 ⟨5, ⟨(some 150), .bin .sub (.t 149) (.k (.int .i64 2)), none⟩, []⟩,
 ⟨6, ⟨(some 151), .mov (.t 16), none⟩, []⟩,
 ⟨7, ⟨(some 152), .bin .add (.t 151) (.k (.int .u32 1)), none⟩, []⟩,
 ⟨8, ⟨(some 153), .indexStr (.k (.str [48, 48, 48, 49, 48, 50, 48, 51, 48, 52, 48, 53, 48, 54, 48, 55, 48, 56, 48, 57, 49, 48, 49, 49, 49, 50, 49, 51, 49, 52, 49, 53, 49, 54, 49, 55, 49, 56, 49, 57, 50, 48, 50, 49, 50, 50, 50, 51, 50, 52, 50, 53, 50, 54, 50, 55, 50, 56, 50, 57, 51, 48, 51, 49, 51, 50, 51, 51, 51, 52, 51, 53, 51, 54, 51, 55, 51, 56, 51, 57, 52, 48, 52, 49, 52, 50, 52, 51, 52, 52, 52, 53, 52, 54, 52, 55, 52, 56, 52, 57, 53, 48, 53, 49, 53, 50, 53, 51, 53, 52, 53, 53, 53, 54, 53, 55, 53, 56, 53, 57, 54, 48, 54, 49, 54, 50, 54, 51, 54, 52, 54, 53, 54, 54, 54, 55, 54, 56, 54, 57, 55, 48, 55, 49, 55, 50, 55, 51, 55, 52, 55, 53, 55, 54, 55, 55, 55, 56, 55, 57, 56, 48, 56, 49, 56, 50, 56, 51, 56, 52, 56, 53, 56, 54, 56, 55, 56, 56, 56, 57, 57, 48, 57, 49, 57, 50, 57, 51, 57, 52, 57, 53, 57, 54, 57, 55, 57, 56, 57, 57])) (.t 152), none⟩, []⟩,
 ⟨9, ⟨(some 154), .mov (.t 16), none⟩, []⟩,
 ⟨10, ⟨(some 155), .indexStr (.k (.str [48, 48, 48, 49, 48, 50, 48, 51, 48, 52, 48, 53, 48, 54, 48, 55, 48, 56, 48, 57, 49, 48, 49, 49, 49, 50, 49, 51, 49, 52, 49, 53, 49, 54, 49, 55, 49, 56, 49, 57, 50, 48, 50, 49, 50, 50, 50, 51, 50, 52, 50, 53, 50, 54, 50, 55, 50, 56, 50, 57, 51, 48, 51, 49, 51, 50, 51, 51, 51, 52, 51, 53, 51, 54, 51, 55, 51, 56, 51, 57, 52, 48, 52, 49, 52, 50, 52, 51, 52, 52, 52, 53, 52, 54, 52, 55, 52, 56, 52, 57, 53, 48, 53, 49, 53, 50, 53, 51, 53, 52, 53, 53, 53, 54, 53, 55, 53, 56, 53, 57, 54, 48, 54, 49, 54, 50, 54, 51, 54, 52, 54, 53, 54, 54, 54, 55, 54, 56, 54, 57, 55, 48, 55, 49, 55, 50, 55, 51, 55, 52, 55, 53, 55, 54, 55, 55, 55, 56, 55, 57, 56, 48, 56, 49, 56, 50, 56, 51, 56, 52, 56, 53, 56, 54, 56, 55, 56, 56, 56, 57, 57, 48, 57, 49, 57, 50, 57, 51, 57, 52, 57, 53, 57, 54, 57, 55, 57, 56, 57, 57])) (.t 154), none⟩, []⟩,
 ⟨11, ⟨(some 156), .indexAddr 1 false none (.t 145) (.t 147), none⟩, []⟩,
 ⟨12, ⟨none, .store 1 (.t 156) (.t 153), none⟩, []⟩,
 ⟨13, ⟨(some 157), .indexAddr 1 false none (.t 148) (.t 150), none⟩, []⟩,
 ⟨14, ⟨none, .store 1 (.t 157) (.t 155), none⟩, []⟩])
 (.reg [⟨(some 158), .mov (.t 4), none⟩,
 ⟨(some 159), .bin .sub (.t 158) (.k (.int .i64 2)), none⟩,
 ⟨(some 4), .mov (.t 159), none⟩]))))
 .skip))
 (.seq (.reg [⟨(some 160), .mov (.t 4), none⟩,
 ⟨(some 161), .bin .gtr (.t 160) (.k (.int .i64 0)), none⟩])
 (.cond (.t 161) (.reg [⟨(some 162), .mov (.t 0), none⟩,
 ⟨(some 163), .mov (.t 12), none⟩,
 ⟨(some 164), .bin .add (.k (.int .u32 48)) (.t 163), none⟩,
 ⟨(some 165), .convInt .u8 (.t 164), none⟩,
 ⟨(some 166), .indexAddr 1 false none (.t 162) (.k (.int .i64 0)), none⟩,
 ⟨none, .store 1 (.t 166) (.t 165), none⟩])
 .skip))))))),
 [], false⟩

def a34_0 : ACode := (.seq (.seq (.reg [⟨(some 66), .mov (.t 1), none⟩,
 ⟨(some 67), .mov (.t 17), none⟩,
 ⟨(some 68), .bin .geq (.t 66) (.t 67), none⟩])
 (.cond (.t 68) .skip
 (.exit 2)))
 (.block 3 (.seq (.reg [⟨(some 69), .mov (.t 13), none⟩,
 ⟨(some 70), .bin .sub (.t 69) (.k (.int .i64 1)), none⟩,
 ⟨(some 13), .mov (.t 70), none⟩])
 (.seq (.reg [⟨(some 71), .mov (.t 1), none⟩,
 ⟨(some 72), .mov (.t 17), none⟩,
 ⟨(some 73), .bin .quo (.t 71) (.t 72), none⟩,
 ⟨(some 18), .mov (.t 73), none⟩])
 (.seq (.reg [⟨(some 74), .mov (.t 13), none⟩,
 ⟨(some 75), .mov (.t 1), none⟩,
 ⟨(some 76), .mov (.t 18), none⟩,
 ⟨(some 77), .mov (.t 17), none⟩,
 ⟨(some 78), .bin .mul (.t 76) (.t 77), none⟩,
 ⟨(some 79), .bin .sub (.t 75) (.t 78), none⟩,
 ⟨(some 80), .indexStr (.k (.str [48, 49, 50, 51, 52, 53, 54, 55, 56, 57, 97, 98, 99, 100, 101, 102, 103, 104, 105, 106, 107, 108, 109, 110, 111, 112, 113, 114, 115, 116, 117, 118, 119, 120, 121, 122])) (.t 79), none⟩,
 ⟨(some 81), .indexAddr 1 false (some 65) (.t 12) (.t 74), none⟩,
 ⟨none, .store 1 (.t 81) (.t 80), none⟩])
 (.reg [⟨(some 82), .mov (.t 18), none⟩,
 ⟨(some 1), .mov (.t 82), none⟩]))))))

def a34_1 : ACode := (.seq (.seq (.reg [⟨(some 44), .mov (.t 1), none⟩,
 ⟨(some 45), .mov (.t 15), none⟩,
 ⟨(some 46), .bin .geq (.t 44) (.t 45), none⟩])
 (.cond (.t 46) .skip
 (.exit 0)))
 (.block 1 (.seq (.reg [⟨(some 47), .mov (.t 13), none⟩,
 ⟨(some 48), .bin .sub (.t 47) (.k (.int .i64 1)), none⟩,
 ⟨(some 13), .mov (.t 48), none⟩])
 (.seq (.reg [⟨(some 49), .mov (.t 13), none⟩,
 ⟨(some 50), .mov (.t 1), none⟩,
 ⟨(some 51), .mov (.t 16), none⟩,
 ⟨(some 52), .bin .and (.t 50) (.t 51), none⟩,
 ⟨(some 53), .indexStr (.k (.str [48, 49, 50, 51, 52, 53, 54, 55, 56, 57, 97, 98, 99, 100, 101, 102, 103, 104, 105, 106, 107, 108, 109, 110, 111, 112, 113, 114, 115, 116, 117, 118, 119, 120, 121, 122])) (.t 52), none⟩,
 ⟨(some 54), .indexAddr 1 false (some 65) (.t 12) (.t 49), none⟩,
 ⟨none, .store 1 (.t 54) (.t 53), none⟩])
 (.reg [⟨(some 55), .mov (.t 1), none⟩,
 ⟨(some 56), .mov (.t 14), none⟩,
 ⟨(some 57), .bin .shr (.t 55) (.t 56), none⟩,
 ⟨(some 1), .mov (.t 57), none⟩])))))

def a34 : AFunc := ⟨102, [.tmp 10, .tmp 11],
 (.seq (.reg [⟨(some 10), .mov (.k (.lst 1 [] .tight)), none⟩,
 ⟨(some 11), .mov (.k (.str [])), none⟩])
 (.seq (.seq (.reg [⟨(some 19), .mov (.t 2), none⟩,
 ⟨(some 20), .bin .lss (.t 19) (.k (.int .i64 2)), none⟩,
 ⟨(some 21), .mov (.t 20), none⟩,
 ⟨(some 22), .mov (.t 2), some (21, false)⟩,
 ⟨(some 23), .bin .eql (.t 22) (.k (.int .i64 10)), some (21, false)⟩,
 ⟨(some 24), .pick (.t 21) (.k (.bool true)) (.t 23), none⟩,
 ⟨(some 25), .mov (.t 24), none⟩,
 ⟨(some 26), .mov (.t 2), some (25, false)⟩,
 ⟨(some 27), .bin .gtr (.t 26) (.k (.int .i64 36)), some (25, false)⟩,
 ⟨(some 28), .pick (.t 25) (.k (.bool true)) (.t 27), none⟩])
 (.cond (.t 28) (.reg [⟨(some 29), .mkIface 9 (.k (.str [115, 116, 114, 99, 111, 110, 118, 58, 32, 105, 108, 108, 101, 103, 97, 108, 32, 65, 112, 112, 101, 110, 100, 73, 110, 116, 47, 70, 111, 114, 109, 97, 116, 73, 110, 116, 32, 98, 97, 115, 101])), none⟩,
 ⟨none, .panic (.t 29), none⟩])
 .skip))
 (.seq (.reg [⟨(some 12), .new (.agg [(.int .u8 0), (.int .u8 0), (.int .u8 0), (.int .u8 0), (.int .u8 0), (.int .u8 0), (.int .u8 0), (.int .u8 0), (.int .u8 0), (.int .u8 0), (.int .u8 0), (.int .u8 0), (.int .u8 0), (.int .u8 0), (.int .u8 0), (.int .u8 0), (.int .u8 0), (.int .u8 0), (.int .u8 0), (.int .u8 0), (.int .u8 0), (.int .u8 0), (.int .u8 0), (.int .u8 0), (.int .u8 0), (.int .u8 0), (.int .u8 0), (.int .u8 0), (.int .u8 0), (.int .u8 0), (.int .u8 0), (.int .u8 0), (.int .u8 0), (.int .u8 0), (.int .u8 0), (.int .u8 0), (.int .u8 0), (.int .u8 0), (.int .u8 0), (.int .u8 0), (.int .u8 0), (.int .u8 0), (.int .u8 0), (.int .u8 0), (.int .u8 0), (.int .u8 0), (.int .u8 0), (.int .u8 0), (.int .u8 0), (.int .u8 0), (.int .u8 0), (.int .u8 0), (.int .u8 0), (.int .u8 0), (.int .u8 0), (.int .u8 0), (.int .u8 0), (.int .u8 0), (.int .u8 0), (.int .u8 0), (.int .u8 0), (.int .u8 0), (.int .u8 0), (.int .u8 0), (.int .u8 0)]) true none, none⟩])
 (.seq (.reg [⟨(some 13), .mov (.k (.int .i64 65)), none⟩])
 (.seq (.seq (.reg [⟨(some 30), .mov (.t 3), none⟩])
 (.cond (.t 30) (.reg [⟨(some 31), .mov (.t 1), none⟩,
 ⟨(some 32), .un .neg (.t 31), none⟩,
 ⟨(some 1), .mov (.t 32), none⟩])
 .skip))
 (.seq (.seq (.reg [⟨(some 33), .mov (.t 2), none⟩,
 ⟨(some 34), .call (.k (.func (.func 51) [] [])) [(.t 33)], none⟩])
 (.cond (.t 34) (.seq (.reg [⟨(some 35), .mov (.t 2), none⟩,
 ⟨(some 36), .convInt .u64 (.t 35), none⟩,
 ⟨(some 37), .call (.k (.func (.func 52) [] [])) [(.t 36)], none⟩,
 ⟨(some 38), .convInt .u64 (.t 37), none⟩,
 ⟨(some 14), .mov (.t 38), none⟩])
 (.seq (.reg [⟨(some 39), .mov (.t 2), none⟩,
 ⟨(some 40), .convInt .u64 (.t 39), none⟩,
 ⟨(some 15), .mov (.t 40), none⟩])
 (.seq (.reg [⟨(some 41), .mov (.t 2), none⟩,
 ⟨(some 42), .convInt .u64 (.t 41), none⟩,
 ⟨(some 43), .bin .sub (.t 42) (.k (.int .u64 1)), none⟩,
 ⟨(some 16), .mov (.t 43), none⟩])
 (.seq (.block 0 (.loop a34_1))
 (.seq (.reg [⟨(some 58), .mov (.t 13), none⟩,
 ⟨(some 59), .bin .sub (.t 58) (.k (.int .i64 1)), none⟩,
 ⟨(some 13), .mov (.t 59), none⟩])
 (.reg [⟨(some 60), .mov (.t 13), none⟩,
 ⟨(some 61), .mov (.t 1), none⟩,
 ⟨(some 62), .indexStr (.k (.str [48, 49, 50, 51, 52, 53, 54, 55, 56, 57, 97, 98, 99, 100, 101, 102, 103, 104, 105, 106, 107, 108, 109, 110, 111, 112, 113, 114, 115, 116, 117, 118, 119, 120, 121, 122])) (.t 61), none⟩,
 ⟨(some 63), .indexAddr 1 false (some 65) (.t 12) (.t 60), none⟩,
 ⟨none, .store 1 (.t 63) (.t 62), none⟩]))))))
 (.seq (.reg [⟨(some 64), .mov (.t 2), none⟩,
 ⟨(some 65), .convInt .u64 (.t 64), none⟩,
 ⟨(some 17), .mov (.t 65), none⟩])
 (.seq (.block 2 (.loop a34_0))
 (.seq (.reg [⟨(some 83), .mov (.t 13), none⟩,
 ⟨(some 84), .bin .sub (.t 83) (.k (.int .i64 1)), none⟩,
 ⟨(some 13), .mov (.t 84), none⟩])
 (.reg [⟨(some 85), .mov (.t 13), none⟩,
 ⟨(some 86), .mov (.t 1), none⟩,
 ⟨(some 87), .indexStr (.k (.str [48, 49, 50, 51, 52, 53, 54, 55, 56, 57, 97, 98, 99, 100, 101, 102, 103, 104, 105, 106, 107, 108, 109, 110, 111, 112, 113, 114, 115, 116, 117, 118, 119, 120, 121, 122])) (.t 86), none⟩,
 ⟨(some 88), .indexAddr 1 false (some 65) (.t 12) (.t 85), none⟩,
 ⟨none, .store 1 (.t 88) (.t 87), none⟩]))))))
 (.seq (.seq (.reg [⟨(some 89), .mov (.t 3), none⟩])
 (.cond (.t 89) (.seq (.reg [⟨(some 90), .mov (.t 13), none⟩,
 ⟨(some 91), .bin .sub (.t 90) (.k (.int .i64 1)), none⟩,
 ⟨(some 13), .mov (.t 91), none⟩])
 (.reg [⟨(some 92), .mov (.t 13), none⟩,
 ⟨(some 93), .indexAddr 1 false (some 65) (.t 12) (.t 92), none⟩,
 ⟨none, .store 1 (.t 93) (.k (.int .u8 45)), none⟩]))
 .skip))
 (.seq (.seq (.reg [⟨(some 94), .mov (.t 4), none⟩])
 (.cond (.t 94) (.seq (.reg [⟨(some 95), .mov (.t 0), none⟩,
 ⟨(some 96), .mov (.t 13), none⟩,
 ⟨(some 97), .sliceArr 65 1 (.t 12) (some (.t 96)) none, none⟩,
 ⟨(some 98), .append 1 1 (some 5) (.t 95) (.t 97), none⟩,
 ⟨(some 10), .mov (.t 98), none⟩])
 .ret)
 .skip))
 (.seq (.reg [⟨(some 99), .mov (.t 13), none⟩,
 ⟨(some 100), .sliceArr 65 1 (.t 12) (some (.t 99)) none, none⟩,
 ⟨(some 101), .convStr (.t 100), none⟩,
 ⟨(some 11), .mov (.t 101), none⟩])
 .ret))))))))),
 [], false⟩

def a35_0 : ACode := (.seq (.seq (.reg [⟨(some 5), .mov (.t 0), none⟩,
 ⟨(some 6), .lenStr (.t 5), none⟩,
 ⟨(some 7), .bin .gtr (.t 6) (.k (.int .i64 0)), none⟩,
 ⟨(some 8), .mov (.t 7), none⟩,
 ⟨(some 9), .mov (.t 0), some (8, true)⟩,
 ⟨(some 10), .mov (.t 0), some (8, true)⟩,
 ⟨(some 11), .lenStr (.t 10), some (8, true)⟩,
 ⟨(some 12), .bin .sub (.t 11) (.k (.int .i64 1)), some (8, true)⟩,
 ⟨(some 13), .indexStr (.t 9) (.t 12), some (8, true)⟩,
 ⟨(some 14), .mov (.t 1), some (8, true)⟩,
 ⟨(some 15), .bin .eql (.t 13) (.t 14), some (8, true)⟩,
 ⟨(some 16), .pick (.t 8) (.t 15) (.k (.bool false)), none⟩])
 (.cond (.t 16) .skip
 (.exit 0)))
 (.block 1 (.reg [⟨(some 17), .mov (.t 0), none⟩,
 ⟨(some 18), .mov (.t 0), none⟩,
 ⟨(some 19), .lenStr (.t 18), none⟩,
 ⟨(some 20), .bin .sub (.t 19) (.k (.int .i64 1)), none⟩,
 ⟨(some 21), .sliceStr (.t 17) none (some (.t 20)), none⟩,
 ⟨(some 0), .mov (.t 21), none⟩])))

def a35 : AFunc := ⟨23, [.tmp 4],
 (.seq (.reg [⟨(some 4), .mov (.k (.str [])), none⟩])
 (.seq (.block 0 (.loop a35_0))
 (.seq (.reg [⟨(some 22), .mov (.t 0), none⟩,
 ⟨(some 4), .mov (.t 22), none⟩])
 .ret))),
 [], false⟩

def a36_0 : ACode := (.seq (.seq (.reg [⟨(some 6), .mov (.t 4), none⟩,
 ⟨(some 7), .mov (.t 0), none⟩,
 ⟨(some 8), .lenStr (.t 7), none⟩,
 ⟨(some 9), .bin .lss (.t 6) (.t 8), none⟩])
 (.cond (.t 9) .skip
 (.exit 0)))
 (.seq (.block 1 (.seq (.reg [⟨(some 12), .mov (.t 0), none⟩,
 ⟨(some 13), .mov (.t 4), none⟩,
 ⟨(some 14), .indexStr (.t 12) (.t 13), none⟩,
 ⟨(some 5), .mov (.t 14), none⟩])
 (.seq (.seq (.reg [⟨(some 15), .mov (.t 5), none⟩,
 ⟨(some 16), .bin .geq (.t 15) (.k (.int .u8 128)), none⟩])
 (.cond (.t 16) (.seq (.reg [⟨(some 17), .load 256 true (.t 2), none⟩,
 ⟨none, .store 256 (.t 2) (.t 17), none⟩,
 ⟨(some 3), .mov (.k (.bool false)), none⟩])
 .ret)
 .skip))
 (.reg [⟨(some 18), .mov (.t 5), none⟩,
 ⟨(some 19), .indexAddr 1 false (some 256) (.t 2) (.t 18), none⟩,
 ⟨none, .store 1 (.t 19) (.k (.bool true)), none⟩]))))
 (.reg [⟨(some 10), .mov (.t 4), none⟩,
 ⟨(some 11), .bin .add (.t 10) (.k (.int .i64 1)), none⟩,
 ⟨(some 4), .mov (.t 11), none⟩])))

def a36 : AFunc := ⟨21, [.cell 2 256 true, .tmp 3],
 (.seq (.reg [⟨(some 2), .new (.agg [(.bool false), (.bool false), (.bool false), (.bool false), (.bool false), (.bool false), (.bool false), (.bool false), (.bool false), (.bool false), (.bool false), (.bool false), (.bool false), (.bool false), (.bool false), (.bool false), (.bool false), (.bool false), (.bool false), (.bool false), (.bool false), (.bool false), (.bool false), (.bool false), (.bool false), (.bool false), (.bool false), (.bool false), (.bool false), (.bool false), (.bool false), (.bool false), (.bool false), (.bool false), (.bool false), (.bool false), (.bool false), (.bool false), (.bool false), (.bool false), (.bool false), (.bool false), (.bool false), (.bool false), (.bool false), (.bool false), (.bool false), (.bool false), (.bool false), (.bool false), (.bool false), (.bool false), (.bool false), (.bool false), (.bool false), (.bool false), (.bool false), (.bool false), (.bool false), (.bool false), (.bool false), (.bool false), (.bool false), (.bool false), (.bool false), (.bool false), (.bool false), (.bool false), (.bool false), (.bool false), (.bool false), (.bool false), (.bool false), (.bool false), (.bool false), (.bool false), (.bool false), (.bool false), (.bool false), (.bool false), (.bool false), (.bool false), (.bool false), (.bool false), (.bool false), (.bool false), (.bool false), (.bool false), (.bool false), (.bool false), (.bool false), (.bool false), (.bool false), (.bool false), (.bool false), (.bool false), (.bool false), (.bool false), (.bool false), (.bool false), (.bool false), (.bool false), (.bool false), (.bool false), (.bool false), (.bool false), (.bool false), (.bool false), (.bool false), (.bool false), (.bool false), (.bool false), (.bool false), (.bool false), (.bool false), (.bool false), (.bool false), (.bool false), (.bool false), (.bool false), (.bool false), (.bool false), (.bool false), (.bool false), (.bool false), (.bool false), (.bool false), (.bool false), (.bool false), (.bool false), (.bool false), (.bool false), (.bool false), (.bool false), (.bool false), (.bool false), (.bool false), (.bool false), (.bool false), (.bool false), (.bool false), (.bool false), (.bool false), (.bool false), (.bool false), (.bool false), (.bool false), (.bool false), (.bool false), (.bool false), (.bool false), (.bool false), (.bool false), (.bool false), (.bool false), (.bool false), (.bool false), (.bool false), (.bool false), (.bool false), (.bool false), (.bool false), (.bool false), (.bool false), (.bool false), (.bool false), (.bool false), (.bool false), (.bool false), (.bool false), (.bool false), (.bool false), (.bool false), (.bool false), (.bool false), (.bool false), (.bool false), (.bool false), (.bool false), (.bool false), (.bool false), (.bool false), (.bool false), (.bool false), (.bool false), (.bool false), (.bool false), (.bool false), (.bool false), (.bool false), (.bool false), (.bool false), (.bool false), (.bool false), (.bool false), (.bool false), (.bool false), (.bool false), (.bool false), (.bool false), (.bool false), (.bool false), (.bool false), (.bool false), (.bool false), (.bool false), (.bool false), (.bool false), (.bool false), (.bool false), (.bool false), (.bool false), (.bool false), (.bool false), (.bool false), (.bool false), (.bool false), (.bool false), (.bool false), (.bool false), (.bool false), (.bool false), (.bool false), (.bool false), (.bool false), (.bool false), (.bool false), (.bool false), (.bool false), (.bool false), (.bool false), (.bool false), (.bool false), (.bool false), (.bool false), (.bool false), (.bool false), (.bool false), (.bool false), (.bool false), (.bool false), (.bool false), (.bool false), (.bool false), (.bool false), (.bool false), (.bool false), (.bool false), (.bool false), (.bool false), (.bool false), (.bool false), (.bool false), (.bool false), (.bool false), (.bool false)]) true none, none⟩,
 ⟨(some 3), .mov (.k (.bool false)), none⟩])
 (.seq (.seq (.reg [⟨(some 4), .mov (.k (.int .i64 0)), none⟩])
 (.block 0 (.loop a36_0)))
 (.seq (.reg [⟨(some 20), .load 256 true (.t 2), none⟩,
 ⟨none, .store 256 (.t 2) (.t 20), none⟩,
 ⟨(some 3), .mov (.k (.bool true)), none⟩])
 .ret))),
 [], false⟩

def a37_0 : ACode := (.seq (.seq (.reg [⟨(some 5), .mov (.t 0), none⟩,
 ⟨(some 6), .lenStr (.t 5), none⟩,
 ⟨(some 7), .bin .gtr (.t 6) (.k (.int .i64 0)), none⟩])
 (.cond (.t 7) .skip
 (.exit 0)))
 (.block 1 (.seq (.seq (.reg [⟨(some 8), .mov (.t 1), none⟩,
 ⟨(some 9), .mov (.t 0), none⟩,
 ⟨(some 10), .mov (.t 0), none⟩,
 ⟨(some 11), .lenStr (.t 10), none⟩,
 ⟨(some 12), .bin .sub (.t 11) (.k (.int .i64 1)), none⟩,
 ⟨(some 13), .indexStr (.t 9) (.t 12), none⟩,
 ⟨(some 14), .call (.k (.func (.func 53) [] [])) [(.t 8), (.t 13)], none⟩,
 ⟨(some 15), .un .not (.t 14), none⟩])
 (.cond (.t 15) (.exit 0)
 .skip))
 (.reg [⟨(some 16), .mov (.t 0), none⟩,
 ⟨(some 17), .mov (.t 0), none⟩,
 ⟨(some 18), .lenStr (.t 17), none⟩,
 ⟨(some 19), .bin .sub (.t 18) (.k (.int .i64 1)), none⟩,
 ⟨(some 20), .sliceStr (.t 16) none (some (.t 19)), none⟩,
 ⟨(some 0), .mov (.t 20), none⟩]))))

def a37 : AFunc := ⟨22, [.tmp 4],
 (.seq (.reg [⟨(some 4), .mov (.k (.str [])), none⟩])
 (.seq (.block 0 (.loop a37_0))
 (.seq (.reg [⟨(some 21), .mov (.t 0), none⟩,
 ⟨(some 4), .mov (.t 21), none⟩])
 .ret))),
 [], true⟩

def a38_0 : ACode := (.seq (.seq (.reg [⟨(some 7), .mov (.t 0), none⟩,
 ⟨(some 8), .lenStr (.t 7), none⟩,
 ⟨(some 9), .bin .gtr (.t 8) (.k (.int .i64 0)), none⟩])
 (.cond (.t 9) .skip
 (.exit 0)))
 (.block 1 (.seq (.reg [⟨(some 10), .mov (.t 0), none⟩,
 ⟨(some 11), .mov (.t 0), none⟩,
 ⟨(some 12), .lenStr (.t 11), none⟩,
 ⟨(some 13), .bin .sub (.t 12) (.k (.int .i64 1)), none⟩,
 ⟨(some 14), .indexStr (.t 10) (.t 13), none⟩,
 ⟨(some 15), .convInt .i32 (.t 14), none⟩,
 ⟨(some 5), .mov (.t 15), none⟩,
 ⟨(some 6), .mov (.k (.int .i64 1)), none⟩])
 (.seq (.seq (.reg [⟨(some 16), .mov (.t 5), none⟩,
 ⟨(some 17), .bin .geq (.t 16) (.k (.int .i32 128)), none⟩])
 (.cond (.t 17) (.reg [⟨(some 19), .mov (.t 0), none⟩,
 ⟨(some 20), .call (.k (.func (.func 54) [] [])) [(.t 19)], none⟩,
 ⟨(some 18), .mov (.t 20), none⟩,
 ⟨(some 21), .extract (.t 18) 0, none⟩,
 ⟨(some 22), .extract (.t 18) 1, none⟩,
 ⟨(some 5), .mov (.t 21), none⟩,
 ⟨(some 6), .mov (.t 22), none⟩])
 .skip))
 (.seq (.seq (.reg [⟨(some 23), .mov (.t 1), none⟩,
 ⟨(some 24), .mov (.t 5), none⟩,
 ⟨(some 25), .call (.k (.func (.func 55) [] [])) [(.t 23), (.t 24)], none⟩,
 ⟨(some 26), .un .not (.t 25), none⟩])
 (.cond (.t 26) (.exit 0)
 .skip))
 (.reg [⟨(some 27), .mov (.t 0), none⟩,
 ⟨(some 28), .mov (.t 0), none⟩,
 ⟨(some 29), .lenStr (.t 28), none⟩,
 ⟨(some 30), .mov (.t 6), none⟩,
 ⟨(some 31), .bin .sub (.t 29) (.t 30), none⟩,
 ⟨(some 32), .sliceStr (.t 27) none (some (.t 31)), none⟩,
 ⟨(some 0), .mov (.t 32), none⟩]))))))

def a38 : AFunc := ⟨34, [.tmp 4],
 (.seq (.reg [⟨(some 4), .mov (.k (.str [])), none⟩])
 (.seq (.block 0 (.loop a38_0))
 (.seq (.reg [⟨(some 33), .mov (.t 0), none⟩,
 ⟨(some 4), .mov (.t 33), none⟩])
 .ret))),
 [], false⟩

def a40 : AFunc := ⟨19, [.tmp 4, .tmp 5],
 (.seq (.reg [⟨(some 4), .mov (.k (.int .i64 0)), none⟩,
 ⟨(some 5), .mov (.k .nilIface), none⟩])
 (.seq (.reg [⟨(some 6), .mov (.t 0), none⟩,
 ⟨(some 7), .call (.k (.func (.func 56) [] [])) [(.t 6)], none⟩])
 (.seq (.reg [⟨(some 8), .mov (.t 0), none⟩,
 ⟨(some 9), .mov (.t 0), none⟩,
 ⟨(some 10), .nilCheck (.t 9), none⟩,
 ⟨(some 11), .fieldAddr 1 1 false (.t 10), none⟩,
 ⟨(some 12), .load 1 false (.t 11), none⟩,
 ⟨(some 13), .mov (.t 1), none⟩,
 ⟨(some 14), .append 1 1 (some 5) (.t 12) (.t 13), none⟩,
 ⟨(some 15), .nilCheck (.t 8), none⟩,
 ⟨(some 16), .fieldAddr 1 1 false (.t 15), none⟩,
 ⟨none, .store 1 (.t 16) (.t 14), none⟩])
 (.seq (.reg [⟨(some 17), .mov (.t 1), none⟩,
 ⟨(some 18), .lenStr (.t 17), none⟩,
 ⟨(some 4), .mov (.t 18), none⟩,
 ⟨(some 5), .mov (.k .nilIface), none⟩])
 .ret)))),
 [], true⟩

def a42_0 : ACode := (.seq (.reg [⟨(some 102), .bin .lss (.t 101) (.t 100), none⟩])
 (.seq (.cond (.t 102) .skip
 (.exit 3))
 (.seq (.block 4 (.seq (.reg [⟨(some 103), .indexAddr 1 false none (.t 99) (.t 101), none⟩,
 ⟨(some 104), .load 1 false (.t 103), none⟩,
 ⟨(some 15), .mov (.t 104), none⟩])
 (.seq (.reg [⟨(some 16), .mov (.k (.int .u8 0)), none⟩])
 (.seq (.block 5 (.seq (.reg [⟨(some 107), .mov (.t 15), none⟩,
 ⟨(some 108), .bin .eql (.t 107) (.k (.int .u8 95)), none⟩,
 ⟨(some 109), .mov (.t 108), none⟩,
 ⟨(some 110), .mov (.t 8), some (109, true)⟩,
 ⟨(some 111), .pick (.t 109) (.t 110) (.k (.bool false)), none⟩,
 ⟨(some 106), .mov (.t 111), none⟩])
 (.cond (.t 106) (.seq (.reg [⟨(some 12), .mov (.k (.bool true)), none⟩])
 (.exit 4))
 (.seq (.reg [⟨(some 113), .mov (.t 15), none⟩,
 ⟨(some 114), .bin .leq (.k (.int .u8 48)) (.t 113), none⟩,
 ⟨(some 115), .mov (.t 114), none⟩,
 ⟨(some 116), .mov (.t 15), some (115, true)⟩,
 ⟨(some 117), .bin .leq (.t 116) (.k (.int .u8 57)), some (115, true)⟩,
 ⟨(some 118), .pick (.t 115) (.t 117) (.k (.bool false)), none⟩,
 ⟨(some 112), .mov (.t 118), none⟩])
 (.cond (.t 112) (.reg [⟨(some 119), .mov (.t 15), none⟩,
 ⟨(some 120), .bin .sub (.t 119) (.k (.int .u8 48)), none⟩,
 ⟨(some 16), .mov (.t 120), none⟩])
 (.seq (.reg [⟨(some 122), .mov (.t 15), none⟩,
 ⟨(some 123), .call (.k (.func (.func 58) [] [])) [(.t 122)], none⟩,
 ⟨(some 124), .bin .leq (.k (.int .u8 97)) (.t 123), none⟩,
 ⟨(some 125), .mov (.t 124), none⟩,
 ⟨(some 126), .mov (.t 15), some (125, true)⟩,
 ⟨(some 127), .call (.k (.func (.func 58) [] [])) [(.t 126)], some (125, true)⟩,
 ⟨(some 128), .bin .leq (.t 127) (.k (.int .u8 122)), some (125, true)⟩,
 ⟨(some 129), .pick (.t 125) (.t 128) (.k (.bool false)), none⟩,
 ⟨(some 121), .mov (.t 129), none⟩])
 (.cond (.t 121) (.reg [⟨(some 130), .mov (.t 15), none⟩,
 ⟨(some 131), .call (.k (.func (.func 58) [] [])) [(.t 130)], none⟩,
 ⟨(some 132), .bin .sub (.t 131) (.k (.int .u8 97)), none⟩,
 ⟨(some 133), .bin .add (.t 132) (.k (.int .u8 10)), none⟩,
 ⟨(some 16), .mov (.t 133), none⟩])
 (.seq (.reg [⟨(some 105), .mkIface 88 (.k (.int .i64 2)), none⟩,
 ⟨(some 6), .mov (.k (.int .u64 0)), none⟩,
 ⟨(some 7), .mov (.t 105), none⟩])
 .ret))))))))
 (.seq (.seq (.reg [⟨(some 134), .mov (.t 16), none⟩,
 ⟨(some 135), .mov (.t 1), none⟩,
 ⟨(some 136), .convInt .u8 (.t 135), none⟩,
 ⟨(some 137), .bin .geq (.t 134) (.t 136), none⟩])
 (.cond (.t 137) (.seq (.reg [⟨(some 138), .mkIface 88 (.k (.int .i64 2)), none⟩,
 ⟨(some 6), .mov (.k (.int .u64 0)), none⟩,
 ⟨(some 7), .mov (.t 138), none⟩])
 .ret)
 .skip))
 (.seq (.seq (.reg [⟨(some 139), .mov (.t 13), none⟩,
 ⟨(some 140), .mov (.t 10), none⟩,
 ⟨(some 141), .bin .geq (.t 139) (.t 140), none⟩])
 (.cond (.t 141) (.seq (.reg [⟨(some 142), .mov (.t 11), none⟩,
 ⟨(some 143), .mkIface 88 (.k (.int .i64 1)), none⟩,
 ⟨(some 6), .mov (.t 142), none⟩,
 ⟨(some 7), .mov (.t 143), none⟩])
 .ret)
 .skip))
 (.seq (.reg [⟨(some 144), .mov (.t 13), none⟩,
 ⟨(some 145), .mov (.t 1), none⟩,
 ⟨(some 146), .convInt .u64 (.t 145), none⟩,
 ⟨(some 147), .bin .mul (.t 144) (.t 146), none⟩,
 ⟨(some 13), .mov (.t 147), none⟩])
 (.seq (.reg [⟨(some 148), .mov (.t 13), none⟩,
 ⟨(some 149), .mov (.t 16), none⟩,
 ⟨(some 150), .convInt .u64 (.t 149), none⟩,
 ⟨(some 151), .bin .add (.t 148) (.t 150), none⟩,
 ⟨(some 17), .mov (.t 151), none⟩])
 (.seq (.seq (.reg [⟨(some 152), .mov (.t 17), none⟩,
 ⟨(some 153), .mov (.t 13), none⟩,
 ⟨(some 154), .bin .lss (.t 152) (.t 153), none⟩,
 ⟨(some 155), .mov (.t 154), none⟩,
 ⟨(some 156), .mov (.t 17), some (155, false)⟩,
 ⟨(some 157), .mov (.t 11), some (155, false)⟩,
 ⟨(some 158), .bin .gtr (.t 156) (.t 157), some (155, false)⟩,
 ⟨(some 159), .pick (.t 155) (.k (.bool true)) (.t 158), none⟩])
 (.cond (.t 159) (.seq (.reg [⟨(some 160), .mov (.t 11), none⟩,
 ⟨(some 161), .mkIface 88 (.k (.int .i64 1)), none⟩,
 ⟨(some 6), .mov (.t 160), none⟩,
 ⟨(some 7), .mov (.t 161), none⟩])
 .ret)
 .skip))
 (.reg [⟨(some 162), .mov (.t 17), none⟩,
 ⟨(some 13), .mov (.t 162), none⟩]))))))))))
 (.reg [⟨(some 163), .bin .add (.t 101) (.k (.int .i64 1)), none⟩,
 ⟨(some 101), .mov (.t 163), none⟩]))))

def a42 : AFunc := ⟨172, [.tmp 6, .tmp 7],
 (.seq (.reg [⟨(some 6), .mov (.k (.int .u64 0)), none⟩,
 ⟨(some 7), .mov (.k .nilIface), none⟩])
 (.seq (.seq (.reg [⟨(some 18), .mov (.t 0), none⟩,
 ⟨(some 19), .bin .eql (.t 18) (.k (.str [])), none⟩])
 (.cond (.t 19) (.seq (.reg [⟨(some 20), .mkIface 88 (.k (.int .i64 2)), none⟩,
 ⟨(some 6), .mov (.k (.int .u64 0)), none⟩,
 ⟨(some 7), .mov (.t 20), none⟩])
 .ret)
 .skip))
 (.seq (.reg [⟨(some 21), .mov (.t 1), none⟩,
 ⟨(some 22), .bin .eql (.t 21) (.k (.int .i64 0)), none⟩,
 ⟨(some 8), .mov (.t 22), none⟩])
 (.seq (.reg [⟨(some 23), .mov (.t 0), none⟩,
 ⟨(some 9), .mov (.t 23), none⟩])
 (.seq (.block 0 (.seq (.reg [⟨(some 26), .mov (.t 1), none⟩,
 ⟨(some 27), .bin .leq (.k (.int .i64 2)) (.t 26), none⟩,
 ⟨(some 28), .mov (.t 27), none⟩,
 ⟨(some 29), .mov (.t 1), some (28, true)⟩,
 ⟨(some 30), .bin .leq (.t 29) (.k (.int .i64 36)), some (28, true)⟩,
 ⟨(some 31), .pick (.t 28) (.t 30) (.k (.bool false)), none⟩,
 ⟨(some 25), .mov (.t 31), none⟩])
 (.cond (.t 25) .skip
 (.seq (.reg [⟨(some 33), .mov (.t 1), none⟩,
 ⟨(some 34), .bin .eql (.t 33) (.k (.int .i64 0)), none⟩,
 ⟨(some 32), .mov (.t 34), none⟩])
 (.cond (.t 32) (.seq (.reg [⟨(some 1), .mov (.k (.int .i64 10)), none⟩])
 (.seq (.reg [⟨(some 35), .mov (.t 0), none⟩,
 ⟨(some 36), .indexStr (.t 35) (.k (.int .i64 0)), none⟩,
 ⟨(some 37), .bin .eql (.t 36) (.k (.int .u8 48)), none⟩])
 (.cond (.t 37) (.block 1 (.seq (.reg [⟨(some 41), .mov (.t 0), none⟩,
 ⟨(some 42), .lenStr (.t 41), none⟩,
 ⟨(some 43), .bin .geq (.t 42) (.k (.int .i64 3)), none⟩,
 ⟨(some 44), .mov (.t 43), none⟩,
 ⟨(some 45), .mov (.t 0), some (44, true)⟩,
 ⟨(some 46), .indexStr (.t 45) (.k (.int .i64 1)), some (44, true)⟩,
 ⟨(some 47), .call (.k (.func (.func 58) [] [])) [(.t 46)], some (44, true)⟩,
 ⟨(some 48), .bin .eql (.t 47) (.k (.int .u8 98)), some (44, true)⟩,
 ⟨(some 49), .pick (.t 44) (.t 48) (.k (.bool false)), none⟩,
 ⟨(some 40), .mov (.t 49), none⟩])
 (.cond (.t 40) (.seq (.reg [⟨(some 1), .mov (.k (.int .i64 2)), none⟩])
 (.reg [⟨(some 50), .mov (.t 0), none⟩,
 ⟨(some 51), .sliceStr (.t 50) (some (.k (.int .i64 2))) none, none⟩,
 ⟨(some 0), .mov (.t 51), none⟩]))
 (.seq (.reg [⟨(some 53), .mov (.t 0), none⟩,
 ⟨(some 54), .lenStr (.t 53), none⟩,
 ⟨(some 55), .bin .geq (.t 54) (.k (.int .i64 3)), none⟩,
 ⟨(some 56), .mov (.t 55), none⟩,
 ⟨(some 57), .mov (.t 0), some (56, true)⟩,
 ⟨(some 58), .indexStr (.t 57) (.k (.int .i64 1)), some (56, true)⟩,
 ⟨(some 59), .call (.k (.func (.func 58) [] [])) [(.t 58)], some (56, true)⟩,
 ⟨(some 60), .bin .eql (.t 59) (.k (.int .u8 111)), some (56, true)⟩,
 ⟨(some 61), .pick (.t 56) (.t 60) (.k (.bool false)), none⟩,
 ⟨(some 52), .mov (.t 61), none⟩])
 (.cond (.t 52) (.seq (.reg [⟨(some 1), .mov (.k (.int .i64 8)), none⟩])
 (.reg [⟨(some 62), .mov (.t 0), none⟩,
 ⟨(some 63), .sliceStr (.t 62) (some (.k (.int .i64 2))) none, none⟩,
 ⟨(some 0), .mov (.t 63), none⟩]))
 (.seq (.reg [⟨(some 65), .mov (.t 0), none⟩,
 ⟨(some 66), .lenStr (.t 65), none⟩,
 ⟨(some 67), .bin .geq (.t 66) (.k (.int .i64 3)), none⟩,
 ⟨(some 68), .mov (.t 67), none⟩,
 ⟨(some 69), .mov (.t 0), some (68, true)⟩,
 ⟨(some 70), .indexStr (.t 69) (.k (.int .i64 1)), some (68, true)⟩,
 ⟨(some 71), .call (.k (.func (.func 58) [] [])) [(.t 70)], some (68, true)⟩,
 ⟨(some 72), .bin .eql (.t 71) (.k (.int .u8 120)), some (68, true)⟩,
 ⟨(some 73), .pick (.t 68) (.t 72) (.k (.bool false)), none⟩,
 ⟨(some 64), .mov (.t 73), none⟩])
 (.cond (.t 64) (.seq (.reg [⟨(some 1), .mov (.k (.int .i64 16)), none⟩])
 (.reg [⟨(some 74), .mov (.t 0), none⟩,
 ⟨(some 75), .sliceStr (.t 74) (some (.k (.int .i64 2))) none, none⟩,
 ⟨(some 0), .mov (.t 75), none⟩]))
 (.seq (.reg [⟨(some 1), .mov (.k (.int .i64 8)), none⟩])
 (.reg [⟨(some 38), .mov (.t 0), none⟩,
 ⟨(some 39), .sliceStr (.t 38) (some (.k (.int .i64 1))) none, none⟩,
 ⟨(some 0), .mov (.t 39), none⟩])))))))))
 .skip)))
 (.seq (.reg [⟨(some 24), .mkIface 88 (.k (.int .i64 3)), none⟩,
 ⟨(some 6), .mov (.k (.int .u64 0)), none⟩,
 ⟨(some 7), .mov (.t 24), none⟩])
 .ret))))))
 (.seq (.seq (.reg [⟨(some 76), .mov (.t 2), none⟩,
 ⟨(some 77), .bin .eql (.t 76) (.k (.int .i64 0)), none⟩])
 (.cond (.t 77) (.reg [⟨(some 2), .mov (.k (.int .i64 64)), none⟩])
 (.seq (.reg [⟨(some 78), .mov (.t 2), none⟩,
 ⟨(some 79), .bin .lss (.t 78) (.k (.int .i64 0)), none⟩,
 ⟨(some 80), .mov (.t 79), none⟩,
 ⟨(some 81), .mov (.t 2), some (80, false)⟩,
 ⟨(some 82), .bin .gtr (.t 81) (.k (.int .i64 64)), some (80, false)⟩,
 ⟨(some 83), .pick (.t 80) (.k (.bool true)) (.t 82), none⟩])
 (.cond (.t 83) (.seq (.reg [⟨(some 84), .mkIface 88 (.k (.int .i64 4)), none⟩,
 ⟨(some 6), .mov (.k (.int .u64 0)), none⟩,
 ⟨(some 7), .mov (.t 84), none⟩])
 .ret)
 .skip))))
 (.seq (.reg [⟨(some 10), .mov (.k (.int .u64 0)), none⟩])
 (.seq (.seq (.reg [⟨(some 85), .mov (.t 1), none⟩])
 (.block 2 (.seq (.reg [⟨(some 91), .bin .eql (.t 85) (.k (.int .i64 10)), none⟩,
 ⟨(some 90), .mov (.t 91), none⟩])
 (.cond (.t 90) (.reg [⟨(some 10), .mov (.k (.int .u64 1844674407370955162)), none⟩])
 (.seq (.reg [⟨(some 93), .bin .eql (.t 85) (.k (.int .i64 16)), none⟩,
 ⟨(some 92), .mov (.t 93), none⟩])
 (.cond (.t 92) (.reg [⟨(some 10), .mov (.k (.int .u64 1152921504606846976)), none⟩])
 (.reg [⟨(some 86), .mov (.t 1), none⟩,
 ⟨(some 87), .convInt .u64 (.t 86), none⟩,
 ⟨(some 88), .bin .quo (.k (.int .u64 18446744073709551615)) (.t 87), none⟩,
 ⟨(some 89), .bin .add (.t 88) (.k (.int .u64 1)), none⟩,
 ⟨(some 10), .mov (.t 89), none⟩])))))))
 (.seq (.reg [⟨(some 94), .mov (.t 2), none⟩,
 ⟨(some 95), .convInt .u64 (.t 94), none⟩,
 ⟨(some 96), .bin .shl (.k (.int .u64 1)) (.t 95), none⟩,
 ⟨(some 97), .bin .sub (.t 96) (.k (.int .u64 1)), none⟩,
 ⟨(some 11), .mov (.t 97), none⟩])
 (.seq (.reg [⟨(some 12), .mov (.k (.bool false)), none⟩])
 (.seq (.reg [⟨(some 13), .mov (.k (.int .u64 0)), none⟩])
 (.seq (.seq (.reg [⟨(some 98), .mov (.t 0), none⟩,
 ⟨(some 99), .convBytes false (.t 98), none⟩,
 ⟨(some 100), .lenSl (.t 99), none⟩,
 ⟨(some 101), .mov (.k (.int .i64 0)), none⟩])
 (.block 3 (.loop a42_0)))
 (.seq (.seq (.reg [⟨(some 164), .mov (.t 12), none⟩,
 ⟨(some 165), .mov (.t 164), none⟩,
 ⟨(some 166), .mov (.t 9), some (165, true)⟩,
 ⟨(some 167), .call (.k (.func (.func 59) [] [])) [(.t 166)], some (165, true)⟩,
 ⟨(some 168), .un .not (.t 167), some (165, true)⟩,
 ⟨(some 169), .pick (.t 165) (.t 168) (.k (.bool false)), none⟩])
 (.cond (.t 169) (.seq (.reg [⟨(some 170), .mkIface 88 (.k (.int .i64 2)), none⟩,
 ⟨(some 6), .mov (.k (.int .u64 0)), none⟩,
 ⟨(some 7), .mov (.t 170), none⟩])
 .ret)
 .skip))
 (.seq (.reg [⟨(some 171), .mov (.t 13), none⟩,
 ⟨(some 6), .mov (.t 171), none⟩,
 ⟨(some 7), .mov (.k .nilIface), none⟩])
 .ret)))))))))))))),
 [], false⟩

def a44_0 : ACode := (.seq (.seq (.reg [⟨(some 8), .mov (.t 3), none⟩,
 ⟨(some 9), .bin .geq (.t 8) (.k (.int .i64 0)), none⟩])
 (.cond (.t 9) .skip
 (.exit 0)))
 (.seq (.block 1 (.seq (.reg [⟨(some 12), .load 1 false (.t 0), none⟩,
 ⟨(some 13), .mov (.t 3), none⟩,
 ⟨(some 14), .indexAddr 1 false none (.t 12) (.t 13), none⟩,
 ⟨(some 15), .load 1 false (.t 14), none⟩,
 ⟨(some 16), .bin .sub (.t 15) (.k (.int .u8 48)), none⟩,
 ⟨(some 17), .bin .mul (.k (.int .u8 2)) (.t 16), none⟩,
 ⟨(some 18), .mov (.t 2), none⟩,
 ⟨(some 19), .bin .add (.t 17) (.t 18), none⟩,
 ⟨(some 4), .mov (.t 19), none⟩])
 (.seq (.reg [⟨(some 20), .mov (.t 4), none⟩,
 ⟨(some 21), .bin .quo (.t 20) (.k (.int .u8 10)), none⟩,
 ⟨(some 2), .mov (.t 21), none⟩])
 (.reg [⟨(some 22), .load 1 false (.t 0), none⟩,
 ⟨(some 23), .mov (.t 3), none⟩,
 ⟨(some 24), .mov (.t 4), none⟩,
 ⟨(some 25), .bin .rem (.t 24) (.k (.int .u8 10)), none⟩,
 ⟨(some 26), .bin .add (.k (.int .u8 48)) (.t 25), none⟩,
 ⟨(some 27), .indexAddr 1 false none (.t 22) (.t 23), none⟩,
 ⟨none, .store 1 (.t 27) (.t 26), none⟩]))))
 (.reg [⟨(some 10), .mov (.t 3), none⟩,
 ⟨(some 11), .bin .sub (.t 10) (.k (.int .i64 1)), none⟩,
 ⟨(some 3), .mov (.t 11), none⟩])))

def a44 : AFunc := ⟨30, [.tmp 1],
 (.seq (.reg [⟨(some 1), .mov (.k (.int .i64 0)), none⟩])
 (.seq (.reg [⟨(some 2), .mov (.k (.int .u8 0)), none⟩])
 (.seq (.seq (.reg [⟨(some 5), .load 1 false (.t 0), none⟩,
 ⟨(some 6), .lenSl (.t 5), none⟩,
 ⟨(some 7), .bin .sub (.t 6) (.k (.int .i64 1)), none⟩,
 ⟨(some 3), .mov (.t 7), none⟩])
 (.block 0 (.loop a44_0)))
 (.seq (.reg [⟨(some 28), .mov (.t 2), none⟩,
 ⟨(some 29), .convInt .i64 (.t 28), none⟩,
 ⟨(some 1), .mov (.t 29), none⟩])
 .ret)))),
 [], true⟩

def a45 : AFunc := ⟨18, [.tmp 4],
 (.seq (.reg [⟨(some 4), .mov (.k (.bool false)), none⟩])
 (.seq (.reg [⟨(some 5), .mov (.t 0), none⟩,
 ⟨(some 6), .lenStr (.t 5), none⟩,
 ⟨(some 7), .mov (.t 1), none⟩,
 ⟨(some 8), .lenStr (.t 7), none⟩,
 ⟨(some 9), .bin .geq (.t 6) (.t 8), none⟩,
 ⟨(some 10), .mov (.t 9), none⟩,
 ⟨(some 11), .mov (.t 0), some (10, true)⟩,
 ⟨(some 12), .mov (.t 1), some (10, true)⟩,
 ⟨(some 13), .lenStr (.t 12), some (10, true)⟩,
 ⟨(some 14), .sliceStr (.t 11) none (some (.t 13)), some (10, true)⟩,
 ⟨(some 15), .mov (.t 1), some (10, true)⟩,
 ⟨(some 16), .bin .eql (.t 14) (.t 15), some (10, true)⟩,
 ⟨(some 17), .pick (.t 10) (.t 16) (.k (.bool false)), none⟩,
 ⟨(some 4), .mov (.t 17), none⟩])
 .ret)),
 [], false⟩

def a46 : AFunc := ⟨23, [.tmp 4, .tmp 5, .tmp 6],
 (.seq (.reg [⟨(some 4), .mov (.k (.str [])), none⟩,
 ⟨(some 5), .mov (.k (.str [])), none⟩,
 ⟨(some 6), .mov (.k (.bool false)), none⟩])
 (.seq (.seq (.reg [⟨(some 8), .mov (.t 0), none⟩,
 ⟨(some 9), .mov (.t 1), none⟩,
 ⟨(some 10), .call (.k (.func (.func 64) [] [])) [(.t 8), (.t 9)], none⟩,
 ⟨(some 7), .mov (.t 10), none⟩])
 (.seq (.reg [⟨(some 11), .mov (.t 7), none⟩,
 ⟨(some 12), .bin .geq (.t 11) (.k (.int .i64 0)), none⟩])
 (.cond (.t 12) (.seq (.plan [⟨0, ⟨(some 13), .mov (.t 0), none⟩, []⟩,
 ⟨1, ⟨(some 14), .mov (.t 7), none⟩, []⟩,
 ⟨2, ⟨(some 15), .sliceStr (.t 13) none (some (.t 14)), none⟩, []⟩,
 ⟨3, ⟨(some 16), .mov (.t 0), none⟩, []⟩,
 ⟨4, ⟨(some 17), .mov (.t 7), none⟩, []⟩,
 ⟨5, ⟨(some 18), .mov (.t 1), none⟩, []⟩,
 ⟨6, ⟨(some 19), .lenStr (.t 18), none⟩, []⟩,
 ⟨7, ⟨(some 20), .bin .add (.t 17) (.t 19), none⟩, []⟩,
 ⟨8, ⟨(some 21), .sliceStr (.t 16) (some (.t 20)) none, none⟩, []⟩,
 ⟨9, ⟨(some 4), .mov (.t 15), none⟩, []⟩,
 ⟨10, ⟨(some 5), .mov (.t 21), none⟩, []⟩,
 ⟨11, ⟨(some 6), .mov (.k (.bool true)), none⟩, []⟩])
 .ret)
 .skip)))
 (.seq (.reg [⟨(some 22), .mov (.t 0), none⟩,
 ⟨(some 4), .mov (.t 22), none⟩,
 ⟨(some 5), .mov (.k (.str [])), none⟩,
 ⟨(some 6), .mov (.k (.bool false)), none⟩])
 .ret))),
 [], false⟩

def a47 : AFunc := ⟨43, [.tmp 4],
 (.seq (.reg [⟨(some 4), .mov (.k (.str [])), none⟩])
 (.seq (.seq (.reg [⟨(some 7), .mov (.t 0), none⟩,
 ⟨(some 8), .bin .eql (.t 7) (.k (.str [])), none⟩,
 ⟨(some 9), .mov (.t 8), none⟩,
 ⟨(some 10), .mov (.t 1), some (9, false)⟩,
 ⟨(some 11), .bin .eql (.t 10) (.k (.str [])), some (9, false)⟩,
 ⟨(some 12), .pick (.t 9) (.k (.bool true)) (.t 11), none⟩])
 (.cond (.t 12) (.seq (.reg [⟨(some 13), .mov (.t 0), none⟩,
 ⟨(some 4), .mov (.t 13), none⟩])
 .ret)
 .skip))
 (.seq (.seq (.reg [⟨(some 14), .mov (.t 1), none⟩,
 ⟨(some 15), .lenStr (.t 14), none⟩,
 ⟨(some 16), .bin .eql (.t 15) (.k (.int .i64 1)), none⟩,
 ⟨(some 17), .mov (.t 16), none⟩,
 ⟨(some 18), .mov (.t 1), some (17, true)⟩,
 ⟨(some 19), .indexStr (.t 18) (.k (.int .i64 0)), some (17, true)⟩,
 ⟨(some 20), .bin .lss (.t 19) (.k (.int .u8 128)), some (17, true)⟩,
 ⟨(some 21), .pick (.t 17) (.t 20) (.k (.bool false)), none⟩])
 (.cond (.t 21) (.seq (.plan [⟨0, ⟨(some 22), .mov (.t 0), none⟩, []⟩,
 ⟨1, ⟨(some 23), .mov (.t 1), none⟩, []⟩,
 ⟨2, ⟨(some 24), .indexStr (.t 23) (.k (.int .i64 0)), none⟩, []⟩,
 ⟨4, ⟨(some 26), .mov (.t 1), none⟩, []⟩,
 ⟨5, ⟨(some 27), .indexStr (.t 26) (.k (.int .i64 0)), none⟩, []⟩,
 ⟨3, ⟨(some 25), .call (.k (.func (.func 35) [] [])) [(.t 22), (.t 24)], none⟩, []⟩,
 ⟨6, ⟨(some 28), .call (.k (.func (.func 65) [] [])) [(.t 25), (.t 27)], none⟩, []⟩,
 ⟨7, ⟨(some 4), .mov (.t 28), none⟩, []⟩])
 .ret)
 .skip))
 (.seq (.seq (.reg [⟨(some 30), .mov (.t 1), none⟩,
 ⟨(some 31), .call (.k (.func (.func 36) [] [])) [(.t 30)], none⟩,
 ⟨(some 29), .mov (.t 31), none⟩,
 ⟨(some 32), .extract (.t 29) 0, none⟩,
 ⟨(some 33), .extract (.t 29) 1, none⟩,
 ⟨(some 5), .new (.agg [(.bool false), (.bool false), (.bool false), (.bool false), (.bool false), (.bool false), (.bool false), (.bool false), (.bool false), (.bool false), (.bool false), (.bool false), (.bool false), (.bool false), (.bool false), (.bool false), (.bool false), (.bool false), (.bool false), (.bool false), (.bool false), (.bool false), (.bool false), (.bool false), (.bool false), (.bool false), (.bool false), (.bool false), (.bool false), (.bool false), (.bool false), (.bool false), (.bool false), (.bool false), (.bool false), (.bool false), (.bool false), (.bool false), (.bool false), (.bool false), (.bool false), (.bool false), (.bool false), (.bool false), (.bool false), (.bool false), (.bool false), (.bool false), (.bool false), (.bool false), (.bool false), (.bool false), (.bool false), (.bool false), (.bool false), (.bool false), (.bool false), (.bool false), (.bool false), (.bool false), (.bool false), (.bool false), (.bool false), (.bool false), (.bool false), (.bool false), (.bool false), (.bool false), (.bool false), (.bool false), (.bool false), (.bool false), (.bool false), (.bool false), (.bool false), (.bool false), (.bool false), (.bool false), (.bool false), (.bool false), (.bool false), (.bool false), (.bool false), (.bool false), (.bool false), (.bool false), (.bool false), (.bool false), (.bool false), (.bool false), (.bool false), (.bool false), (.bool false), (.bool false), (.bool false), (.bool false), (.bool false), (.bool false), (.bool false), (.bool false), (.bool false), (.bool false), (.bool false), (.bool false), (.bool false), (.bool false), (.bool false), (.bool false), (.bool false), (.bool false), (.bool false), (.bool false), (.bool false), (.bool false), (.bool false), (.bool false), (.bool false), (.bool false), (.bool false), (.bool false), (.bool false), (.bool false), (.bool false), (.bool false), (.bool false), (.bool false), (.bool false), (.bool false), (.bool false), (.bool false), (.bool false), (.bool false), (.bool false), (.bool false), (.bool false), (.bool false), (.bool false), (.bool false), (.bool false), (.bool false), (.bool false), (.bool false), (.bool false), (.bool false), (.bool false), (.bool false), (.bool false), (.bool false), (.bool false), (.bool false), (.bool false), (.bool false), (.bool false), (.bool false), (.bool false), (.bool false), (.bool false), (.bool false), (.bool false), (.bool false), (.bool false), (.bool false), (.bool false), (.bool false), (.bool false), (.bool false), (.bool false), (.bool false), (.bool false), (.bool false), (.bool false), (.bool false), (.bool false), (.bool false), (.bool false), (.bool false), (.bool false), (.bool false), (.bool false), (.bool false), (.bool false), (.bool false), (.bool false), (.bool false), (.bool false), (.bool false), (.bool false), (.bool false), (.bool false), (.bool false), (.bool false), (.bool false), (.bool false), (.bool false), (.bool false), (.bool false), (.bool false), (.bool false), (.bool false), (.bool false), (.bool false), (.bool false), (.bool false), (.bool false), (.bool false), (.bool false), (.bool false), (.bool false), (.bool false), (.bool false), (.bool false), (.bool false), (.bool false), (.bool false), (.bool false), (.bool false), (.bool false), (.bool false), (.bool false), (.bool false), (.bool false), (.bool false), (.bool false), (.bool false), (.bool false), (.bool false), (.bool false), (.bool false), (.bool false), (.bool false), (.bool false), (.bool false), (.bool false), (.bool false), (.bool false), (.bool false), (.bool false), (.bool false), (.bool false), (.bool false), (.bool false), (.bool false), (.bool false), (.bool false), (.bool false), (.bool false), (.bool false), (.bool false), (.bool false), (.bool false), (.bool false), (.bool false), (.bool false), (.bool false), (.bool false), (.bool false)]) true none, none⟩,
 ⟨none, .store 256 (.t 5) (.t 32), none⟩,
 ⟨(some 6), .mov (.t 33), none⟩])
 (.seq (.reg [⟨(some 34), .mov (.t 6), none⟩])
 (.cond (.t 34) (.seq (.reg [⟨(some 35), .mov (.t 0), none⟩,
 ⟨(some 36), .call (.k (.func (.func 37) [] [])) [(.t 35), (.t 5)], none⟩,
 ⟨(some 37), .call (.k (.func (.func 66) [] [])) [(.t 36), (.t 5)], none⟩,
 ⟨(some 4), .mov (.t 37), none⟩])
 .ret)
 .skip)))
 (.seq (.reg [⟨(some 38), .mov (.t 0), none⟩,
 ⟨(some 39), .mov (.t 1), none⟩,
 ⟨(some 40), .call (.k (.func (.func 38) [] [])) [(.t 38), (.t 39)], none⟩,
 ⟨(some 41), .mov (.t 1), none⟩,
 ⟨(some 42), .call (.k (.func (.func 67) [] [])) [(.t 40), (.t 41)], none⟩,
 ⟨(some 4), .mov (.t 42), none⟩])
 .ret))))),
 [], false⟩

def a48 : AFunc := ⟨6, [.tmp 2],
 (.seq (.reg [⟨(some 2), .mov (.k (.int .i64 0)), none⟩])
 (.seq (.reg [⟨(some 3), .mov (.t 0), none⟩,
 ⟨(some 4), .bin .mul (.t 3) (.k (.int .i64 78913)), none⟩,
 ⟨(some 5), .bin .shr (.t 4) (.k (.int .u64 18)), none⟩,
 ⟨(some 2), .mov (.t 5), none⟩])
 .ret)),
 [], false⟩

def a49 : AFunc := ⟨25, [.tmp 2],
 (.seq (.reg [⟨(some 2), .mov (.k (.int .i64 0)), none⟩])
 (.seq (.seq (.reg [⟨(some 3), .mov (.t 0), none⟩,
 ⟨(some 4), .bin .geq (.t 3) (.k (.int .u64 4294967296)), none⟩])
 (.cond (.t 4) (.seq (.reg [⟨(some 5), .mov (.t 0), none⟩,
 ⟨(some 6), .bin .shr (.t 5) (.k (.int .u64 32)), none⟩,
 ⟨(some 0), .mov (.t 6), none⟩])
 (.reg [⟨(some 2), .mov (.k (.int .i64 32)), none⟩]))
 .skip))
 (.seq (.seq (.reg [⟨(some 7), .mov (.t 0), none⟩,
 ⟨(some 8), .bin .geq (.t 7) (.k (.int .u64 65536)), none⟩])
 (.cond (.t 8) (.seq (.reg [⟨(some 9), .mov (.t 0), none⟩,
 ⟨(some 10), .bin .shr (.t 9) (.k (.int .u64 16)), none⟩,
 ⟨(some 0), .mov (.t 10), none⟩])
 (.reg [⟨(some 11), .mov (.t 2), none⟩,
 ⟨(some 12), .bin .add (.t 11) (.k (.int .i64 16)), none⟩,
 ⟨(some 2), .mov (.t 12), none⟩]))
 .skip))
 (.seq (.seq (.reg [⟨(some 13), .mov (.t 0), none⟩,
 ⟨(some 14), .bin .geq (.t 13) (.k (.int .u64 256)), none⟩])
 (.cond (.t 14) (.seq (.reg [⟨(some 15), .mov (.t 0), none⟩,
 ⟨(some 16), .bin .shr (.t 15) (.k (.int .u64 8)), none⟩,
 ⟨(some 0), .mov (.t 16), none⟩])
 (.reg [⟨(some 17), .mov (.t 2), none⟩,
 ⟨(some 18), .bin .add (.t 17) (.k (.int .i64 8)), none⟩,
 ⟨(some 2), .mov (.t 18), none⟩]))
 .skip))
 (.seq (.reg [⟨(some 19), .mov (.t 2), none⟩,
 ⟨(some 20), .mov (.t 0), none⟩,
 ⟨(some 21), .convInt .u8 (.t 20), none⟩,
 ⟨(some 22), .indexStr (.k (.str [0, 1, 2, 2, 3, 3, 3, 3, 4, 4, 4, 4, 4, 4, 4, 4, 5, 5, 5, 5, 5, 5, 5, 5, 5, 5, 5, 5, 5, 5, 5, 5, 6, 6, 6, 6, 6, 6, 6, 6, 6, 6, 6, 6, 6, 6, 6, 6, 6, 6, 6, 6, 6, 6, 6, 6, 6, 6, 6, 6, 6, 6, 6, 6, 7, 7, 7, 7, 7, 7, 7, 7, 7, 7, 7, 7, 7, 7, 7, 7, 7, 7, 7, 7, 7, 7, 7, 7, 7, 7, 7, 7, 7, 7, 7, 7, 7, 7, 7, 7, 7, 7, 7, 7, 7, 7, 7, 7, 7, 7, 7, 7, 7, 7, 7, 7, 7, 7, 7, 7, 7, 7, 7, 7, 7, 7, 7, 7, 8, 8, 8, 8, 8, 8, 8, 8, 8, 8, 8, 8, 8, 8, 8, 8, 8, 8, 8, 8, 8, 8, 8, 8, 8, 8, 8, 8, 8, 8, 8, 8, 8, 8, 8, 8, 8, 8, 8, 8, 8, 8, 8, 8, 8, 8, 8, 8, 8, 8, 8, 8, 8, 8, 8, 8, 8, 8, 8, 8, 8, 8, 8, 8, 8, 8, 8, 8, 8, 8, 8, 8, 8, 8, 8, 8, 8, 8, 8, 8, 8, 8, 8, 8, 8, 8, 8, 8, 8, 8, 8, 8, 8, 8, 8, 8, 8, 8, 8, 8, 8, 8, 8, 8, 8, 8, 8, 8, 8, 8, 8, 8, 8, 8, 8, 8, 8, 8, 8, 8, 8, 8, 8, 8, 8, 8, 8, 8])) (.t 21), none⟩,
 ⟨(some 23), .convInt .i64 (.t 22), none⟩,
 ⟨(some 24), .bin .add (.t 19) (.t 23), none⟩,
 ⟨(some 2), .mov (.t 24), none⟩])
 .ret))))),
 [], false⟩

def a50 : AFunc := ⟨4, [.tmp 2],
 (.seq (.reg [⟨(some 2), .mov (.k (.int .i64 0)), none⟩])
 (.seq (.seq (.reg [⟨(some 3), .mov (.t 0), none⟩])
 (.cond (.t 3) (.seq (.reg [⟨(some 2), .mov (.k (.int .i64 1)), none⟩])
 .ret)
 .skip))
 (.seq (.reg [⟨(some 2), .mov (.k (.int .i64 0)), none⟩])
 .ret))),
 [], false⟩

def a51 : AFunc := ⟨8, [.tmp 2],
 (.seq (.reg [⟨(some 2), .mov (.k (.bool false)), none⟩])
 (.seq (.reg [⟨(some 3), .mov (.t 0), none⟩,
 ⟨(some 4), .mov (.t 0), none⟩,
 ⟨(some 5), .bin .sub (.t 4) (.k (.int .i64 1)), none⟩,
 ⟨(some 6), .bin .and (.t 3) (.t 5), none⟩,
 ⟨(some 7), .bin .eql (.t 6) (.k (.int .i64 0)), none⟩,
 ⟨(some 2), .mov (.t 7), none⟩])
 .ret)),
 [], false⟩

def a52 : AFunc := ⟨8, [.tmp 2],
 (.seq (.reg [⟨(some 2), .mov (.k (.int .i64 0)), none⟩])
 (.seq (.cond (.k (.bool false)) (.seq (.reg [⟨(some 3), .mov (.t 0), none⟩,
 ⟨(some 4), .convInt .u32 (.t 3), none⟩,
 ⟨(some 5), .call (.k (.func (.func 68) [] [])) [(.t 4)], none⟩,
 ⟨(some 2), .mov (.t 5), none⟩])
 .ret)
 .skip)
 (.seq (.reg [⟨(some 6), .mov (.t 0), none⟩,
 ⟨(some 7), .call (.k (.func (.func 69) [] [])) [(.t 6)], none⟩,
 ⟨(some 2), .mov (.t 7), none⟩])
 .ret))),
 [], false⟩

def a53 : AFunc := ⟨10, [.tmp 4],
 (.seq (.reg [⟨(some 4), .mov (.k (.bool false)), none⟩])
 (.seq (.reg [⟨(some 5), .mov (.t 0), none⟩,
 ⟨(some 6), .mov (.t 1), none⟩,
 ⟨(some 7), .nilCheck (.t 5), none⟩,
 ⟨(some 8), .indexAddr 1 false (some 256) (.t 7) (.t 6), none⟩,
 ⟨(some 9), .load 1 false (.t 8), none⟩,
 ⟨(some 4), .mov (.t 9), none⟩])
 .ret)),
 [], true⟩

def a54_0 : ACode := (.seq (.seq (.reg [⟨(some 25), .mov (.t 5), none⟩,
 ⟨(some 26), .mov (.t 6), none⟩,
 ⟨(some 27), .bin .geq (.t 25) (.t 26), none⟩])
 (.cond (.t 27) .skip
 (.exit 0)))
 (.seq (.block 1 (.seq (.reg [⟨(some 30), .mov (.t 0), none⟩,
 ⟨(some 31), .mov (.t 5), none⟩,
 ⟨(some 32), .indexStr (.t 30) (.t 31), none⟩,
 ⟨(some 33), .call (.k (.func (.func 70) [] [])) [(.t 32)], none⟩])
 (.cond (.t 33) (.exit 0)
 .skip)))
 (.reg [⟨(some 28), .mov (.t 5), none⟩,
 ⟨(some 29), .bin .sub (.t 28) (.k (.int .i64 1)), none⟩,
 ⟨(some 5), .mov (.t 29), none⟩])))

def a54 : AFunc := ⟨51, [.tmp 2, .tmp 3],
 (.seq (.reg [⟨(some 2), .mov (.k (.int .i32 0)), none⟩,
 ⟨(some 3), .mov (.k (.int .i64 0)), none⟩])
 (.seq (.reg [⟨(some 7), .mov (.t 0), none⟩,
 ⟨(some 8), .lenStr (.t 7), none⟩,
 ⟨(some 4), .mov (.t 8), none⟩])
 (.seq (.seq (.reg [⟨(some 9), .mov (.t 4), none⟩,
 ⟨(some 10), .bin .eql (.t 9) (.k (.int .i64 0)), none⟩])
 (.cond (.t 10) (.seq (.reg [⟨(some 2), .mov (.k (.int .i32 65533)), none⟩,
 ⟨(some 3), .mov (.k (.int .i64 0)), none⟩])
 .ret)
 .skip))
 (.seq (.reg [⟨(some 11), .mov (.t 4), none⟩,
 ⟨(some 12), .bin .sub (.t 11) (.k (.int .i64 1)), none⟩,
 ⟨(some 5), .mov (.t 12), none⟩])
 (.seq (.reg [⟨(some 13), .mov (.t 0), none⟩,
 ⟨(some 14), .mov (.t 5), none⟩,
 ⟨(some 15), .indexStr (.t 13) (.t 14), none⟩,
 ⟨(some 16), .convInt .i32 (.t 15), none⟩,
 ⟨(some 2), .mov (.t 16), none⟩])
 (.seq (.seq (.reg [⟨(some 17), .mov (.t 2), none⟩,
 ⟨(some 18), .bin .lss (.t 17) (.k (.int .i32 128)), none⟩])
 (.cond (.t 18) (.seq (.reg [⟨(some 19), .mov (.t 2), none⟩,
 ⟨(some 2), .mov (.t 19), none⟩,
 ⟨(some 3), .mov (.k (.int .i64 1)), none⟩])
 .ret)
 .skip))
 (.seq (.reg [⟨(some 20), .mov (.t 4), none⟩,
 ⟨(some 21), .bin .sub (.t 20) (.k (.int .i64 4)), none⟩,
 ⟨(some 22), .minmax true [(.t 21), (.k (.int .i64 0))], none⟩,
 ⟨(some 6), .mov (.t 22), none⟩])
 (.seq (.seq (.reg [⟨(some 23), .mov (.t 5), none⟩,
 ⟨(some 24), .bin .sub (.t 23) (.k (.int .i64 1)), none⟩,
 ⟨(some 5), .mov (.t 24), none⟩])
 (.block 0 (.loop a54_0)))
 (.seq (.seq (.reg [⟨(some 34), .mov (.t 5), none⟩,
 ⟨(some 35), .bin .lss (.t 34) (.k (.int .i64 0)), none⟩])
 (.cond (.t 35) (.reg [⟨(some 5), .mov (.k (.int .i64 0)), none⟩])
 .skip))
 (.seq (.reg [⟨(some 37), .mov (.t 0), none⟩,
 ⟨(some 38), .mov (.t 5), none⟩,
 ⟨(some 39), .mov (.t 4), none⟩,
 ⟨(some 40), .sliceStr (.t 37) (some (.t 38)) (some (.t 39)), none⟩,
 ⟨(some 41), .call (.k (.func (.func 71) [] [])) [(.t 40)], none⟩,
 ⟨(some 36), .mov (.t 41), none⟩,
 ⟨(some 42), .extract (.t 36) 0, none⟩,
 ⟨(some 43), .extract (.t 36) 1, none⟩,
 ⟨(some 2), .mov (.t 42), none⟩,
 ⟨(some 3), .mov (.t 43), none⟩])
 (.seq (.seq (.reg [⟨(some 44), .mov (.t 5), none⟩,
 ⟨(some 45), .mov (.t 3), none⟩,
 ⟨(some 46), .bin .add (.t 44) (.t 45), none⟩,
 ⟨(some 47), .mov (.t 4), none⟩,
 ⟨(some 48), .bin .neq (.t 46) (.t 47), none⟩])
 (.cond (.t 48) (.seq (.reg [⟨(some 2), .mov (.k (.int .i32 65533)), none⟩,
 ⟨(some 3), .mov (.k (.int .i64 1)), none⟩])
 .ret)
 .skip))
 (.seq (.reg [⟨(some 49), .mov (.t 2), none⟩,
 ⟨(some 50), .mov (.t 3), none⟩,
 ⟨(some 2), .mov (.t 49), none⟩,
 ⟨(some 3), .mov (.t 50), none⟩])
 .ret)))))))))))),
 [], false⟩

def a55 : AFunc := ⟨9, [.tmp 4],
 (.seq (.reg [⟨(some 4), .mov (.k (.bool false)), none⟩])
 (.seq (.reg [⟨(some 5), .mov (.t 0), none⟩,
 ⟨(some 6), .mov (.t 1), none⟩,
 ⟨(some 7), .call (.k (.func (.func 72) [] [])) [(.t 5), (.t 6)], none⟩,
 ⟨(some 8), .bin .geq (.t 7) (.k (.int .i64 0)), none⟩,
 ⟨(some 4), .mov (.t 8), none⟩])
 .ret)),
 [], false⟩

def a58 : AFunc := ⟨5, [.tmp 2],
 (.seq (.reg [⟨(some 2), .mov (.k (.int .u8 0)), none⟩])
 (.seq (.reg [⟨(some 3), .mov (.t 0), none⟩,
 ⟨(some 4), .bin .or (.t 3) (.k (.int .u8 32)), none⟩,
 ⟨(some 2), .mov (.t 4), none⟩])
 .ret)),
 [], false⟩

def a59_0 : ACode := (.seq (.seq (.reg [⟨(some 51), .mov (.t 4), none⟩,
 ⟨(some 52), .mov (.t 0), none⟩,
 ⟨(some 53), .lenStr (.t 52), none⟩,
 ⟨(some 54), .bin .lss (.t 51) (.t 53), none⟩])
 (.cond (.t 54) .skip
 (.exit 0)))
 (.seq (.block 1 (.seq (.seq (.reg [⟨(some 57), .mov (.t 0), none⟩,
 ⟨(some 58), .mov (.t 4), none⟩,
 ⟨(some 59), .indexStr (.t 57) (.t 58), none⟩,
 ⟨(some 60), .bin .leq (.k (.int .u8 48)) (.t 59), none⟩,
 ⟨(some 61), .mov (.t 60), none⟩,
 ⟨(some 62), .mov (.t 0), some (61, true)⟩,
 ⟨(some 63), .mov (.t 4), some (61, true)⟩,
 ⟨(some 64), .indexStr (.t 62) (.t 63), some (61, true)⟩,
 ⟨(some 65), .bin .leq (.t 64) (.k (.int .u8 57)), some (61, true)⟩,
 ⟨(some 66), .pick (.t 61) (.t 65) (.k (.bool false)), none⟩,
 ⟨(some 67), .mov (.t 66), none⟩,
 ⟨(some 68), .mov (.t 5), some (67, false)⟩,
 ⟨(some 69), .mov (.t 68), some (67, false)⟩,
 ⟨(some 70), .mov (.t 0), some (69, true)⟩,
 ⟨(some 71), .mov (.t 4), some (69, true)⟩,
 ⟨(some 72), .indexStr (.t 70) (.t 71), some (69, true)⟩,
 ⟨(some 73), .call (.k (.func (.func 58) [] [])) [(.t 72)], some (69, true)⟩,
 ⟨(some 74), .bin .leq (.k (.int .u8 97)) (.t 73), some (69, true)⟩,
 ⟨(some 75), .pick (.t 69) (.t 74) (.k (.bool false)), some (67, false)⟩,
 ⟨(some 76), .mov (.t 75), some (67, false)⟩,
 ⟨(some 77), .mov (.t 0), some (76, true)⟩,
 ⟨(some 78), .mov (.t 4), some (76, true)⟩,
 ⟨(some 79), .indexStr (.t 77) (.t 78), some (76, true)⟩,
 ⟨(some 80), .call (.k (.func (.func 58) [] [])) [(.t 79)], some (76, true)⟩,
 ⟨(some 81), .bin .leq (.t 80) (.k (.int .u8 102)), some (76, true)⟩,
 ⟨(some 82), .pick (.t 76) (.t 81) (.k (.bool false)), some (67, false)⟩,
 ⟨(some 83), .pick (.t 67) (.k (.bool true)) (.t 82), none⟩])
 (.cond (.t 83) (.seq (.reg [⟨(some 3), .mov (.k (.int .i32 48)), none⟩])
 (.exit 1))
 .skip))
 (.seq (.seq (.reg [⟨(some 84), .mov (.t 0), none⟩,
 ⟨(some 85), .mov (.t 4), none⟩,
 ⟨(some 86), .indexStr (.t 84) (.t 85), none⟩,
 ⟨(some 87), .bin .eql (.t 86) (.k (.int .u8 95)), none⟩])
 (.cond (.t 87) (.seq (.seq (.reg [⟨(some 88), .mov (.t 3), none⟩,
 ⟨(some 89), .bin .neq (.t 88) (.k (.int .i32 48)), none⟩])
 (.cond (.t 89) (.seq (.reg [⟨(some 2), .mov (.k (.bool false)), none⟩])
 .ret)
 .skip))
 (.seq (.reg [⟨(some 3), .mov (.k (.int .i32 95)), none⟩])
 (.exit 1)))
 .skip))
 (.seq (.seq (.reg [⟨(some 90), .mov (.t 3), none⟩,
 ⟨(some 91), .bin .eql (.t 90) (.k (.int .i32 95)), none⟩])
 (.cond (.t 91) (.seq (.reg [⟨(some 2), .mov (.k (.bool false)), none⟩])
 .ret)
 .skip))
 (.reg [⟨(some 3), .mov (.k (.int .i32 33)), none⟩])))))
 (.reg [⟨(some 55), .mov (.t 4), none⟩,
 ⟨(some 56), .bin .add (.t 55) (.k (.int .i64 1)), none⟩,
 ⟨(some 4), .mov (.t 56), none⟩])))

def a59 : AFunc := ⟨94, [.tmp 2],
 (.seq (.reg [⟨(some 2), .mov (.k (.bool false)), none⟩])
 (.seq (.reg [⟨(some 3), .mov (.k (.int .i32 94)), none⟩])
 (.seq (.reg [⟨(some 4), .mov (.k (.int .i64 0)), none⟩])
 (.seq (.seq (.reg [⟨(some 6), .mov (.t 0), none⟩,
 ⟨(some 7), .lenStr (.t 6), none⟩,
 ⟨(some 8), .bin .geq (.t 7) (.k (.int .i64 1)), none⟩,
 ⟨(some 9), .mov (.t 8), none⟩,
 ⟨(some 10), .mov (.t 0), some (9, true)⟩,
 ⟨(some 11), .indexStr (.t 10) (.k (.int .i64 0)), some (9, true)⟩,
 ⟨(some 12), .bin .eql (.t 11) (.k (.int .u8 45)), some (9, true)⟩,
 ⟨(some 13), .mov (.t 12), some (9, true)⟩,
 ⟨(some 14), .mov (.t 0), some (13, false)⟩,
 ⟨(some 15), .indexStr (.t 14) (.k (.int .i64 0)), some (13, false)⟩,
 ⟨(some 16), .bin .eql (.t 15) (.k (.int .u8 43)), some (13, false)⟩,
 ⟨(some 17), .pick (.t 13) (.k (.bool true)) (.t 16), some (9, true)⟩,
 ⟨(some 18), .pick (.t 9) (.t 17) (.k (.bool false)), none⟩])
 (.cond (.t 18) (.reg [⟨(some 19), .mov (.t 0), none⟩,
 ⟨(some 20), .sliceStr (.t 19) (some (.k (.int .i64 1))) none, none⟩,
 ⟨(some 0), .mov (.t 20), none⟩])
 .skip))
 (.seq (.reg [⟨(some 5), .mov (.k (.bool false)), none⟩])
 (.seq (.seq (.reg [⟨(some 21), .mov (.t 0), none⟩,
 ⟨(some 22), .lenStr (.t 21), none⟩,
 ⟨(some 23), .bin .geq (.t 22) (.k (.int .i64 2)), none⟩,
 ⟨(some 24), .mov (.t 23), none⟩,
 ⟨(some 25), .mov (.t 0), some (24, true)⟩,
 ⟨(some 26), .indexStr (.t 25) (.k (.int .i64 0)), some (24, true)⟩,
 ⟨(some 27), .bin .eql (.t 26) (.k (.int .u8 48)), some (24, true)⟩,
 ⟨(some 28), .pick (.t 24) (.t 27) (.k (.bool false)), none⟩,
 ⟨(some 29), .mov (.t 28), none⟩,
 ⟨(some 30), .mov (.t 0), some (29, true)⟩,
 ⟨(some 31), .indexStr (.t 30) (.k (.int .i64 1)), some (29, true)⟩,
 ⟨(some 32), .call (.k (.func (.func 58) [] [])) [(.t 31)], some (29, true)⟩,
 ⟨(some 33), .bin .eql (.t 32) (.k (.int .u8 98)), some (29, true)⟩,
 ⟨(some 34), .mov (.t 33), some (29, true)⟩,
 ⟨(some 35), .mov (.t 0), some (34, false)⟩,
 ⟨(some 36), .indexStr (.t 35) (.k (.int .i64 1)), some (34, false)⟩,
 ⟨(some 37), .call (.k (.func (.func 58) [] [])) [(.t 36)], some (34, false)⟩,
 ⟨(some 38), .bin .eql (.t 37) (.k (.int .u8 111)), some (34, false)⟩,
 ⟨(some 39), .pick (.t 34) (.k (.bool true)) (.t 38), some (29, true)⟩,
 ⟨(some 40), .mov (.t 39), some (29, true)⟩,
 ⟨(some 41), .mov (.t 0), some (40, false)⟩,
 ⟨(some 42), .indexStr (.t 41) (.k (.int .i64 1)), some (40, false)⟩,
 ⟨(some 43), .call (.k (.func (.func 58) [] [])) [(.t 42)], some (40, false)⟩,
 ⟨(some 44), .bin .eql (.t 43) (.k (.int .u8 120)), some (40, false)⟩,
 ⟨(some 45), .pick (.t 40) (.k (.bool true)) (.t 44), some (29, true)⟩,
 ⟨(some 46), .pick (.t 29) (.t 45) (.k (.bool false)), none⟩])
 (.cond (.t 46) (.seq (.reg [⟨(some 4), .mov (.k (.int .i64 2)), none⟩])
 (.seq (.reg [⟨(some 3), .mov (.k (.int .i32 48)), none⟩])
 (.reg [⟨(some 47), .mov (.t 0), none⟩,
 ⟨(some 48), .indexStr (.t 47) (.k (.int .i64 1)), none⟩,
 ⟨(some 49), .call (.k (.func (.func 58) [] [])) [(.t 48)], none⟩,
 ⟨(some 50), .bin .eql (.t 49) (.k (.int .u8 120)), none⟩,
 ⟨(some 5), .mov (.t 50), none⟩])))
 .skip))
 (.seq (.block 0 (.loop a59_0))
 (.seq (.reg [⟨(some 92), .mov (.t 3), none⟩,
 ⟨(some 93), .bin .neq (.t 92) (.k (.int .i32 95)), none⟩,
 ⟨(some 2), .mov (.t 93), none⟩])
 .ret)))))))),
 [], false⟩

def a62 : AFunc := ⟨16, [.tmp 6],
 (.seq (.reg [⟨(some 6), .mov (.k .nilPtr), none⟩])
 (.seq (.reg [⟨(some 7), .mov (.t 0), none⟩,
 ⟨(some 8), .mov (.t 1), none⟩,
 ⟨(some 9), .call (.k (.func (.func 75) [] [])) [(.t 8)], none⟩,
 ⟨(some 10), .mov (.t 2), none⟩,
 ⟨(some 11), .call (.k (.func (.func 77) [] [])) [(.t 10)], none⟩,
 ⟨(some 12), .bin .add (.k (.str [105, 110, 118, 97, 108, 105, 100, 32, 98, 97, 115, 101, 32])) (.t 11), none⟩,
 ⟨(some 13), .call (.k (.func (.func 76) [] [])) [(.t 12)], none⟩,
 ⟨(some 14), .build [(.str []), (.str []), .nilIface] [(0, 1, (.t 7)), (1, 1, (.t 9)), (2, 1, (.t 13))], none⟩,
 ⟨(some 15), .box 3 (.t 14) false, none⟩,
 ⟨(some 6), .mov (.t 15), none⟩])
 .ret)),
 [], true⟩

def a63 : AFunc := ⟨16, [.tmp 6],
 (.seq (.reg [⟨(some 6), .mov (.k .nilPtr), none⟩])
 (.seq (.reg [⟨(some 7), .mov (.t 0), none⟩,
 ⟨(some 8), .mov (.t 1), none⟩,
 ⟨(some 9), .call (.k (.func (.func 75) [] [])) [(.t 8)], none⟩,
 ⟨(some 10), .mov (.t 2), none⟩,
 ⟨(some 11), .call (.k (.func (.func 77) [] [])) [(.t 10)], none⟩,
 ⟨(some 12), .bin .add (.k (.str [105, 110, 118, 97, 108, 105, 100, 32, 98, 105, 116, 32, 115, 105, 122, 101, 32])) (.t 11), none⟩,
 ⟨(some 13), .call (.k (.func (.func 76) [] [])) [(.t 12)], none⟩,
 ⟨(some 14), .build [(.str []), (.str []), .nilIface] [(0, 1, (.t 7)), (1, 1, (.t 9)), (2, 1, (.t 13))], none⟩,
 ⟨(some 15), .box 3 (.t 14) false, none⟩,
 ⟨(some 6), .mov (.t 15), none⟩])
 .ret)),
 [], true⟩

def a65_0 : ACode := (.seq (.seq (.reg [⟨(some 5), .mov (.t 0), none⟩,
 ⟨(some 6), .lenStr (.t 5), none⟩,
 ⟨(some 7), .bin .gtr (.t 6) (.k (.int .i64 0)), none⟩,
 ⟨(some 8), .mov (.t 7), none⟩,
 ⟨(some 9), .mov (.t 0), some (8, true)⟩,
 ⟨(some 10), .indexStr (.t 9) (.k (.int .i64 0)), some (8, true)⟩,
 ⟨(some 11), .mov (.t 1), some (8, true)⟩,
 ⟨(some 12), .bin .eql (.t 10) (.t 11), some (8, true)⟩,
 ⟨(some 13), .pick (.t 8) (.t 12) (.k (.bool false)), none⟩])
 (.cond (.t 13) .skip
 (.exit 0)))
 (.block 1 (.reg [⟨(some 14), .mov (.t 0), none⟩,
 ⟨(some 15), .sliceStr (.t 14) (some (.k (.int .i64 1))) none, none⟩,
 ⟨(some 0), .mov (.t 15), none⟩])))

def a65 : AFunc := ⟨17, [.tmp 4],
 (.seq (.reg [⟨(some 4), .mov (.k (.str [])), none⟩])
 (.seq (.block 0 (.loop a65_0))
 (.seq (.reg [⟨(some 16), .mov (.t 0), none⟩,
 ⟨(some 4), .mov (.t 16), none⟩])
 .ret))),
 [], false⟩

def a66_0 : ACode := (.seq (.seq (.reg [⟨(some 5), .mov (.t 0), none⟩,
 ⟨(some 6), .lenStr (.t 5), none⟩,
 ⟨(some 7), .bin .gtr (.t 6) (.k (.int .i64 0)), none⟩])
 (.cond (.t 7) .skip
 (.exit 0)))
 (.block 1 (.seq (.seq (.reg [⟨(some 8), .mov (.t 1), none⟩,
 ⟨(some 9), .mov (.t 0), none⟩,
 ⟨(some 10), .indexStr (.t 9) (.k (.int .i64 0)), none⟩,
 ⟨(some 11), .call (.k (.func (.func 53) [] [])) [(.t 8), (.t 10)], none⟩,
 ⟨(some 12), .un .not (.t 11), none⟩])
 (.cond (.t 12) (.exit 0)
 .skip))
 (.reg [⟨(some 13), .mov (.t 0), none⟩,
 ⟨(some 14), .sliceStr (.t 13) (some (.k (.int .i64 1))) none, none⟩,
 ⟨(some 0), .mov (.t 14), none⟩]))))

def a66 : AFunc := ⟨16, [.tmp 4],
 (.seq (.reg [⟨(some 4), .mov (.k (.str [])), none⟩])
 (.seq (.block 0 (.loop a66_0))
 (.seq (.reg [⟨(some 15), .mov (.t 0), none⟩,
 ⟨(some 4), .mov (.t 15), none⟩])
 .ret))),
 [], true⟩

def a67_0 : ACode := (.seq (.seq (.reg [⟨(some 7), .mov (.t 0), none⟩,
 ⟨(some 8), .lenStr (.t 7), none⟩,
 ⟨(some 9), .bin .gtr (.t 8) (.k (.int .i64 0)), none⟩])
 (.cond (.t 9) .skip
 (.exit 0)))
 (.block 1 (.seq (.reg [⟨(some 11), .mov (.t 0), none⟩,
 ⟨(some 12), .call (.k (.func (.func 71) [] [])) [(.t 11)], none⟩,
 ⟨(some 10), .mov (.t 12), none⟩,
 ⟨(some 13), .extract (.t 10) 0, none⟩,
 ⟨(some 14), .extract (.t 10) 1, none⟩,
 ⟨(some 5), .mov (.t 13), none⟩,
 ⟨(some 6), .mov (.t 14), none⟩])
 (.seq (.seq (.reg [⟨(some 15), .mov (.t 1), none⟩,
 ⟨(some 16), .mov (.t 5), none⟩,
 ⟨(some 17), .call (.k (.func (.func 55) [] [])) [(.t 15), (.t 16)], none⟩,
 ⟨(some 18), .un .not (.t 17), none⟩])
 (.cond (.t 18) (.exit 0)
 .skip))
 (.reg [⟨(some 19), .mov (.t 0), none⟩,
 ⟨(some 20), .mov (.t 6), none⟩,
 ⟨(some 21), .sliceStr (.t 19) (some (.t 20)) none, none⟩,
 ⟨(some 0), .mov (.t 21), none⟩])))))

def a67 : AFunc := ⟨23, [.tmp 4],
 (.seq (.reg [⟨(some 4), .mov (.k (.str [])), none⟩])
 (.seq (.block 0 (.loop a67_0))
 (.seq (.reg [⟨(some 22), .mov (.t 0), none⟩,
 ⟨(some 4), .mov (.t 22), none⟩])
 .ret))),
 [], false⟩

def a70 : AFunc := ⟨6, [.tmp 2],
 (.seq (.reg [⟨(some 2), .mov (.k (.bool false)), none⟩])
 (.seq (.reg [⟨(some 3), .mov (.t 0), none⟩,
 ⟨(some 4), .bin .and (.t 3) (.k (.int .u8 192)), none⟩,
 ⟨(some 5), .bin .neq (.t 4) (.k (.int .u8 128)), none⟩,
 ⟨(some 2), .mov (.t 5), none⟩])
 .ret)),
 [], false⟩

def a71 : AFunc := ⟨19, [.tmp 2, .tmp 3],
 (.seq (.reg [⟨(some 2), .mov (.k (.int .i32 0)), none⟩,
 ⟨(some 3), .mov (.k (.int .i64 0)), none⟩])
 (.seq (.seq (.reg [⟨(some 4), .mov (.t 0), none⟩,
 ⟨(some 5), .bin .neq (.t 4) (.k (.str [])), none⟩,
 ⟨(some 6), .mov (.t 5), none⟩,
 ⟨(some 7), .mov (.t 0), some (6, true)⟩,
 ⟨(some 8), .indexStr (.t 7) (.k (.int .i64 0)), some (6, true)⟩,
 ⟨(some 9), .bin .lss (.t 8) (.k (.int .u8 128)), some (6, true)⟩,
 ⟨(some 10), .pick (.t 6) (.t 9) (.k (.bool false)), none⟩])
 (.cond (.t 10) (.seq (.reg [⟨(some 11), .mov (.t 0), none⟩,
 ⟨(some 12), .indexStr (.t 11) (.k (.int .i64 0)), none⟩,
 ⟨(some 13), .convInt .i32 (.t 12), none⟩,
 ⟨(some 2), .mov (.t 13), none⟩,
 ⟨(some 3), .mov (.k (.int .i64 1)), none⟩])
 .ret)
 (.reg [⟨(some 15), .mov (.t 0), none⟩,
 ⟨(some 16), .call (.k (.func (.func 82) [] [])) [(.t 15)], none⟩,
 ⟨(some 14), .mov (.t 16), none⟩,
 ⟨(some 17), .extract (.t 14) 0, none⟩,
 ⟨(some 18), .extract (.t 14) 1, none⟩,
 ⟨(some 2), .mov (.t 17), none⟩,
 ⟨(some 3), .mov (.t 18), none⟩])))
 .ret)),
 [], false⟩

def a76 : AFunc := ⟨7, [.tmp 2],
 (.seq (.reg [⟨(some 2), .mov (.k .nilIface), none⟩])
 (.seq (.reg [⟨(some 3), .mov (.t 0), none⟩,
 ⟨(some 4), .build [(.str [])] [(0, 1, (.t 3))], none⟩,
 ⟨(some 5), .box 1 (.t 4) false, none⟩,
 ⟨(some 6), .mkIface 107 (.t 5), none⟩,
 ⟨(some 2), .mov (.t 6), none⟩])
 .ret)),
 [], false⟩

def a77 : AFunc := ⟨5, [.tmp 2],
 (.seq (.reg [⟨(some 2), .mov (.k (.str [])), none⟩])
 (.seq (.reg [⟨(some 3), .mov (.t 0), none⟩,
 ⟨(some 4), .call (.k (.func (.func 85) [] [])) [(.t 3)], none⟩,
 ⟨(some 2), .mov (.t 4), none⟩])
 .ret)),
 [], false⟩

def a78 : AFunc := ⟨8, [.tmp 4],
 (.seq (.reg [⟨(some 4), .mov (.k (.int .i64 0)), none⟩])
 (.seq (.reg [⟨(some 5), .mov (.t 0), none⟩,
 ⟨(some 6), .mov (.t 1), none⟩,
 ⟨(some 7), .call (.k (.func (.func 86) [] [])) [(.t 5), (.t 6)], none⟩,
 ⟨(some 4), .mov (.t 7), none⟩])
 .ret)),
 [], false⟩

def a80 : AFunc := ⟨6, [.tmp 2],
 (.seq (.reg [⟨(some 2), .mov (.k (.int .i64 0)), none⟩])
 (.seq (.reg [⟨(some 3), .mov (.t 0), none⟩,
 ⟨(some 4), .bin .add (.t 3) (.k (.int .i64 16)), none⟩,
 ⟨(some 5), .bin .quo (.t 4) (.k (.int .i64 8)), none⟩,
 ⟨(some 2), .mov (.t 5), none⟩])
 .ret)),
 [], false⟩

def a81_0 : ACode := (.seq (.seq (.reg [⟨(some 41), .mov (.t 10), none⟩,
 ⟨(some 42), .mov (.t 0), none⟩,
 ⟨(some 43), .lenStr (.t 42), none⟩,
 ⟨(some 44), .bin .lss (.t 41) (.t 43), none⟩])
 (.cond (.t 44) .skip
 (.exit 2)))
 (.block 3 (.seq (.reg [⟨(some 45), .mov (.t 8), none⟩,
 ⟨(some 46), .bin .mul (.t 45) (.k (.int .u32 16777619)), none⟩,
 ⟨(some 8), .mov (.t 46), none⟩])
 (.seq (.reg [⟨(some 47), .mov (.t 8), none⟩,
 ⟨(some 48), .mov (.t 0), none⟩,
 ⟨(some 49), .mov (.t 10), none⟩,
 ⟨(some 50), .indexStr (.t 48) (.t 49), none⟩,
 ⟨(some 51), .convInt .u32 (.t 50), none⟩,
 ⟨(some 52), .bin .add (.t 47) (.t 51), none⟩,
 ⟨(some 8), .mov (.t 52), none⟩])
 (.seq (.reg [⟨(some 53), .mov (.t 8), none⟩,
 ⟨(some 54), .mov (.t 6), none⟩,
 ⟨(some 55), .mov (.t 0), none⟩,
 ⟨(some 56), .mov (.t 10), none⟩,
 ⟨(some 57), .mov (.t 7), none⟩,
 ⟨(some 58), .bin .sub (.t 56) (.t 57), none⟩,
 ⟨(some 59), .indexStr (.t 55) (.t 58), none⟩,
 ⟨(some 60), .convInt .u32 (.t 59), none⟩,
 ⟨(some 61), .bin .mul (.t 54) (.t 60), none⟩,
 ⟨(some 62), .bin .sub (.t 53) (.t 61), none⟩,
 ⟨(some 8), .mov (.t 62), none⟩])
 (.seq (.reg [⟨(some 63), .mov (.t 10), none⟩,
 ⟨(some 64), .bin .add (.t 63) (.k (.int .i64 1)), none⟩,
 ⟨(some 10), .mov (.t 64), none⟩])
 (.seq (.reg [⟨(some 65), .mov (.t 8), none⟩,
 ⟨(some 66), .mov (.t 5), none⟩,
 ⟨(some 67), .bin .eql (.t 65) (.t 66), none⟩,
 ⟨(some 68), .mov (.t 67), none⟩,
 ⟨(some 69), .mov (.t 0), some (68, true)⟩,
 ⟨(some 70), .mov (.t 10), some (68, true)⟩,
 ⟨(some 71), .mov (.t 7), some (68, true)⟩,
 ⟨(some 72), .bin .sub (.t 70) (.t 71), some (68, true)⟩,
 ⟨(some 73), .mov (.t 10), some (68, true)⟩,
 ⟨(some 74), .sliceStr (.t 69) (some (.t 72)) (some (.t 73)), some (68, true)⟩,
 ⟨(some 75), .mov (.t 1), some (68, true)⟩,
 ⟨(some 76), .bin .eql (.t 74) (.t 75), some (68, true)⟩,
 ⟨(some 77), .pick (.t 68) (.t 76) (.k (.bool false)), none⟩])
 (.cond (.t 77) (.seq (.reg [⟨(some 78), .mov (.t 10), none⟩,
 ⟨(some 79), .mov (.t 7), none⟩,
 ⟨(some 80), .bin .sub (.t 78) (.t 79), none⟩,
 ⟨(some 4), .mov (.t 80), none⟩])
 .ret)
 .skip))))))))

def a81_1 : ACode := (.seq (.seq (.reg [⟨(some 18), .mov (.t 9), none⟩,
 ⟨(some 19), .mov (.t 7), none⟩,
 ⟨(some 20), .bin .lss (.t 18) (.t 19), none⟩])
 (.cond (.t 20) .skip
 (.exit 0)))
 (.seq (.block 1 (.reg [⟨(some 23), .mov (.t 8), none⟩,
 ⟨(some 24), .bin .mul (.t 23) (.k (.int .u32 16777619)), none⟩,
 ⟨(some 25), .mov (.t 0), none⟩,
 ⟨(some 26), .mov (.t 9), none⟩,
 ⟨(some 27), .indexStr (.t 25) (.t 26), none⟩,
 ⟨(some 28), .convInt .u32 (.t 27), none⟩,
 ⟨(some 29), .bin .add (.t 24) (.t 28), none⟩,
 ⟨(some 8), .mov (.t 29), none⟩]))
 (.reg [⟨(some 21), .mov (.t 9), none⟩,
 ⟨(some 22), .bin .add (.t 21) (.k (.int .i64 1)), none⟩,
 ⟨(some 9), .mov (.t 22), none⟩])))

def a81 : AFunc := ⟨81, [.tmp 4],
 (.seq (.reg [⟨(some 4), .mov (.k (.int .i64 0)), none⟩])
 (.seq (.reg [⟨(some 12), .mov (.t 1), none⟩,
 ⟨(some 13), .call (.k (.func (.func 87) [] [])) [(.t 12)], none⟩,
 ⟨(some 11), .mov (.t 13), none⟩,
 ⟨(some 14), .extract (.t 11) 0, none⟩,
 ⟨(some 15), .extract (.t 11) 1, none⟩,
 ⟨(some 5), .mov (.t 14), none⟩,
 ⟨(some 6), .mov (.t 15), none⟩])
 (.seq (.reg [⟨(some 16), .mov (.t 1), none⟩,
 ⟨(some 17), .lenStr (.t 16), none⟩,
 ⟨(some 7), .mov (.t 17), none⟩])
 (.seq (.reg [⟨(some 8), .mov (.k (.int .u32 0)), none⟩])
 (.seq (.seq (.reg [⟨(some 9), .mov (.k (.int .i64 0)), none⟩])
 (.block 0 (.loop a81_1)))
 (.seq (.seq (.reg [⟨(some 30), .mov (.t 8), none⟩,
 ⟨(some 31), .mov (.t 5), none⟩,
 ⟨(some 32), .bin .eql (.t 30) (.t 31), none⟩,
 ⟨(some 33), .mov (.t 32), none⟩,
 ⟨(some 34), .mov (.t 0), some (33, true)⟩,
 ⟨(some 35), .mov (.t 7), some (33, true)⟩,
 ⟨(some 36), .sliceStr (.t 34) none (some (.t 35)), some (33, true)⟩,
 ⟨(some 37), .mov (.t 1), some (33, true)⟩,
 ⟨(some 38), .bin .eql (.t 36) (.t 37), some (33, true)⟩,
 ⟨(some 39), .pick (.t 33) (.t 38) (.k (.bool false)), none⟩])
 (.cond (.t 39) (.seq (.reg [⟨(some 4), .mov (.k (.int .i64 0)), none⟩])
 .ret)
 .skip))
 (.seq (.seq (.reg [⟨(some 40), .mov (.t 7), none⟩,
 ⟨(some 10), .mov (.t 40), none⟩])
 (.block 2 (.loop a81_0)))
 (.seq (.reg [⟨(some 4), .mov (.k (.int .i64 (-1))), none⟩])
 .ret)))))))),
 [], false⟩

def a83 : AFunc := ⟨8, [.tmp 4],
 (.seq (.reg [⟨(some 4), .mov (.k (.int .i64 0)), none⟩])
 (.seq (.reg [⟨(some 5), .mov (.t 0), none⟩,
 ⟨(some 6), .mov (.t 1), none⟩,
 ⟨(some 7), .call (.k (.func (.func 78) [] [])) [(.t 5), (.t 6)], none⟩,
 ⟨(some 4), .mov (.t 7), none⟩])
 .ret)),
 [], false⟩

def a84 : AFunc := ⟨17, [.tmp 2],
 (.seq (.reg [⟨(some 2), .mov (.k (.bool false)), none⟩])
 (.seq (.block 0 (.seq (.reg [⟨(some 4), .mov (.t 0), none⟩,
 ⟨(some 5), .bin .leq (.k (.int .i32 0)) (.t 4), none⟩,
 ⟨(some 6), .mov (.t 5), none⟩,
 ⟨(some 7), .mov (.t 0), some (6, true)⟩,
 ⟨(some 8), .bin .lss (.t 7) (.k (.int .i32 55296)), some (6, true)⟩,
 ⟨(some 9), .pick (.t 6) (.t 8) (.k (.bool false)), none⟩,
 ⟨(some 3), .mov (.t 9), none⟩])
 (.cond (.t 3) (.seq (.reg [⟨(some 2), .mov (.k (.bool true)), none⟩])
 .ret)
 (.seq (.reg [⟨(some 11), .mov (.t 0), none⟩,
 ⟨(some 12), .bin .lss (.k (.int .i32 57343)) (.t 11), none⟩,
 ⟨(some 13), .mov (.t 12), none⟩,
 ⟨(some 14), .mov (.t 0), some (13, true)⟩,
 ⟨(some 15), .bin .leq (.t 14) (.k (.int .i32 1114111)), some (13, true)⟩,
 ⟨(some 16), .pick (.t 13) (.t 15) (.k (.bool false)), none⟩,
 ⟨(some 10), .mov (.t 16), none⟩])
 (.cond (.t 10) (.seq (.reg [⟨(some 2), .mov (.k (.bool true)), none⟩])
 .ret)
 .skip)))))
 (.seq (.reg [⟨(some 2), .mov (.k (.bool false)), none⟩])
 .ret))),
 [], false⟩

def a85 : AFunc := ⟨5, [.tmp 2],
 (.seq (.reg [⟨(some 2), .mov (.k (.str [])), none⟩])
 (.seq (.reg [⟨(some 3), .mov (.t 0), none⟩,
 ⟨(some 4), .call (.k (.func (.func 88) [] [])) [(.t 3), (.k (.int .i64 10))], none⟩,
 ⟨(some 2), .mov (.t 4), none⟩])
 .ret)),
 [], false⟩

def a87_0 : ACode := (.seq (.seq (.reg [⟨(some 24), .mov (.t 8), none⟩,
 ⟨(some 25), .bin .gtr (.t 24) (.k (.int .i64 0)), none⟩])
 (.cond (.t 25) .skip
 (.exit 2)))
 (.seq (.block 3 (.seq (.seq (.reg [⟨(some 28), .mov (.t 8), none⟩,
 ⟨(some 29), .bin .and (.t 28) (.k (.int .i64 1)), none⟩,
 ⟨(some 30), .bin .neq (.t 29) (.k (.int .i64 0)), none⟩])
 (.cond (.t 30) (.reg [⟨(some 31), .mov (.t 6), none⟩,
 ⟨(some 32), .mov (.t 7), none⟩,
 ⟨(some 33), .bin .mul (.t 31) (.t 32), none⟩,
 ⟨(some 6), .mov (.t 33), none⟩])
 .skip))
 (.reg [⟨(some 34), .mov (.t 7), none⟩,
 ⟨(some 35), .mov (.t 7), none⟩,
 ⟨(some 36), .bin .mul (.t 34) (.t 35), none⟩,
 ⟨(some 7), .mov (.t 36), none⟩])))
 (.reg [⟨(some 26), .mov (.t 8), none⟩,
 ⟨(some 27), .bin .shr (.t 26) (.k (.int .u64 1)), none⟩,
 ⟨(some 8), .mov (.t 27), none⟩])))

def a87_1 : ACode := (.seq (.seq (.reg [⟨(some 9), .mov (.t 5), none⟩,
 ⟨(some 10), .mov (.t 0), none⟩,
 ⟨(some 11), .lenStr (.t 10), none⟩,
 ⟨(some 12), .bin .lss (.t 9) (.t 11), none⟩])
 (.cond (.t 12) .skip
 (.exit 0)))
 (.seq (.block 1 (.reg [⟨(some 15), .mov (.t 4), none⟩,
 ⟨(some 16), .bin .mul (.t 15) (.k (.int .u32 16777619)), none⟩,
 ⟨(some 17), .mov (.t 0), none⟩,
 ⟨(some 18), .mov (.t 5), none⟩,
 ⟨(some 19), .indexStr (.t 17) (.t 18), none⟩,
 ⟨(some 20), .convInt .u32 (.t 19), none⟩,
 ⟨(some 21), .bin .add (.t 16) (.t 20), none⟩,
 ⟨(some 4), .mov (.t 21), none⟩]))
 (.reg [⟨(some 13), .mov (.t 5), none⟩,
 ⟨(some 14), .bin .add (.t 13) (.k (.int .i64 1)), none⟩,
 ⟨(some 5), .mov (.t 14), none⟩])))

def a87 : AFunc := ⟨39, [.tmp 2, .tmp 3],
 (.seq (.reg [⟨(some 2), .mov (.k (.int .u32 0)), none⟩,
 ⟨(some 3), .mov (.k (.int .u32 0)), none⟩])
 (.seq (.reg [⟨(some 4), .mov (.k (.int .u32 0)), none⟩])
 (.seq (.seq (.reg [⟨(some 5), .mov (.k (.int .i64 0)), none⟩])
 (.block 0 (.loop a87_1)))
 (.seq (.reg [⟨(some 6), .mov (.k (.int .u32 1)), none⟩,
 ⟨(some 7), .mov (.k (.int .u32 16777619)), none⟩])
 (.seq (.seq (.reg [⟨(some 22), .mov (.t 0), none⟩,
 ⟨(some 23), .lenStr (.t 22), none⟩,
 ⟨(some 8), .mov (.t 23), none⟩])
 (.block 2 (.loop a87_0)))
 (.seq (.reg [⟨(some 37), .mov (.t 4), none⟩,
 ⟨(some 38), .mov (.t 6), none⟩,
 ⟨(some 2), .mov (.t 37), none⟩,
 ⟨(some 3), .mov (.t 38), none⟩])
 .ret)))))),
 [], false⟩

def a88 : AFunc := ⟨54, [.tmp 4],
 (.seq (.reg [⟨(some 4), .mov (.k (.str [])), none⟩])
 (.seq (.seq (.reg [⟨(some 10), .mov (.t 1), none⟩,
 ⟨(some 11), .bin .eql (.t 10) (.k (.int .i64 10)), none⟩])
 (.cond (.t 11) (.seq (.seq (.reg [⟨(some 12), .mov (.t 0), none⟩,
 ⟨(some 13), .bin .leq (.k (.int .i64 0)) (.t 12), none⟩,
 ⟨(some 14), .mov (.t 13), none⟩,
 ⟨(some 15), .mov (.t 0), some (14, true)⟩,
 ⟨(some 16), .bin .lss (.t 15) (.k (.int .i64 100)), some (14, true)⟩,
 ⟨(some 17), .pick (.t 14) (.t 16) (.k (.bool false)), none⟩])
 (.cond (.t 17) (.seq (.reg [⟨(some 18), .mov (.t 0), none⟩,
 ⟨(some 19), .call (.k (.func (.func 31) [] [])) [(.t 18)], none⟩,
 ⟨(some 4), .mov (.t 19), none⟩])
 .ret)
 .skip))
 (.seq (.reg [⟨(some 5), .new (.agg [(.int .u8 0), (.int .u8 0), (.int .u8 0), (.int .u8 0), (.int .u8 0), (.int .u8 0), (.int .u8 0), (.int .u8 0), (.int .u8 0), (.int .u8 0), (.int .u8 0), (.int .u8 0), (.int .u8 0), (.int .u8 0), (.int .u8 0), (.int .u8 0), (.int .u8 0), (.int .u8 0), (.int .u8 0), (.int .u8 0), (.int .u8 0), (.int .u8 0), (.int .u8 0), (.int .u8 0)]) true none, none⟩])
 (.seq (.reg [⟨(some 20), .mov (.t 0), none⟩,
 ⟨(some 21), .convInt .u64 (.t 20), none⟩,
 ⟨(some 6), .mov (.t 21), none⟩])
 (.seq (.seq (.reg [⟨(some 22), .mov (.t 0), none⟩,
 ⟨(some 23), .bin .lss (.t 22) (.k (.int .i64 0)), none⟩])
 (.cond (.t 23) (.reg [⟨(some 24), .mov (.t 6), none⟩,
 ⟨(some 25), .un .neg (.t 24), none⟩,
 ⟨(some 6), .mov (.t 25), none⟩])
 .skip))
 (.seq (.reg [⟨(some 26), .mov (.t 6), none⟩,
 ⟨(some 27), .call (.k (.func (.func 32) [] [])) [(.t 26)], none⟩,
 ⟨(some 7), .mov (.t 27), none⟩])
 (.seq (.reg [⟨(some 28), .mov (.t 7), none⟩,
 ⟨(some 29), .bin .add (.k (.int .i64 1)) (.t 28), none⟩,
 ⟨(some 30), .sliceArr 24 1 (.t 5) (some (.k (.int .i64 1))) (some (.t 29)), none⟩,
 ⟨(some 31), .mov (.t 6), none⟩,
 ⟨(some 32), .call (.k (.func (.func 33) [] [])) [(.t 30), (.t 31)], none⟩])
 (.seq (.seq (.reg [⟨(some 33), .mov (.t 0), none⟩,
 ⟨(some 34), .bin .lss (.t 33) (.k (.int .i64 0)), none⟩])
 (.cond (.t 34) (.seq (.reg [⟨(some 35), .indexAddr 1 false (some 24) (.t 5) (.k (.int .i64 0)), none⟩,
 ⟨none, .store 1 (.t 35) (.k (.int .u8 45)), none⟩])
 (.seq (.reg [⟨(some 36), .mov (.t 7), none⟩,
 ⟨(some 37), .bin .add (.k (.int .i64 1)) (.t 36), none⟩,
 ⟨(some 38), .sliceArr 24 1 (.t 5) none (some (.t 37)), none⟩,
 ⟨(some 39), .convStr (.t 38), none⟩,
 ⟨(some 4), .mov (.t 39), none⟩])
 .ret))
 .skip))
 (.seq (.reg [⟨(some 40), .mov (.t 7), none⟩,
 ⟨(some 41), .bin .add (.k (.int .i64 1)) (.t 40), none⟩,
 ⟨(some 42), .sliceArr 24 1 (.t 5) (some (.k (.int .i64 1))) (some (.t 41)), none⟩,
 ⟨(some 43), .convStr (.t 42), none⟩,
 ⟨(some 4), .mov (.t 43), none⟩])
 .ret))))))))
 .skip))
 (.seq (.reg [⟨(some 45), .mov (.t 0), none⟩,
 ⟨(some 46), .convInt .u64 (.t 45), none⟩,
 ⟨(some 47), .mov (.t 1), none⟩,
 ⟨(some 48), .mov (.t 0), none⟩,
 ⟨(some 49), .bin .lss (.t 48) (.k (.int .i64 0)), none⟩,
 ⟨(some 50), .call (.k (.func (.func 34) [] [])) [(.k (.lst 1 [] .tight)), (.t 46), (.t 47), (.t 49), (.k (.bool false))], none⟩,
 ⟨(some 44), .mov (.t 50), none⟩,
 ⟨(some 51), .extract (.t 44) 0, none⟩,
 ⟨(some 52), .extract (.t 44) 1, none⟩,
 ⟨(some 8), .mov (.t 51), none⟩,
 ⟨(some 9), .mov (.t 52), none⟩])
 (.seq (.reg [⟨(some 53), .mov (.t 9), none⟩,
 ⟨(some 4), .mov (.t 53), none⟩])
 .ret)))),
 [], false⟩


def tab : List (Nat × AFunc) := [(2, a2), (3, a3), (4, a4), (5, a5), (6, a6), (7, a7), (8, a8), (9, a9), (10, a10), (11, a11), (12, a12), (13, a13), (14, a14), (15, a15), (16, a16), (18, a18), (19, a19), (20, a20), (21, a21), (22, a22), (23, a23), (26, a26), (27, a27), (28, a28), (29, a29), (30, a30), (31, a31), (33, a33), (34, a34), (35, a35), (36, a36), (37, a37), (38, a38), (40, a40), (42, a42), (44, a44), (45, a45), (46, a46), (47, a47), (48, a48), (49, a49), (50, a50), (51, a51), (52, a52), (53, a53), (54, a54), (55, a55), (58, a58), (59, a59), (62, a62), (63, a63), (65, a65), (66, a66), (67, a67), (70, a70), (71, a71), (76, a76), (77, a77), (78, a78), (80, a80), (81, a81), (83, a83), (84, a84), (85, a85), (87, a87), (88, a88)]
def gl : List (Nat × AV) := []
def prims : List (Nat × (List AV → St → Option (AOut × St))) := [(25, pureP joinA), (17, pureP fmtUintA), (24, pureP trimRightA), (64, pureP indexOneA)]
def A : AProg := ⟨fun f => (tab.find? fun e => e.1 == f).map (·.2), fun f => (prims.find? fun e => e.1 == f).map (·.2)⟩
set_option maxRecDepth 100000 in
theorem tabFits : (tab.all fun e => funcFits Tryd.prog gl e.1 e.2) = true := by kernel_rfl
theorem fits : ∀ f F, A.fn f = some F → funcFits Tryd.prog gl f F = true := by
  intro f F h
  simp only [A, Option.map_eq_some_iff] at h
  obtain ⟨e, he, rfl⟩ := h
  have h1 := List.mem_of_find?_eq_some he
  have h2 := List.find?_some he
  have := List.all_eq_true.1 tabFits e h1
  rw [beq_iff_eq] at h2
  rwa [h2] at this
end Go.Proofs.YtbmakcjladlaaaaDoor

namespace Go.Proofs.YtbmakcjladlaaaaDoor
open Go Ai
set_option maxRecDepth 1000000 in
theorem alive_run : (match runA A 400 (.seqc 8 []) [] with | some ⟨.ret, fr, st⟩ => AV.beqs fr.env [.bool true] && st.isEmpty && fr.defs.isEmpty | _ => false) = true := by kernel_rfl
end Go.Proofs.YtbmakcjladlaaaaDoor

