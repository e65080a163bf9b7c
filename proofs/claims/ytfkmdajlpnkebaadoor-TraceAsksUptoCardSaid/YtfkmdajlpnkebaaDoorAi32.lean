/- SYMBOLIC RUNS: a frame's slots, and straight code. No condition. -/
import Derived.Test.YtfkmdajlpnkebaaDoorAi31
namespace Go.Proofs.YtfkmdajlpnkebaaDoor.Ai
open Go

theorem ev_set_self {e : Env} {i : Nat} {v : AV} (h : i < e.length) : AX.ev (e.set i v) (.t i) = v := by
  simp [AX.ev, List.getD_eq_getElem?_getD, List.getElem?_set_self h]
theorem ev_set_ne {e : Env} {i j : Nat} {v : AV} (h : i ≠ j) : AX.ev (e.set i v) (.t j) = AX.ev e (.t j) := by
  simp [AX.ev, List.getD_eq_getElem?_getD, List.getElem?_set_ne h]
theorem ev_set_neb {e : Env} {i j : Nat} {v : AV} (h : (i == j) = false) : AX.ev (e.set i v) (.t j) = AX.ev e (.t j) := ev_set_ne (by simpa using h)
theorem ev_k {e : Env} {v : AV} : AX.ev e (.k v) = v := rfl
theorem set_len {e : Env} {i : Nat} {v : AV} : (e.set i v).length = e.length := List.length_set

theorem wrap_i64 {n : Int} (h0 : -9223372036854775808 ≤ n) (h1 : n ≤ 9223372036854775807) : IntKind.i64.wrap n = n := by
  simp [IntKind.wrap, IntKind.signed, IntKind.bits]
  split <;> omega
end Go.Proofs.YtfkmdajlpnkebaaDoor.Ai
