/- Chapter 25's types: what is read of an api.Trace is 'trAv'; its size. No condition. -/
import Derived.Test.YtfkmdajlpnkebaaDoorSy25
import Derived.Test.YtfkmdajlpnkebaaDoorAi34
namespace Go.Proofs.YtfkmdajlpnkebaaDoor
open Go Ai

theorem cells4 : Tryd.prog.cellsOf 4 = 1 := by kernel_rfl
theorem cells2 : Tryd.prog.cellsOf 2 = 1 := by kernel_rfl
theorem cells34 : Tryd.prog.cellsOf 34 = 1 := by kernel_rfl
theorem cells33 : Tryd.prog.cellsOf 33 = 4 := by kernel_rfl
theorem cells9 : Tryd.prog.cellsOf 9 = 1 := by kernel_rfl

set_option maxRecDepth 100000 in
theorem of_mark {n : Nat} {a : AV} (h : OfType Tryd.prog (n + 4) 33 a) : ∃ m : Mk, a = m.av ∧ (∀ x ∈ m.outs, (Lit.int .i64 x).wf = true) ∧ (Lit.int .i64 m.time).wf = true ∧ (Lit.int .i64 m.flags).wf = true := by
  obtain ⟨xs, rfl, hx⟩ := ofType_struct Tryd.underlying33 h
  simp only [List.map_cons, List.map_nil, ArgsOf] at hx
  obtain ⟨x1, _, rfl, h1, x2, _, rfl, h2, x3, _, rfl, h3, x4, _, rfl, h4, rfl⟩ := hx
  obtain ⟨ti, rfl, w1⟩ := ofType_int Tryd.underlying2 h1
  obtain ⟨outs, oap, rfl, w2⟩ := ofType_slice (f := AV.int .i64) (Q := fun x => (Lit.int .i64 x).wf = true) Tryd.underlying30 cells2 (fun x hx => ofType_int Tryd.underlying2 hx) h2
  obtain ⟨rs, rap, rfl, _⟩ := ofType_slice (f := rsAv) (Q := fun _ => True) Tryd.underlying31 cells34 (fun x hx => by
    obtain ⟨l, b, rfl, _⟩ := ofType_slice (f := AV.bool) (Q := fun _ => True) Tryd.underlying34 cells4 (fun x hx => by obtain ⟨b, rfl⟩ := ofType_bool Tryd.underlying4 hx; exact ⟨b, rfl, trivial⟩) hx
    exact ⟨(l, b), rfl, trivial⟩) h3
  obtain ⟨fl, rfl, w4⟩ := ofType_int Tryd.underlying3 h4
  exact ⟨⟨ti, outs, oap, rs, rap, fl⟩, rfl, w2, w1, w4⟩

set_option maxRecDepth 100000 in
theorem of_trace {n : Nat} {a : AV} (h : OfType Tryd.prog (n + 6) 25 a) : ∃ ms b en, a = trAv ms (apOf b) en ∧ (Lit.int .i64 en).wf = true ∧ ∀ m ∈ ms, (∀ x ∈ m.outs, (Lit.int .i64 x).wf = true) ∧ (Lit.int .i64 m.time).wf = true ∧ (Lit.int .i64 m.flags).wf = true := by
  obtain ⟨xs, rfl, hx⟩ := ofType_struct Tryd.underlying25 h
  simp only [List.map_cons, List.map_nil, ArgsOf] at hx
  obtain ⟨x1, _, rfl, h1, x2, _, rfl, h2, rfl⟩ := hx
  obtain ⟨ms, b, rfl, hm⟩ := ofType_slice (f := Mk.av) Tryd.underlying22 cells33 (fun x hx => of_mark hx) h1
  obtain ⟨en, rfl, we⟩ := ofType_int Tryd.underlying23 h2
  exact ⟨ms, b, en, rfl, we, hm⟩

theorem bulks_map {α} {f : α → AV} (l : List α) (g : α → Nat) (h : ∀ x ∈ l, g x ≤ (f x).bulk) : (l.map g).sum ≤ AV.bulks (l.map f) := by
  induction l with
  | nil => simp [AV.bulks]
  | cons x l ih =>
    simp only [List.map_cons, List.sum_cons, AV.bulks]
    have := h x (by simp)
    have := ih fun y hy => h y (by simp [hy])
    omega
theorem len_bulks {α} {f : α → AV} (l : List α) (h : ∀ x ∈ l, 1 ≤ (f x).bulk) : l.length ≤ AV.bulks (l.map f) := by
  have := bulks_map (f := f) l (fun _ => 1) h
  have e : (l.map fun _ => 1).sum = l.length := by clear h this; induction l with | nil => rfl | cons x l ih => simp only [List.map_cons, List.sum_cons, List.length_cons, ih]; omega
  omega
theorem rs_bulk (x : List Bool × Bool) : x.1.length + 1 ≤ (rsAv x).bulk := by
  have := len_bulks (f := AV.bool) x.1 fun _ _ => Nat.le_refl _
  simp only [rsAv, AV.bulk]; omega
theorem mk_bulk (m : Mk) : m.outs.length + m.raised.length + rl m.raised + 1 ≤ m.av.bulk := by
  have h1 := len_bulks (f := AV.int .i64) m.outs fun _ _ => Nat.le_refl _
  have h2 := bulks_map (f := rsAv) m.raised (fun x => x.1.length + 1) fun x _ => rs_bulk x
  have h3 : (m.raised.map fun x => x.1.length + 1).sum = rl m.raised + m.raised.length := by
    unfold rl
    induction m.raised with
    | nil => rfl
    | cons x l ih => simp only [List.map_cons, List.sum_cons, List.length_cons, ih]; omega
  simp only [Mk.av, AV.bulk, AV.bulks]; omega
theorem tr_bulk {ms : List Mk} {ap : Ap} {en : Int} : ms.length + sizes ms ≤ (trAv ms ap en).bulk := by
  have h2 := bulks_map (f := Mk.av) ms (fun m => m.outs.length + m.raised.length + rl m.raised + 1) fun x _ => mk_bulk x
  have h3 : (ms.map fun m => m.outs.length + m.raised.length + rl m.raised + 1).sum = sizes ms + ms.length := by
    clear h2
    induction ms with
    | nil => rfl
    | cons x l ih => simp only [List.map_cons, List.sum_cons, List.length_cons, sizes, ih]; omega
  simp only [trAv, AV.bulk, AV.bulks]; omega
end Go.Proofs.YtfkmdajlpnkebaaDoor
