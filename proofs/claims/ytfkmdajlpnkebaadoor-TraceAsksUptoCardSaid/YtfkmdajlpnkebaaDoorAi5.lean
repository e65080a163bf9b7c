/- What an operation does to a world, as the abstract one tells: its plain ones. No condition. -/
import Derived.Test.YtfkmdajlpnkebaaDoorAi4
namespace Go.Proofs.YtfkmdajlpnkebaaDoor.Ai
open Go

section
variable {J : Inj}

mutual
theorem constFits_rep : ∀ (a : AV) (v : Value), constFits a v = true → Rep J a v
  | .bool b, v, h => by cases v <;> simp [constFits] at h; simp [Rep, h]
  | .int k n, v, h => by cases v <;> simp [constFits] at h; simp [Rep, h]
  | .str l, v, h => by cases v <;> simp [constFits] at h; simp [Rep, h]
  | .lst m es ap, v, h => by
    cases es with
    | cons e es => cases v <;> simp [constFits] at h
    | nil =>
      cases ap with
      | no => cases v <;> simp [constFits] at h
      | tok id => cases v <;> simp [constFits] at h
      | tight =>
        cases v with
        | slice a len cap =>
          cases a with
          | some a => simp [constFits] at h
          | none =>
            cases len with
            | succ n => simp [constFits] at h
            | zero =>
              cases cap with
              | succ n => simp [constFits] at h
              | zero => simp [Rep]
        | _ => simp [constFits] at h
  | .nilFunc, v, h => by cases v <;> simp [constFits] at h; simp [Rep]
  | .nilIface, v, h => by cases v <;> simp [constFits] at h; simp [Rep]
  | .nilPtr, v, h => by
    cases v with
    | pointer a => cases a with
      | none => simp [Rep]
      | some a => simp [constFits] at h
    | _ => simp [constFits] at h
  | .nilMap, v, h => by
    cases v with
    | map a => cases a with
      | none => simp [Rep]
      | some a => simp [constFits] at h
    | _ => simp [constFits] at h
  | .nilSl, v, h => by
    cases v with
    | slice a len cap =>
      cases a with
      | some a => simp [constFits] at h
      | none =>
        cases len with
        | succ n => simp [constFits] at h
        | zero =>
          cases cap with
          | succ n => simp [constFits] at h
          | zero => simp [Rep]
    | _ => simp [constFits] at h
  | .agg cs, v, h => by
    cases v with
    | agg arr => simp only [constFits, Bool.and_eq_true] at h; simp only [Rep]; exact ⟨arr, rfl, constsFit_reps cs _ h.1, h.2⟩
    | _ => simp [constFits] at h
  | .tup vs, v, h => by
    cases v with
    | tuple arr => simp only [constFits] at h; simp only [Rep]; exact ⟨arr, rfl, constsFit_reps vs _ h⟩
    | _ => simp [constFits] at h
  | .func fn a b, v, h => by
    cases fn with
    | func f =>
      cases a with
      | cons x a => cases v <;> simp [constFits] at h
      | nil =>
        cases b with
        | cons x b => cases v <;> simp [constFits] at h
        | nil =>
          cases v with
          | func fn' a' b' =>
            cases fn' with
            | func g =>
              simp only [constFits, Bool.and_eq_true, beq_iff_eq, Array.isEmpty_iff] at h
              obtain ⟨⟨rfl, rfl⟩, rfl⟩ := h
              simp [Rep, Reps]
            | _ => simp [constFits] at h
          | _ => simp [constFits] at h
    | _ => cases v <;> simp [constFits] at h
  | .iface t x, v, h => by cases v <;> simp [constFits] at h
  | .sl r m off len cap, v, h => by cases v <;> simp [constFits] at h
  | .ptr r off, v, h => by cases v <;> simp [constFits] at h
  | .iptr x, v, h => by cases v <;> simp [constFits] at h
  | .map r, v, h => by cases v <;> simp [constFits] at h
theorem constsFit_reps : ∀ (vs : List AV) (xs : List Value), constsFit vs xs = true → Reps J vs xs
  | [], xs, h => by simp [constsFit] at h; simp [Reps, h]
  | v :: vs, [], h => by simp [constsFit] at h
  | v :: vs, x :: xs, h => by
    simp only [constsFit, Bool.and_eq_true] at h
    simp only [Reps]; exact ⟨x, xs, rfl, constFits_rep v x h.1, constsFit_reps vs xs h.2⟩
end

mutual
theorem beq_eq : ∀ (a b : AV), AV.beq a b = true → a = b
  | .bool a, y, h => by cases y <;> simp [AV.beq] at h; rw [h]
  | .int k a, y, h => by cases y <;> simp [AV.beq] at h; rw [h.1, h.2]
  | .str a, y, h => by cases y <;> simp [AV.beq] at h; rw [h]
  | .agg a, y, h => by
    cases y <;> simp [AV.beq] at h; rw [beqs_eq a _ h]
  | .tup a, y, h => by cases y <;> simp [AV.beq] at h; rw [beqs_eq a _ h]
  | .func f a b, y, h => by
    cases y <;> simp [AV.beq] at h; rw [h.1.1, beqs_eq a _ h.1.2, beqs_eq b _ h.2]
  | .nilFunc, y, h => by cases y <;> simp [AV.beq] at h; rfl
  | .iface t v, y, h => by cases y <;> simp [AV.beq] at h; rw [h.1, beq_eq v _ h.2]
  | .nilIface, y, h => by cases y <;> simp [AV.beq] at h; rfl
  | .lst m a p, y, h => by
    cases y <;> simp [AV.beq] at h; rw [h.1.1, beqs_eq a _ h.1.2, h.2]
  | .sl a b c d e, y, h => by cases y <;> simp [AV.beq] at h; rw [h.1.1.1.1, h.1.1.1.2, h.1.1.2, h.1.2, h.2]
  | .ptr a b, y, h => by cases y <;> simp [AV.beq] at h; rw [h.1, h.2]
  | .iptr a, y, h => by cases y <;> simp [AV.beq] at h; rw [beq_eq a _ h]
  | .nilPtr, y, h => by cases y <;> simp [AV.beq] at h; rfl
  | .map a, y, h => by cases y <;> simp [AV.beq] at h; rw [h]
  | .nilMap, y, h => by cases y <;> simp [AV.beq] at h; rfl
  | .nilSl, y, h => by cases y <;> simp [AV.beq] at h; rfl
theorem beqs_eq : ∀ (a b : List AV), AV.beqs a b = true → a = b
  | [], y, h => by cases y <;> simp [AV.beqs] at h; rfl
  | a :: x, y, h => by
    cases y <;> simp [AV.beqs] at h; rw [beq_eq a _ h.1, beqs_eq x _ h.2]
end

mutual
theorem beq_refl : ∀ (a : AV), AV.beq a a = true
  | .bool a => by simp [AV.beq]
  | .int k a => by simp [AV.beq]
  | .str a => by simp [AV.beq]
  | .agg a => by simp [AV.beq, beqs_refl a]
  | .tup a => by simp [AV.beq, beqs_refl a]
  | .func f a b => by simp [AV.beq, beqs_refl a, beqs_refl b]
  | .nilFunc => by simp [AV.beq]
  | .iface t v => by simp [AV.beq, beq_refl v]
  | .nilIface => by simp [AV.beq]
  | .lst m a p => by simp [AV.beq, beqs_refl a]
  | .sl a b c d e => by simp [AV.beq]
  | .ptr a b => by simp [AV.beq]
  | .iptr a => by simp [AV.beq, beq_refl a]
  | .nilPtr => by simp [AV.beq]
  | .map a => by simp [AV.beq]
  | .nilMap => by simp [AV.beq]
  | .nilSl => by simp [AV.beq]
theorem beqs_refl : ∀ (a : List AV), AV.beqs a a = true
  | [] => by simp [AV.beqs]
  | a :: x => by simp [AV.beqs, beq_refl a, beqs_refl x]
end

/-- The package's variables that code reads: what they hold, and stay. -/
def GlOk (gl : List (Nat × AV)) (J : Inj) : Prop := ∀ g v, (gl.find? fun e => e.1 == g) = some (g, v) → Rep J (.iptr v) (.pointer (some ⟨g, 0, none⟩))

theorem GlOk.mono {gl : List (Nat × AV)} {J J' : Inj} (h : GlOk gl J) (hJ : J.le J') : GlOk gl J' := fun g v e => Rep.mono hJ _ _ (h g v e)

theorem Rep.asLst {v : AV} {x : Value} (h : Rep J v x) {m : Nat} : Rep J (v.asLst m) x := by
  unfold AV.asLst
  split
  · simp only [Rep] at h ⊢
    exact ⟨fun id e => (by cases e), .inl ⟨h, by simp⟩⟩
  · exact h

theorem xFits_rep {gl : List (Nat × AV)} {e : Env} {a : Act} {o : Operand} {x : AX} (hE : Reps J e a.tmps.toList) (hG : GlOk gl J) (h : xFits gl o x = true) : Rep J (x.ev e) (a.eval o) := by
  cases o with
  | tmp i =>
    cases x with
    | t j => simp [xFits] at h; subst h; exact hE.getD i
    | k v => simp [xFits] at h
  | const v =>
    cases x with
    | t j => simp [xFits] at h
    | k a => simp only [xFits] at h; exact constFits_rep _ _ h
  | global g =>
    cases x with
    | t j => simp [xFits] at h
    | k v =>
      cases v <;> simp only [xFits, Bool.false_eq_true] at h
      rename_i v
      cases hf : gl.find? fun e => e.1 == g with
      | none => simp [hf] at h
      | some p =>
        obtain ⟨g', u⟩ := p
        have hp := List.find?_some hf
        simp at hp; subst hp
        simp [hf] at h
        have := beq_eq _ _ h
        subst this
        exact hG g' u hf
  | func f =>
    cases x with
    | t j => simp [xFits] at h
    | k v =>
      cases v with
      | func fn a b =>
        cases fn with
        | func g =>
          cases a with
          | cons _ _ => simp [xFits] at h
          | nil => cases b with
            | cons _ _ => simp [xFits] at h
            | nil => simp [xFits] at h; subst h; simp [AX.ev, Act.eval, Rep, Reps]
        | _ => simp [xFits] at h
      | _ => simp [xFits] at h

theorem xsFit_reps {gl : List (Nat × AV)} {e : Env} {a : Act} (hE : Reps J e a.tmps.toList) (hG : GlOk gl J) : ∀ {os : List Operand} {xs : List AX}, xsFit gl os xs = true → Reps J (xs.map (AX.ev e)) (os.map a.eval)
  | [], [], _ => by simp [Reps]
  | [], _ :: _, h => by simp [xsFit] at h
  | _ :: _, [], h => by simp [xsFit] at h
  | o :: os, x :: xs, h => by
    simp only [xsFit, Bool.and_eq_true] at h
    simp only [List.map_cons, Reps]; exact ⟨_, _, rfl, xFits_rep hE hG h.1, xsFit_reps hE hG h.2⟩
end

/-! ### Cells read and written -/

theorem add_none {a : Addr} (h : a.spot = none) (n : Nat) : a.add n = ⟨a.block, a.off + n, none⟩ := by
  unfold Addr.add
  split
  · rename_i e; subst e; cases a; simp at h ⊢; exact h
  · cases a; simp at h ⊢; 

theorem run_loadCellsFrom (P : Program) (w : World) (a : Addr) : ∀ (n i : Nat) (acc : Array Value) (xs : List Value), xs.length = n →
    (∀ (j : Nat) v, xs[j]? = some v → w.cell? (a.add (i + j)) = some v) → (loadCellsFrom a i n acc).run P w = .ok (acc ++ xs.toArray) w
  | 0, i, acc, xs, hl, _ => by
    have : xs = [] := List.eq_nil_of_length_eq_zero hl
    subst this; simp [loadCellsFrom]
  | n + 1, i, acc, [], hl, _ => by simp at hl
  | n + 1, i, acc, x :: xs, hl, h => by
    have h0 := h 0 x (by simp)
    simp only [loadCellsFrom, Sem.run_bind, run_load]
    rw [show a.add i = a.add (i + 0) from rfl, h0]
    simp only [Result.andThen_ok]
    rw [run_loadCellsFrom P w a n (i + 1) _ xs (by simpa using hl) (fun j v e => by rw [show i + 1 + j = i + (j + 1) by omega]; exact h (j + 1) v (by simpa using e))]
    congr 1
    apply Array.toList_inj.1; simp

theorem run_loadCells (P : Program) (w : World) (a : Addr) (xs : List Value) (h : ∀ (j : Nat) v, xs[j]? = some v → w.cell? (a.add j) = some v) :
    (loadCells a xs.length).run P w = .ok xs.toArray w := by
  unfold loadCells
  rw [run_loadCellsFrom P w a xs.length 0 #[] xs rfl (fun j v e => by rw [Nat.zero_add]; exact h j v e)]
  simp

/-- Values laid over cells. -/
def putV : Array Value → Nat → List Value → Array Value
  | c, _, [] => c
  | c, o, x :: xs => putV (c.setIfInBounds o x) (o + 1) xs

theorem putV_size : ∀ (xs : List Value) (c : Array Value) (o : Nat), (putV c o xs).size = c.size
  | [], _, _ => rfl
  | x :: xs, c, o => by simp [putV, putV_size xs]

theorem setCell_heap {w : World} {b o : Nat} {c : Array Value} {t : TypeId} {fr : Nat × Nat} (v : Value) (h : w.heap[b]? = some (.cells c t fr)) :
    (w.setCell ⟨b, o, none⟩ v).heap[b]? = some (.cells (c.setIfInBounds o v) t fr) := by
  simp [World.setCell, Array.getElem?_modify, h]

theorem setCell_other {w : World} {b o b' : Nat} (v : Value) (h : b' ≠ b) : (w.setCell ⟨b, o, none⟩ v).heap[b']? = w.heap[b']? := by
  simp [World.setCell, Array.getElem?_modify, Ne.symm h]

theorem run_storeCells (P : Program) (a : Addr) (ha : a.spot = none) (t : TypeId) (fr : Nat × Nat) : ∀ (xs : List Value) (w : World) (i : Nat) (c : Array Value),
    w.heap[a.block]? = some (.cells c t fr) → Clear fr c.size → a.off + i + xs.length ≤ c.size → (∀ x ∈ xs, x.oneCell' = true) →
    ∃ w', (storeCells a xs i).run P w = .ok () w' ∧ w'.os = w.os ∧ w'.output = w.output ∧ w'.heap.size = w.heap.size ∧ (∀ b', b' ≠ a.block → w'.heap[b']? = w.heap[b']?) ∧
      w'.heap[a.block]? = some (.cells (putV c (a.off + i) xs) t fr)
  | [], w, i, c, h, _, _, _ => ⟨w, by simp [storeCells], rfl, rfl, rfl, fun _ _ => rfl, h⟩
  | x :: xs, w, i, c, h, hc, hl, hx => by
    have hcell : w.cell? ⟨a.block, a.off + i, none⟩ = some (c[a.off + i]'(by simp at hl; omega)) := by rw [cell_of_heap h]; simp at hl ⊢
    have hfr : w.frozen? ⟨a.block, a.off + i, none⟩ = false := by
      have := hc (a.off + i) (by simp at hl; omega)
      simp only [World.frozen?, h]
      simp only [Bool.and_eq_false_iff, decide_eq_false_iff_not]
      omega
    have hh := setCell_heap (o := a.off + i) x h
    obtain ⟨w', h1, h2, h3, h4, h5, h6⟩ := run_storeCells P a ha t fr xs (w.setCell ⟨a.block, a.off + i, none⟩ x) (i + 1) (c.setIfInBounds (a.off + i) x) hh (by simpa using hc) (by simp at hl ⊢; omega) (fun y hy => hx y (by simp [hy]))
    refine ⟨w', ?_, h2, h3, by rw [h4]; simp [World.setCell], fun b' hb => by rw [h5 b' hb, setCell_other x hb], ?_⟩
    · simp only [storeCells, Sem.run_bind]
      rw [run_store _ _ _ _ _ (hx x (by simp)), add_none ha, hcell]
      simp only [hfr, Bool.false_eq_true, if_false, Result.andThen_ok]
      exact h1
    · rw [h6]; rfl

theorem putCells_reps {J : Inj} : ∀ (vs : List AV) (xs : List Value) (cs : List AV) (c : Array Value) (o n : Nat), Reps J vs xs → Reps J cs (c.toList.take n) →
    Reps J (putCells cs o vs) ((putV c o xs).toList.take n)
  | [], xs, cs, c, o, n, h, h' => by simp only [Reps] at h; subst h; exact h'
  | v :: vs, xs, cs, c, o, n, h, h' => by
    simp only [Reps] at h; obtain ⟨y, ys, rfl, h1, h2⟩ := h
    simp only [putCells, putV]
    refine putCells_reps vs ys _ _ _ n h2 ?_
    rw [Array.toList_setIfInBounds, List.take_set]
    exact h'.set o h1

theorem putCells_length : ∀ (vs : List AV) (cs : List AV) (o : Nat), (putCells cs o vs).length = cs.length
  | [], _, _ => rfl
  | v :: vs, cs, o => by simp [putCells, putCells_length vs]

theorem putCells_isCell : ∀ (vs : List AV) (cs : List AV) (o : Nat), cs.all AV.isCell = true → vs.all AV.isCell = true → (putCells cs o vs).all AV.isCell = true
  | [], _, _, h, _ => h
  | v :: vs, cs, o, h, h' => by
    simp only [List.all_cons, Bool.and_eq_true] at h'
    refine putCells_isCell vs _ _ ?_ h'.2
    rw [List.all_eq_true] at h ⊢
    intro x hx
    rcases List.mem_or_eq_of_mem_set hx with hx | hx
    · exact h x hx
    · rw [hx]; exact h'.1

theorem Reps.oneCells {J : Inj} : ∀ {vs : List AV} {xs : List Value}, Reps J vs xs → vs.all AV.isCell = true → ∀ x ∈ xs, x.oneCell' = true
  | [], xs, h, _, x, hx => by simp only [Reps] at h; subst h; simp at hx
  | v :: vs, xs, h, hc, x, hx => by
    simp only [Reps] at h; obtain ⟨y, ys, rfl, h1, h2⟩ := h
    simp only [List.all_cons, Bool.and_eq_true] at hc
    rcases List.mem_cons.1 hx with rfl | hx
    · exact (h1.oneCell hc.1).1
    · exact h2.oneCells hc.2 x hx

end Go.Proofs.YtfkmdajlpnkebaaDoor.Ai
