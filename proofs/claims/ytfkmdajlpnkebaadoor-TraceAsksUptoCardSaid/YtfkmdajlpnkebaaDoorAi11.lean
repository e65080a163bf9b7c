/- Operations: what each does to a world is what the abstract one tells (sixth part). No condition. -/
import Derived.Test.YtfkmdajlpnkebaaDoorAi10
namespace Go.Proofs.YtfkmdajlpnkebaaDoor.Ai
open Go

theorem group_length (m : Nat) (agg : Bool) : ∀ (n : Nat) (cs : List AV), (group m agg n cs).length = n
  | 0, _ => rfl
  | n + 1, cs => by simp [group, group_length m agg n]

theorem range_flat (z : Array Value) (m : Nat) (hz : z.size = m) (hm : 1 ≤ m) : ∀ n, (Array.range (n * m)).map (fun i => z[i % z.size]!) = ((List.replicate n z.toList).flatten).toArray := by
  intro n
  apply Array.toList_inj.1
  simp only [Array.toList_map, Array.toList_range]
  induction n with
  | zero => simp
  | succ n ih =>
    rw [Nat.add_mul, Nat.one_mul, List.range_add, List.map_append, ih, List.replicate_succ', List.flatten_append]
    congr 1
    simp only [List.map_map, List.flatten_cons, List.flatten_nil, List.append_nil]
    apply List.ext_getElem
    · simp [hz]
    · intro i h1 h2
      have hi : i < m := by simpa using h1
      have hlt : i < z.size := by omega
      simp [hz, Nat.mod_eq_of_lt hi, Nat.add_mod]
      rw [getElem!_pos z i hlt]

theorem r_append_zero {P : Program} {w : World} {t t2 ty el : TypeId} {d2 : TypeDesc} (hd : P.underlying t = some (.slice el)) {m : Nat} (hsize : sizeT P el = some m) (hd2 : P.underlying t2 = some d2)
    (hint : ∀ k, d2 ≠ .int k) {base : Option Addr} {n cap k : Nat} {u : Value} (hlen : (Builtin.lenOf u).run P w = .ok k w) :
    (Builtin.append_ #[t, t2] ty #[.slice base n cap, u]).run P w =
      if n + k ≤ cap then ((Builtin.firstCells m k u).run P w).andThen fun new w1 => (match base with | some a => (storeCells (a.add (n * m)) new.toList).run P w1 | none => .ok () w1).andThen fun _ w2 => .ok (.slice base (n + k) cap) w2
      else (do
    if ((n + k : Nat) : Int) > IntKind.i64.max ∧ (← typeInfo el).bytes = 0 then runtimePanic (.error "growslice: len out of range")
    if Builtin.nextslicecap (n + k) cap * (← typeInfo el).bytes > 2 ^ 48 then (do
      if !(← Builtin.mayShare m n k base u) then mark .noRoom
      unsupported (.resourceLimit "append: a slice or a string whose bytes no memory bears"))
    let newCap ← choose (.appendCap (n + k) cap el)
    askRoom (newCap * (← typeInfo el).bytes)
    let old ← Builtin.firstCells m n (.slice base n cap)
    let new ← Builtin.firstCells m k u
    let rest := Builtin.zeroCells (← zeroValue el).cells (newCap - (n + k))
    pure (.slice (some (← newRow el (old ++ new ++ rest))) (n + k) newCap) : Sem Value).run P w := by
  unfold Builtin.append_
  simp only [List.getElem?_toArray, List.getElem?_cons_zero, List.getElem?_cons_succ]
  rw [Sem.run_bind, r_under hd]
  simp only [Result.andThen_ok]
  rw [Sem.run_bind, r_size hsize]
  simp only [Result.andThen_ok]
  rw [Sem.run_bind, r_under hd2]
  simp only [Result.andThen_ok]
  rw [Sem.run_bind]
  rw [show (Sem.run P (pure false : Sem Bool) w) = Result.ok false w from rfl]
  simp only [Result.andThen_ok, Bool.false_eq_true, if_false, Bool.not_false, if_true, false_or]
  rw [Sem.run_bind, hlen]
  simp only [Result.andThen_ok]
  by_cases hle : n + k ≤ cap
  · simp only [hle, if_true]
    rw [Sem.run_bind]
    congr 1
    funext new w1
    cases base with
    | none => simp
    | some a => simp
  · simp only [hle, if_false]

theorem set_same {α : Type} {l : List α} {i : Nat} {x : α} (h : l[i]? = some x) : l.set i x = l := by
  obtain ⟨hl, hg⟩ := List.getElem?_eq_some_iff.1 h
  rw [← hg]; exact List.set_getElem_self hl

theorem elemFits_iff {P : Program} {t : TypeId} {m : Nat} (h : elemFits P t m = true) : ∃ el, P.underlying t = some (.slice el) ∧ sizeT P el = some m ∧ 1 ≤ m ∧ isAggT P el = some (m != 1) := by
  unfold elemFits at h
  split at h
  · rename_i el hd
    simp only [Bool.and_eq_true, decide_eq_true_eq] at h
    obtain ⟨h1, h2, _⟩ := varFits_iff h.1
    exact ⟨el, hd, h1, h.2, h2⟩
  · cases h

section
variable {P : Program} {gl : List (Nat × AV)} {K : Sites} {base : World} {J : Inj} {st st' : St} {w : World} {a : Act} {e : Env} {o : Oper} {v : AV}
variable (hS : Sim K base J st w) (hE : Reps J e a.tmps.toList) (hG : GlOk gl J)
include hS hE hG

theorem did_append {m bytes : Nat} {ty : Option TypeId} {y z : AX} (hf : opFits P gl o.op (.append m bytes ty y z) = true) (h : opA (.append m bytes ty y z) e st = some (.val v st')) : Did P K base J (execOp a.eval o) w v st' := by
  simp only [opFits] at hf
  split at hf
  · rename_i x u t t2 ho
    simp only [Bool.and_eq_true, beq_iff_eq] at hf
    obtain ⟨⟨⟨⟨⟨⟨htyf, hel⟩, hzo⟩, hby⟩, hint⟩, hx⟩, hu⟩ := hf
    obtain ⟨el, hd, hsize, hm, _⟩ := elemFits_iff hel
    have htyel : ∀ T, ty = some T → el = T := fun T hT => by
      rw [hT, hd] at htyf; exact (beq_iff_eq.1 htyf).symm
    obtain ⟨d2, hd2, hint⟩ := isK_some hint
    obtain ⟨inf, hinf, hinfs⟩ : ∃ inf, P.info? el = some inf ∧ inf.size = m := by
      unfold sizeT at hsize
      cases hi : P.info? el with
      | none => simp [hi] at hsize
      | some i => simp [hi] at hsize; exact ⟨i, rfl, hsize⟩
    have hbytes : inf.bytes = bytes := by simpa [elemBytes, hd, hinf] using hby
    obtain ⟨zv, hzv, hzsz⟩ : ∃ zv, inf.zero = some zv ∧ zv.cells.size = inf.size := by
      unfold zeroOk at hzo
      rw [hd] at hzo
      simp only [hinf] at hzo
      split at hzo
      · rename_i z hz; exact ⟨z, hz, by simpa using hzo⟩
      · cases hzo
    have h1 := xFits_rep hE hG hx
    have h2 := xFits_rep hE hG hu
    simp only [opA] at h
    cases hys : elemsOf st m (z.ev e) with
    | none => simp [hys] at h
    | some ys =>
      obtain ⟨xs, hck, hrun⟩ := r_elems (P := P) hm hS h2 hys
      have hxl := hck.length
      simp only [hys, Option.bind_some] at h
      replace h1 := h1.asLst (m := m)
      cases hy : (y.ev e).asLst m <;> simp only [hy] at h <;> try (cases h; done)
      rename_i m' es ap
      rw [hy] at h1
      split at h
      · rename_i hh
        obtain ⟨hmm, hgr, hb256⟩ := hh
        simp only [Rep] at h1
        obtain ⟨htok, hval⟩ := h1
        -- the old cells
        have hold : ∃ base' cap, a.eval x = .slice base' es.length cap ∧ es.length ≤ cap ∧ (ap = .tight → cap = es.length) ∧ ∃ oxs, Chunks J m es oxs ∧
            (∀ w', w'.heap = w.heap → (Builtin.firstCells m es.length (.slice base' es.length cap)).run P w' = .ok oxs.toArray w') := by
          rcases hval with ⟨e1, e2⟩ | ⟨ad, cap, e1, hsp, hcap, ht, helm⟩
          · subst e2
            exact ⟨none, 0, e1, Nat.le_refl _, fun _ => rfl, [], rfl, fun w' _ => by simp [Builtin.firstCells]⟩
          · refine ⟨some ad, cap, e1, hcap, ht, ?_⟩
            rcases hmm with rfl | rfl
            · obtain ⟨oxs, hc, hrow⟩ := helm.chunks
              have hl := hc.length
              refine ⟨oxs, hc, fun w' hw => ?_⟩
              simp only [Builtin.firstCells]
              rcases Nat.eq_zero_or_pos cap with h0 | h0
              · have h0 : es.length = 0 := by omega
                have h1 : oxs = [] := List.eq_nil_of_length_eq_zero (by rw [hl, h0]; simp)
                rw [h0, h1]
                simp [loadCells, loadCellsFrom]
              have hsp := hsp h0
              have had : ad = ⟨ad.block, ad.off, none⟩ := by cases ad; simp at hsp ⊢; exact hsp
              rw [had]
              have := run_cellsOf (P := P) (w := w') (b := ad.block) (off := ad.off) (xs := oxs) (fun j v e => by rw [cell_congr (w := w) (by rw [hw])]; exact hS.imOk _ _ _ (hrow j v e)) (es.length * m') (by rw [hl]; exact Nat.le_refl _)
              rw [this, List.take_of_length_le (by omega)]
            · exact ⟨[], rfl, fun w' _ => by simp [Builtin.firstCells, loadCells, loadCellsFrom]⟩
        obtain ⟨base', cap, e1, hcap, htight, oxs, hock, holdrun⟩ := hold
        have hol := hock.length
        -- a new row
        have new : ∀ id ob st0 ty1, Sim K base J st0 w → st0[id]? = some ob → (∀ T, ty1 = some T → el = T) → ((ob = .dead ∧ ∀ k v, J.τ id k ≠ some v) ∨ (∃ m' n0 ty0, ob = .tok m' n0 ty0 ∧ n0 < es.length + ys.length)) → cap < es.length + ys.length →
            v = .lst m (es ++ ys) (.tok id) → st' = st0.set id (.tok m (es.length + ys.length) ty1) → Did P K base J (execOp a.eval o) w v st' := by
          intro id ob st0 ty1 hS0 hst0 hty1 hob hlt hv hst'
          subst hv hst'
          have hres := cap_bound hlt hgr hb256
          let q := Question.appendCap (es.length + ys.length) cap el
          have hq : q.forced = false := rfl
          let w1 : World := { w with drawn := w.drawn + 1 }
          let newCap := q.cut (w.tape w.drawn q)
          have hnew : es.length + ys.length ≤ newCap := by show _ ≤ _ + _; omega
          let rest := (Builtin.zeroCells zv.cells (newCap - (es.length + ys.length))).toList
          have hrest : rest.length = (newCap - (es.length + ys.length)) * m := by simp [rest, Builtin.zeroCells, hzsz, hinfs]
          obtain ⟨hle, hsim, hrep⟩ := r_appendNew (need := es.length + ys.length) (cap' := newCap) (t := el) (w1 := w1) (ty := ty1) hS0 hst0 hty1 hob rfl rfl rfl (hock.append hck) (by simp) (by omega) hnew hrest
          refine Did.of hle hsim hrep ?_
          have hnle : ¬ (es.length + ys.length ≤ cap) := by omega
          have hmax : ¬ (IntKind.i64.max < ((es.length : Int) + (ys.length : Int))) := by
            unfold great at hgr
            simp [IntKind.max, IntKind.signed, IntKind.bits]; omega
          have hlen := (hrun w rfl).1
          have hfirst := (hrun w1 rfl).2 ys.length (Nat.le_refl _)
          rw [List.take_of_length_le (by omega)] at hfirst
          have hzr : (zeroValue el).run P w1 = .ok zv w1 := r_zero (by simp [hinf, hzv])
          refine r_builtin ho (fun cs => ?_)
          have hi2 : ∀ k, d2 ≠ .int k := by intro k hk; subst hk; simp at hint
          have hres' : ¬ (2 ^ 48 < Builtin.nextslicecap (es.length + ys.length) cap * bytes) := hres
          simp only [builtin, Sem.run_bind]
          simp only [List.map_toArray, List.map_cons, List.map_nil]
          rw [e1, r_append_zero hd hsize hd2 hi2 hlen, if_neg hnle]
          simp only [Sem.run_bind, r_info hinf, hbytes, hres', hmax, Result.andThen_ok, Sem.run_pure, false_and, if_false, run_choose, run_askRoom, gt_iff_lt]
          rw [if_neg (fun h => hmax (by simpa using h.1))]
          simp only [Sem.run_bind, r_info hinf, hbytes, hres', Result.andThen_ok, Sem.run_pure, if_false, run_choose, run_askRoom]
          rw [if_neg (by simp [Question.forced])]
          simp only [Result.andThen_ok]
          rw [holdrun w1 rfl]
          simp only [Result.andThen_ok]
          rw [hfirst]
          simp only [Result.andThen_ok]
          rw [hzr]
          simp [newRow, rest, newCap, q, w1]
          congr 2
          apply Array.toList_inj.1
          simp
        -- within what there is
        have within : ∀ w', es.length + ys.length ≤ cap → (∀ ad, base' = some ad → (storeCells (ad.add (es.length * m)) xs).run P w = .ok () w') → (base' = none → w' = w) →
            (execOp a.eval o).run P w = .ok (.value (.slice base' (es.length + ys.length) cap)) w' := by
          intro w' hle hst hno
          have hlen := (hrun w rfl).1
          have hfirst := (hrun w rfl).2 ys.length (Nat.le_refl _)
          rw [List.take_of_length_le (by omega)] at hfirst
          refine r_builtin ho (fun cs => ?_)
          have hi2 : ∀ k, d2 ≠ .int k := by intro k hk; subst hk; simp at hint
          simp only [builtin, Sem.run_bind]
          simp only [List.map_toArray, List.map_cons, List.map_nil]
          rw [e1, r_append_zero hd hsize hd2 hi2 hlen, if_pos hle, hfirst]
          cases base' with
          | none => rw [hno rfl]; simp
          | some ad => simp [hst ad rfl]
        have hsame : ∀ ap', (∀ id, ap' = .tok id → J.τ id es.length = some (a.eval x)) → (ap' = .tight → ap = .tight) → ys = [] → v = .lst m (es ++ ys) ap' → st' = st → Did P K base J (execOp a.eval o) w v st' := by
          intro ap' htk hti hy0 hv hst'
          subst hv hst' hy0
          have hx0 : xs = [] := by simpa [Chunks] using hck
          have hr := within w (by simpa using hcap) (fun ad _ => by rw [hx0]; simp [storeCells]) (fun _ => rfl)
          refine Did.same hS (x := a.eval x) ?_ (by rw [hr, e1]; simp)
          simp only [Rep, List.append_nil]
          refine ⟨htk, ?_⟩
          rcases hval with ⟨e2, e3⟩ | ⟨ad, cap', e2, hsp, hcap', ht, helm⟩
          · exact .inl ⟨e2, e3⟩
          · refine .inr ⟨ad, cap', e2, hsp, hcap', fun h => ht (hti h), ?_⟩
            rcases hmm with rfl | rfl
            · exact helm
            · simp [Elems]
        cases ap with
        | tight =>
          simp only [] at h
          split at h
          · rename_i hys0
            simp only [Option.some.injEq, Nx.val.injEq] at h
            obtain ⟨h3, h4⟩ := h
            exact hsame .tight (fun id e => (by cases e)) (fun _ => rfl) hys0 (by rw [← h3, hys0]; simp) h4.symm
          · rename_i hys0
            simp only [Option.some.injEq, Nx.val.injEq] at h
            obtain ⟨h3, h4⟩ := h
            have hpos : 0 < ys.length := List.length_pos_iff.2 hys0
            have := htight rfl
            exact new st.length .dead (st ++ [.dead]) ty hS.addDead (by simp) htyel (.inl ⟨rfl, fun k v e => by rw [hS.τnew] at e; cases e⟩) (by omega) h3.symm (by rw [← h4]; simp)
        | tok id =>
          simp only [] at h
          split at h
          · rename_i htk
            have hst : ∃ ty0, st[id]? = some (.tok m es.length ty0) ∧ tokTy st id = ty0 := by
              unfold tokIs at htk
              split at htk
              · rename_i m0 n0 ty0 hst
                simp only [Bool.and_eq_true, beq_iff_eq] at htk
                exact ⟨ty0, by rw [hst, htk.1, htk.2], by simp [tokTy, hst]⟩
              · cases htk
            obtain ⟨ty0, hst, htt⟩ := hst
            have hτ := htok id rfl
            split at h
            · rename_i hys0
              simp only [Option.some.injEq, Nx.val.injEq] at h
              obtain ⟨h3, h4⟩ := h
              exact hsame (.tok id) (fun id' e => by cases e; exact hτ) (fun e => (by cases e)) hys0 (by rw [← h3, hys0]; simp) h4.symm
            · rename_i hys0
              simp only [Option.some.injEq, Nx.val.injEq] at h
              obtain ⟨h3, h4⟩ := h
              have hpos : 0 < ys.length := List.length_pos_iff.2 hys0
              have hty2 : ∀ T, (if tokTy st id = ty then ty else none) = some T → el = T := fun T hT => by
                split at hT
                · exact htyel T hT
                · cases hT
              by_cases hlt : cap < es.length + ys.length
              · exact new id _ st _ hS hst hty2 (.inr ⟨m, es.length, ty0, rfl, by omega⟩) hlt h3.symm h4.symm
              · have hob := hS.obj id _ hst
                rcases hob with ⟨h0, s, hs⟩ | ⟨ad, cap', c, tt, q1, q2, q0, q3, q4, q5, q6, q7⟩
                · rw [← h0, hτ, e1] at hs
                  cases hs
                  omega
                · rw [hτ, e1] at q1
                  cases q1
                  rcases hval with ⟨e2, e3⟩ | ⟨ad', cap'', e2, hsp, hcap', ht, helm⟩
                  · rw [e1] at e2; cases e2
                  · rw [e1] at e2; cases e2
                    have helm' : Elems J m es ad.block ad.off := by
                      rcases hmm with rfl | rfl
                      · exact helm
                      · simp [Elems]
                    rw [e1] at hτ
                    have hty3 : ∀ T, (if tokTy st id = ty then ty else none) = some T → tt = T ∧ ad.off = 0 := fun T hT => by
                      split at hT
                      · rename_i heq
                        exact q7 T (by rw [← htt, heq]; exact hT)
                      · cases hT
                    obtain ⟨J', w', hle, hsim, hrep, hstore⟩ := r_appendIn (P := P) hS hst hty3 hτ q2 q0 q4 q5 q6 rfl helm' hck (by omega)
                    have hr := within w' (by omega) (fun ad' e => by cases e; exact hstore) (fun e => by cases e)
                    subst h3 h4
                    exact Did.of hle hsim hrep hr
          · cases h
        | no => simp at h
      · cases h
  · cases hf
end
end Go.Proofs.YtfkmdajlpnkebaaDoor.Ai
