/- Operations: what each does to a world is what the abstract one tells (tenth part). No condition. -/
import Derived.Test.YtfkmdajlpnkebaaDoorAi14
namespace Go.Proofs.YtfkmdajlpnkebaaDoor.Ai
open Go

section
variable {P : Program} {gl : List (Nat × AV)} {K : Sites} {base : World} {J : Inj} {st st' : St} {w : World} {a : Act} {e : Env} {o : Oper} {v : AV}
variable (hS : Sim K base J st w) (hE : Reps J e a.tmps.toList) (hG : GlOk gl J)
include hS hE hG

theorem did_build {zero : List AV} {ps : List (Nat × Nat × AX)} (hf : opFits P gl o.op (.build zero ps) = true) (h : opA (.build zero ps) e st = some (.val v st')) : Did P K base J (execOp a.eval o) w v st' := by
  cases ho : o.op <;> simp only [ho, opFits, Bool.false_eq_true] at hf
  rename_i t parts
  simp only [Bool.and_eq_true] at hf
  obtain ⟨hz, hf⟩ := hf
  unfold zeroFits at hz
  split at hz
  · rename_i zv hzv
    simp only [Bool.and_eq_true] at hz
    have hzr := constFits_rep (J := J) _ _ hz.1
    simp only [Rep] at hzr
    obtain ⟨arr, rfl, hr, hc⟩ := hzr
    simp only [opA] at h
    cases hfl : fillA zero (ps.map fun (o, s, x) => (o, s, x.ev e)) with
    | none => simp [hfl] at h
    | some cs =>
      simp only [hfl, Option.map_some, Option.some.injEq, Nx.val.injEq] at h
      obtain ⟨rfl, rfl⟩ := h
      split at hf
      · rename_i fs hd
        simp only [Bool.and_eq_true] at hf
        obtain ⟨hp, hall⟩ := hf
        obtain ⟨cells', g1, g2, g3, _⟩ := r_fill hE hG hp hr hc hfl
        refine Did.same hS (x := .agg cells') (by simp only [Rep]; exact ⟨_, rfl, g2, g3⟩) ?_
        -- the places
        have hpl : ∀ (l : List Field), (∀ f ∈ l, (sizeT P f.type).isSome = true) → ((l.mapM fun f => do pure (f.offset, ← sizeOf f.type) : Sem (List (Nat × Nat)))).run P w = .ok (l.map fun f => (f.offset, (sizeT P f.type).getD 0)) w := by
          intro l
          induction l with
          | nil => intro _; simp
          | cons f l ih =>
            intro hl
            obtain ⟨s, hs⟩ := Option.isSome_iff_exists.1 (hl f (by simp))
            have := ih (fun f hf => hl f (by simp [hf]))
            simp only [List.mapM_cons, Sem.run_bind, r_size hs, Result.andThen_ok, Sem.run_pure, List.map_cons, hs, Option.getD_some]
            rw [this]; rfl
        have hpl' := hpl fs.toList (fun f hf => by
          rw [Array.all_eq_true'] at hall; exact hall f (Array.mem_toList_iff.1 hf))
        have hm : (fs.mapM fun f => do pure (f.offset, ← sizeOf f.type) : Sem (Array (Nat × Nat))).run P w = .ok (fs.toList.map fun f => (f.offset, (sizeT P f.type).getD 0)).toArray w := by
          rw [Array.mapM_eq_mapM_toList, Sem.run_map, hpl']; rfl
        have hplace : (fun (i : Nat) => (fs.toList.map fun (f : Field) => (f.offset, (sizeT P f.type).getD 0)).toArray[i]?) = fun i => (fs[i]?).bind fun (f : Field) => (sizeT P f.type).map fun s => (f.offset, s) := by
          funext i
          simp only [List.getElem?_toArray, List.getElem?_map, Array.getElem?_toList]
          cases hfi : fs[i]? with
          | none => rfl
          | some f =>
            rw [Array.all_eq_true'] at hall
            obtain ⟨s, hs⟩ := Option.isSome_iff_exists.1 (hall f (Array.mem_of_getElem? hfi))
            simp [hs]
        simp only [execOp, ho, Instr.build, Sem.run_bind, r_zero hzv, Result.andThen_ok, r_under hd, hm]
        have hpe : (parts.map fun (i, x) => (i, a.eval x)).toList = parts.toList.map fun (i, x) => (i, a.eval x) := by simp
        rw [hplace, hpe]
        simp [Value.cells, g1]
      · rename_i n el hd
        split at hf
        · rename_i s hs
          obtain ⟨cells', g1, g2, g3, _⟩ := r_fill hE hG hf hr hc hfl
          refine Did.same hS (x := .agg cells') (by simp only [Rep]; exact ⟨_, rfl, g2, g3⟩) ?_
          have hpe : (parts.map fun (i, x) => (i, a.eval x)).toList = parts.toList.map fun (i, x) => (i, a.eval x) := by simp
          simp only [execOp, ho, Instr.build, Sem.run_bind, r_zero hzv, Result.andThen_ok, r_under hd, r_size hs]
          rw [hpe]
          simp [Value.cells, g1]
        · cases hf
      · cases hf
  · cases hz

theorem did_mkLit {m : Nat} {zero : List AV} {ps : List (Nat × Nat × AX)} {mu : Bool} (hf : opFits P gl o.op (.mkLit m zero ps mu) = true) (h : opA (.mkLit m zero ps mu) e st = some (.val v st')) :
    Did P K base J (execOp a.eval o) w v st' := by
  cases ho : o.op <;> simp only [ho, opFits, Bool.false_eq_true] at hf
  rename_i t len parts
  simp only [Bool.and_eq_true, decide_eq_true_eq, beq_iff_eq] at hf
  obtain ⟨⟨⟨⟨⟨hel, hbig⟩, hzl⟩, hzc⟩, hz⟩, hp⟩ := hf
  obtain ⟨el, hd, hsize, hm, hagg⟩ := elemFits_iff hel
  rw [hd] at hz
  simp only [] at hz
  split at hz
  · rename_i zv hzv
    have hzr := constsFit_reps (J := J) _ _ hz
    simp only [opA] at h
    cases hfl : fillA zero (ps.map fun (o, s, x) => (o, s, x.ev e)) with
    | none => simp [hfl] at h
    | some cs =>
      obtain ⟨cells', g1, g2, g3, g4⟩ := r_fill hE hG hp hzr hzc hfl
      have hcl : cells'.size = len * m := by rw [g4]; simp
      have hcs : cs.length = len * m := by rw [g2.length]; simp [hcl]
      have hdiv : len * m / m = len := Nat.mul_div_cancel _ (by omega)
      have hrun : (execOp a.eval o).run P w = .ok (.value (.slice (some ⟨w.heap.size, 0, none⟩) len len)) { w with heap := w.heap.push (.cells cells' el) } := by
        have hpe : (parts.map fun (i, x) => (i, a.eval x)).toList = parts.toList.map fun (i, x) => (i, a.eval x) := by simp
        simp only [execOp, ho, Instr.buildSlice, Sem.run_bind, r_under hd, r_size hsize, Result.andThen_ok]
        rw [if_neg (by omega)]
        by_cases h0 : len * m = 0
        · have hlen0 : len = 0 := by rcases Nat.mul_eq_zero.1 h0 with h | h <;> omega
          subst hlen0
          have hrn : ∀ f : Nat → Value, (Array.range (0 * m)).map f = #[] := by intro f; apply Array.eq_empty_of_size_eq_zero; simp
          rw [hrn] at g1
          rw [hpe, if_pos (Nat.zero_mul m)]
          simp only [pure_bind]
          rw [hrn, g1]
          simp [newRow]
        · simp only [h0, if_false, Sem.run_bind, r_zero hzv, Result.andThen_ok, Sem.run_pure]
          rw [hpe]
          rw [g1]
          simp [newRow]
      simp only [hfl, Option.map_some, Option.some.injEq] at h
      cases mu with
      | true =>
        simp only [if_true, Nx.val.injEq] at h
        obtain ⟨rfl, rfl⟩ := h
        refine Did.of (hS.bind_le _) (hS.add (.cells cells' el) (.cells none cs) rfl (by simp) ?_) ?_ hrun
        · refine ⟨w.heap.size, cells', el, by simp [Inj.bind], ⟨(0, 0), by simp, Clear.zero _⟩, by omega, ?_, g3, fun _ hT => by cases hT⟩
          rw [List.take_of_length_le (by simp; omega)]
          exact Reps.mono (hS.bind_le _) _ _ g2
        · rw [hcs, hdiv]
          simp only [Rep]
          exact ⟨w.heap.size, len, by simp [Inj.bind], rfl, Nat.le_refl _, fun k e => by cases e; rfl⟩
      | false =>
        simp only [Bool.false_eq_true, if_false, Nx.val.injEq] at h
        obtain ⟨rfl, rfl⟩ := h
        refine Did.of (hS.stay_le cells') (hS.addStill cells' el (0, 0)) ?_ hrun
        rw [hcs, hdiv]
        simp only [Rep]
        have hgl := group_length m (m != 1) len cs
        refine ⟨fun id e => (by cases e), .inr ⟨⟨w.heap.size, 0, none⟩, len, by rw [hgl], fun _ => rfl, by rw [hgl]; exact Nat.le_refl _, fun _ => hgl.symm, ?_⟩⟩
        have hck := Chunks.of_group (J := J) (m := m) (agg := m != 1) (by simp) len g2 g3 (by omega)
        refine Elems.of_chunks (hck.mono (hS.stay_le cells')) (fun i v hv => ?_)
        rw [List.getElem?_take] at hv
        split at hv
        · show (if w.heap.size = w.heap.size then cells'[0 + i]? else _) = some v
          rw [if_pos rfl, Nat.zero_add]; simpa using hv
        · cases hv
  · cases hz

theorem did_mkSlice {m bytes : Nat} {zero : List AV} {y z : AX} {tok : Bool} (hf : opFits P gl o.op (.mkSlice m bytes zero y z tok) = true) (h : opA (.mkSlice m bytes zero y z tok) e st = some (.val v st')) :
    Did P K base J (execOp a.eval o) w v st' := by
  cases ho : o.op <;> simp only [ho, opFits, Bool.false_eq_true] at hf
  rename_i t l c
  simp only [Bool.and_eq_true, beq_iff_eq] at hf
  obtain ⟨⟨⟨⟨⟨⟨hel, hby⟩, hz⟩, hzl⟩, hzc⟩, hx⟩, hu⟩ := hf
  obtain ⟨el, hd, hsize, hm, hagg⟩ := elemFits_iff hel
  obtain ⟨inf, hinf⟩ : ∃ inf, P.info? el = some inf := by
    unfold sizeT at hsize
    cases hi : P.info? el with
    | none => simp [hi] at hsize
    | some i => exact ⟨i, rfl⟩
  have hbytes : inf.bytes = bytes := by simpa [elemBytes, hd, hinf] using hby
  rw [hd] at hz
  simp only [zeroFits] at hz
  split at hz
  · rename_i zv hzv
    simp only [Bool.and_eq_true] at hz
    have hzr := (constFits_rep (J := J) _ _ hz.1).cells
    have hzcells : (if (m != 1) = true then AV.agg zero else zero.headD .undef).cells = zero := by
      cases hm1 : (m != 1) with
      | true => rfl
      | false =>
        simp at hm1
        match zero, hzl, hzc with
        | [u], _, hc =>
          simp at hc
          cases u <;> simp_all [AV.cells, AV.isCell]
        | [], hl, _ => simp at hl; omega
        | _ :: _ :: _, hl, _ => simp at hl; omega
    rw [hzcells] at hzr
    have hzsz : zv.cells.size = m := by have := hzr.length; simp at this; omega
    have h1 := xFits_rep hE hG hx
    have h2 := xFits_rep hE hG hu
    simp only [opA] at h
    cases ha1 : aInt (y.ev e) with
    | none => simp [ha1] at h
    | some l' =>
      cases ha2 : aInt (z.ev e) with
      | none => simp [ha1, ha2] at h
      | some c' =>
        obtain ⟨k1, hk1⟩ := aInt_rep h1 ha1
        obtain ⟨k2, hk2⟩ := aInt_rep h2 ha2
        simp only [ha1, ha2] at h
        split at h
        · rename_i hh
          obtain ⟨hl0, hlc, hgr, hb1, _⟩ := hh
          have hgr' : c' ≤ 274877906944 := hgr
          have hw : ∀ i : Int, 0 ≤ i → i ≤ c' → IntKind.i64.wrap i = i := by
            intro i h0 h1
            simp only [IntKind.wrap, IntKind.signed, IntKind.bits]
            have : i % 2 ^ 64 = i := Int.emod_eq_of_lt h0 (by omega)
            simp only [this]
            rw [if_neg (by simp; omega)]
          have hb2 : bytes * c' ≤ 1024 * 274877906944 := by
            have : (bytes : Int) ≤ 1024 := by omega
            calc (bytes : Int) * c' ≤ 1024 * c' := Int.mul_le_mul_of_nonneg_right this (by omega)
              _ ≤ 1024 * 274877906944 := Int.mul_le_mul_of_nonneg_left hgr' (by omega)
          obtain ⟨L, rfl⟩ := Int.eq_ofNat_of_zero_le hl0
          obtain ⟨C, rfl⟩ := Int.eq_ofNat_of_zero_le (by omega : 0 ≤ c')
          have hcellsEq : (if C * m = 0 then (#[] : Array Value) else zv.cells) = zv.cells ∨ C = 0 := by
            by_cases h0 : C * m = 0
            · right; rcases Nat.mul_eq_zero.1 h0 with h | h <;> omega
            · left; rw [if_neg h0]
          have hrun : (execOp a.eval o).run P w = .ok (.value (.slice (some ⟨w.heap.size, 0, none⟩) L C)) { w with heap := w.heap.push (.cells ((List.replicate C zv.cells.toList).flatten).toArray el) } := by
            have e1 := hw L (by omega) (by omega)
            have e2 := hw C (by omega) (by omega)
            have n1 : ¬ ((C : Int) < 0) := by omega
            have n2 : ¬ ((L : Int) < 0) := by omega
            have n3 : ¬ (2 ^ 48 < (bytes : Int) * C) := by omega
            have n4 : ¬ ((C : Int) < L) := by omega
            have hrf := range_flat zv.cells m hzsz hm C
            have n3' : ¬ (281474976710656 < (bytes : Int) * C) := n3
            by_cases h0 : C * m = 0
            · have hC : C = 0 := by rcases Nat.mul_eq_zero.1 h0 with h | h <;> omega
              simp [execOp, ho, Instr.makeSlice, r_under hd, hk1, hk2, asInt, asIntOf, r_info hinf, hbytes, e1, e2, n1, n2, n3', n4, r_size hsize, newRow, h0]
              have hrn : ∀ f : Nat → Value, (Array.range 0).map f = #[] := by intro f; apply Array.eq_empty_of_size_eq_zero; simp
              rw [hrn]
              simp [hC]
            · rw [← hrf]
              simp [execOp, ho, Instr.makeSlice, r_under hd, hk1, hk2, asInt, asIntOf, r_info hinf, hbytes, e1, e2, n1, n2, n3', n4, r_size hsize, r_zero hzv, newRow, h0]
          have hzl' : ∀ n, ((List.replicate n zv.cells.toList).flatten).length = n * m := by intro n; simp [hzsz]
          have hreps : ∀ n, Reps J ((List.replicate n zero).flatten) ((List.replicate n zv.cells.toList).flatten) := by
            intro n
            induction n with
            | zero => simp [Reps]
            | succ n ih => rw [List.replicate_succ, List.replicate_succ, List.flatten_cons, List.flatten_cons]; exact hzr.append ih
          have hcell : ∀ n, ((List.replicate n zero).flatten).all AV.isCell = true := by
            intro n
            induction n with
            | zero => simp
            | succ n ih => rw [List.replicate_succ, List.flatten_cons, List.all_append, hzc, ih]; rfl
          cases tok with
          | true =>
            simp only [if_true] at h
            split at h
            · rename_i hl0
              simp only [Option.some.injEq, Nx.val.injEq] at h
              obtain ⟨rfl, rfl⟩ := h
              have hL : L = 0 := by omega
              subst hL
              by_cases hC : C = 0
              · subst hC
                obtain ⟨hle, hs⟩ := (hS.push (.cells ((List.replicate 0 zv.cells.toList).flatten).toArray el)).tokAdd0 m (some ⟨w.heap.size, 0, none⟩)
                refine Did.of hle hs ?_ hrun
                simp only [Rep]
                refine ⟨fun id e => (by cases e; simp [Inj.tokNil]), .inr ⟨⟨w.heap.size, 0, none⟩, 0, rfl, fun _ => rfl, Nat.le_refl _, fun e => (by cases e), by simp [Elems]⟩⟩
              · have := r_appendNew (id := st.length) (m := m) (need := 0) (ys := []) (xs := []) (cap' := C) (t := el) (rest := (List.replicate C zv.cells.toList).flatten) (w1 := w) (ty := none) hS.addDead (ob := .dead) (by simp) (fun _ hT => by cases hT)
                  (.inl ⟨rfl, fun k v e => by rw [hS.τnew] at e; cases e⟩) rfl rfl rfl (by simp [Chunks]) rfl (by omega) (Nat.zero_le _) (by rw [hzl']; simp)
                obtain ⟨hle, hsim, hrep⟩ := this
                simp only [List.nil_append] at hsim hle hrep
                refine Did.of hle (by simpa using hsim) hrep hrun
            · cases h
          | false =>
            simp only [Bool.false_eq_true, if_false] at h
            split at h
            · rename_i hlc
              simp only [Option.some.injEq, Nx.val.injEq] at h
              obtain ⟨rfl, rfl⟩ := h
              have hLC : L = C := by omega
              subst hLC
              refine Did.of (hS.bind_le _) (hS.add (.cells ((List.replicate L zv.cells.toList).flatten).toArray el) (.cells none ((List.replicate L zero).flatten)) rfl (by simp) ?_) ?_ hrun
              · refine ⟨w.heap.size, ((List.replicate L zv.cells.toList).flatten).toArray, el, by simp [Inj.bind], ⟨(0, 0), by simp, Clear.zero _⟩, ?_, ?_, hcell L, fun _ hT => by cases hT⟩
                · have := (hreps L).length; simp at this ⊢; omega
                · have hl := (hreps L).length
                  rw [List.take_of_length_le (by simp only [List.toList_toArray]; omega)]
                  exact Reps.mono (hS.bind_le _) _ _ (hreps L)
              · simp only [Rep]
                exact ⟨w.heap.size, L, by simp [Inj.bind], by simp, by simp, fun k e => by cases e; simp⟩
            · cases h
        · cases h
  · cases hz
end
end Go.Proofs.YtfkmdajlpnkebaaDoor.Ai
