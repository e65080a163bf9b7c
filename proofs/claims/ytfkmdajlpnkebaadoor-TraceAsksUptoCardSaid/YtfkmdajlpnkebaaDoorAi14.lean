/- Operations: what each does to a world is what the abstract one tells (ninth part). No condition. -/
import Derived.Test.YtfkmdajlpnkebaaDoorAi13
namespace Go.Proofs.YtfkmdajlpnkebaaDoor.Ai
open Go

theorem sameBits_of {J : Inj} {k q : AV} {x y : Value} (hk : Rep J k x) (hq : Rep J q y) (h : sameKey q k = some true) : Instr.sameBits 10000 x y = true := by
  cases k <;> cases q <;> simp only [sameKey] at h <;> try (cases h; done)
  all_goals simp only [Rep] at hk hq
  · simp at h; subst hk hq; simp [Instr.sameBits, h]
  · split at h
    · simp at h; subst hk hq; simp_all [Instr.sameBits]
    · cases h
  · simp at h
    obtain ⟨b1, rfl, rfl⟩ := hk; obtain ⟨b2, rfl, rfl⟩ := hq
    cases b1 with | mk x => cases b2 with | mk y =>
    simp only [Instr.sameBits]
    show (x == y) = true
    simp [Array.toList_inj] at h ⊢
    exact h.symm

section
variable {P : Program} {gl : List (Nat × AV)} {K : Sites} {base : World} {J : Inj} {st st' : St} {w : World} {a : Act} {e : Env} {o : Oper} {v : AV}
variable (hS : Sim K base J st w) (hE : Reps J e a.tmps.toList) (hG : GlOk gl J)
include hS hE hG

theorem did_mapUpdate {kd : Nat} {y z u : AX} (hf : opFits P gl o.op (.mapUpdate kd y z u) = true) (h : opA (.mapUpdate kd y z u) e st = some (.val v st')) : Did P K base J (execOp a.eval o) w v st' := by
  have main : ∀ (t : TypeId) (x ix vv : Operand), (execOp a.eval o) = (do Instr.mapUpdate t (a.eval x) (a.eval ix) (a.eval vv); pure .skip : Sem Next) →
      ((match P.underlying t with | some (.map k _) => isK P k (fun d => kindD d == kd) && decide (kd < 3) | _ => false) && xFits gl x y && xFits gl ix z && xFits gl vv u) = true → Did P K base J (execOp a.eval o) w v st' := by
    intro t x ix vv ho hf
    simp only [Bool.and_eq_true] at hf
    obtain ⟨⟨⟨hm, hx⟩, hi⟩, hv⟩ := hf
    split at hm
    · rename_i kt et hd
      simp only [Bool.and_eq_true, decide_eq_true_eq] at hm
      obtain ⟨hk, h3⟩ := hm
      obtain ⟨dk, hdk, hk⟩ := isK_some hk
      simp only [beq_iff_eq] at hk
      have h1 := xFits_rep hE hG hx
      have h2 := xFits_rep hE hG hi
      have h4 := xFits_rep hE hG hv
      simp only [opA] at h
      cases hy : y.ev e <;> simp only [hy] at h <;> try (cases h; done)
      rename_i r
      cases hst : st[r]? with
      | none => simp [hst] at h
      | some ob =>
        cases ob <;> simp only [hst] at h <;> try (cases h; done)
        rename_i es
        split at h
        · rename_i hkind
          rw [hy] at h1; simp only [Rep] at h1
          obtain ⟨b, hb, e1⟩ := h1
          obtain ⟨b', ents, clock, q1, hh, hmm⟩ := hS.obj r _ hst
          rw [hb] at q1; cases q1
          have hck : ∀ b, (Instr.checkKey b 10000 kt (a.eval ix)).run P w = .ok () w := fun b => r_checkKey hdk (by omega)
          have hbl := heap_lt hh
          -- the block set
          have hset : ∀ (ob : Obj), (setObj b ob).run P w = .ok () { w with heap := w.heap.setIfInBounds b ob } := by
            intro ob; simp [setObj, Sem.run, hh]
          have upd : ∀ (ents' : Array MapEntry) (clock' : Nat) (es' : List (AV × AV)), RepsM J es' ents'.toList → Sim K base J (st.set r (.map es')) { w with heap := w.heap.setIfInBounds b (.map ents' clock') } := by
            intro ents' clock' es' hr
            refine hS.upd hst hb rfl (by simp) rfl (by simp) rfl rfl (by simp) (fun b' hne => by simp [Array.getElem?_setIfInBounds, Ne.symm hne]) ?_
            exact ⟨b, ents', clock', hb, by simp [hbl], hr⟩
          cases hfk : findKey (z.ev e) es 0 with
          | none => simp [hfk] at h
          | some f =>
            simp only [hfk, Option.bind_some] at h
            have hnow := findKey_now h2 (by rw [hk, hkind]) (by omega) es ents.toList 0 f hmm.2 hmm.1 hfk
            cases f with
            | none =>
              simp only [Option.some.injEq, Nx.val.injEq] at h
              obtain ⟨rfl, rfl⟩ := h
              simp only [] at hnow
              have hfind : (Instr.findKey kt (a.eval ix) ents.toList).run P w = .ok none w := by
                simp only [Instr.findKey, Sem.run_bind, r_under hdk, Result.andThen_ok]; rw [hnow]; rfl
              refine ⟨J, _, Go.undef, Inj.le.refl J, upd (ents.push { key := a.eval ix, val := a.eval vv, born := clock }) (clock + 1) _ ?_, Rep.undef, .inr ⟨?_, rfl⟩⟩
              · refine ⟨by simp [hmm.1], fun i p hp => ?_⟩
                rcases Nat.lt_trichotomy i es.length with hlt | heq | hgt
                · rw [List.getElem?_append_left hlt] at hp
                  obtain ⟨q, hq, hr⟩ := hmm.2 i p hp
                  refine ⟨q, ?_, hr⟩
                  simp only [Array.toList_push]
                  rw [List.getElem?_append_left (by rw [← hmm.1]; exact hlt)]; exact hq
                · subst heq
                  simp at hp; subst hp
                  have hl := hmm.1
                  refine ⟨{ key := a.eval ix, val := a.eval vv, born := clock }, ?_, h2, h4⟩
                  simp only [Array.toList_push]
                  rw [List.getElem?_append_right (by omega)]; simp [hl]
                · rw [List.getElem?_eq_none (by simp; omega)] at hp; cases hp
              · rw [ho]
                simp [e1, Instr.mapUpdate, r_under hd, getObj, Sem.run, hh, hck, hfind, hset]
            | some p =>
              obtain ⟨j, q⟩ := p
              simp only [Option.some.injEq, Nx.val.injEq] at h
              obtain ⟨rfl, rfl⟩ := h
              obtain ⟨_, hjl, zz, hzz, hzr, hfn, e2, he2, hsk⟩ := hnow
              simp only [Nat.sub_zero] at hzz he2
              have hfind : (Instr.findKey kt (a.eval ix) ents.toList).run P w = .ok (some (j, zz.val)) w := by
                simp only [Instr.findKey, Sem.run_bind, r_under hdk, Result.andThen_ok]; rw [hfn]; rfl
              have hej : ents[j]? = some zz := by simpa using hzz
              obtain ⟨zz', hzz', hk1, hk2⟩ := hmm.2 j e2 he2
              rw [hzz] at hzz'; cases hzz'
              have hbits := sameBits_of hk1 h2 hsk
              have hstay : (Instr.keyThatStays zz.key (a.eval ix)).run P w = .ok (a.eval ix) w := by simp [Instr.keyThatStays, hbits]
              refine ⟨J, _, Go.undef, Inj.le.refl J, upd (ents.modify j fun e => { e with key := a.eval ix, val := a.eval vv }) clock _ ?_, Rep.undef, .inr ⟨?_, rfl⟩⟩
              · refine ⟨by simp [hmm.1], fun i p hp => ?_⟩
                by_cases hij : i = j
                · subst hij
                  rw [List.getElem?_set_self (by omega)] at hp; cases hp
                  exact ⟨{ zz with key := a.eval ix, val := a.eval vv }, by simp [Array.getElem?_modify, hej], h2, h4⟩
                · rw [List.getElem?_set_ne (fun h => hij h.symm)] at hp
                  obtain ⟨q2, hq2, hr⟩ := hmm.2 i p hp
                  refine ⟨q2, ?_, hr⟩
                  simp only [Array.getElem?_toList, Array.getElem?_modify]
                  rw [if_neg (fun h => hij h.symm)]; simpa using hq2
              · rw [ho]
                simp [e1, Instr.mapUpdate, r_under hd, getObj, Sem.run, hh, hck, hfind, hset, hej, hstay]
        · cases h
    · cases hm
  cases ho : o.op <;> simp only [ho, opFits, Bool.false_eq_true] at hf
  · exact main _ _ _ _ (by simp [execOp, ho]) hf
  · exact main _ _ _ _ (by simp [execOp, ho]) hf

omit hS hE hG in
theorem fill_put : ∀ (xs : List Value) (off : Nat) (cells : Array Value) (n : Nat), ((xs.zipIdx n).foldl (fun cs (c, j) => cs.setIfInBounds (off + j) c) cells) = putV cells (off + n) xs
  | [], off, cells, n => rfl
  | x :: xs, off, cells, n => by
    simp only [List.zipIdx_cons, List.foldl_cons, putV]
    rw [fill_put xs off _ (n + 1)]; rfl

omit hS in
/-- Parts laid over cells, as the model lays them. -/
theorem r_fill {place : Nat → Option (Nat × Nat)} : ∀ {os : List (Nat × Operand)} {ps : List (Nat × Nat × AX)} {cs cs' : List AV} {cells : Array Value}, partsFit gl place os ps = true →
    Reps J cs cells.toList → cs.all AV.isCell = true → fillA cs (ps.map fun (o, s, x) => (o, s, x.ev e)) = some cs' →
    ∃ cells', Instr.fill place cells (os.map fun (i, x) => (i, a.eval x)) = some cells' ∧ Reps J cs' cells'.toList ∧ cs'.all AV.isCell = true ∧ cells'.size = cells.size
  | [], [], cs, cs', cells, _, hr, hc, h => by
    simp [fillA] at h; subst h
    exact ⟨cells, rfl, hr, hc, rfl⟩
  | [], _ :: _, _, _, _, h, _, _, _ => by simp [partsFit] at h
  | _ :: _, [], _, _, _, h, _, _, _ => by simp [partsFit] at h
  | (i, x) :: os, (off, size, y) :: ps, cs, cs', cells, hf, hr, hc, h => by
    simp only [partsFit, Bool.and_eq_true] at hf
    obtain ⟨⟨hp, hx⟩, hf⟩ := hf
    split at hp
    · rename_i a1 b1 hpl
      simp only [Bool.and_eq_true, beq_iff_eq] at hp
      obtain ⟨rfl, rfl⟩ := hp
      simp only [List.map_cons, fillA] at h
      split at h
      · rename_i hh
        obtain ⟨h1, h2, h3⟩ := hh
        have hrx := xFits_rep hE hG hx
        have hcx := hrx.cells
        have hlx := hcx.length
        have hlc := hr.length
        have hput : Reps J (putCells cs a1 (y.ev e).cells) (putV cells a1 (a.eval x).cells.toList).toList := by
          have := putCells_reps (J := J) _ _ _ cells a1 cells.size hcx (by rw [List.take_of_length_le (by simp)]; exact hr)
          rwa [List.take_of_length_le (by simp [putV_size])] at this
        obtain ⟨cells', g1, g2, g3, g4⟩ := r_fill hf hput (putCells_isCell _ _ _ hc h3) h
        refine ⟨cells', ?_, g2, g3, by rw [g4, putV_size]⟩
        simp only [List.map_cons, Instr.fill, hpl]
        have hs1 : (a.eval x).cells.size = b1 := by simp at hlx; omega
        rw [if_neg (by simp at hlc ⊢; omega)]
        have := fill_put (a.eval x).cells.toList a1 cells 0
        rw [Nat.add_zero] at this
        rw [← g1, ← this]
        congr 1
        rw [← Array.foldl_toList, Array.toList_zipIdx]
      · cases h
    · cases hp

end
end Go.Proofs.YtfkmdajlpnkebaaDoor.Ai
