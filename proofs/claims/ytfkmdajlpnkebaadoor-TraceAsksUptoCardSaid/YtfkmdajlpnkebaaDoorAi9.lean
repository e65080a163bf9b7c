/- Operations: what each does to a world is what the abstract one tells (fourth part: cuts, maps, bytes). No condition. -/
import Derived.Test.YtfkmdajlpnkebaaDoorAi8
namespace Go.Proofs.YtfkmdajlpnkebaaDoor.Ai
open Go

section
variable {P : Program} {gl : List (Nat × AV)} {K : Sites} {base : World} {J : Inj} {st st' : St} {w : World} {a : Act} {e : Env} {o : Oper} {v : AV}

/-- A bound of a cut. -/
theorem r_bound {l : Option Operand} {x : Option AX} {d top n : Nat} (hE : Reps J e a.tmps.toList) (hG : GlOk gl J) (hf : oxFits gl l x = true) (h : bound (x.map (AX.ev e)) d top = some n) :
    (l = none ∧ x = none ∧ n = d) ∨ ∃ lo k i, l = some lo ∧ a.eval lo = .int k i ∧ 0 ≤ i ∧ i ≤ (top : Int) ∧ n = i.toNat ∧ n ≤ top := by
  cases l with
  | none =>
    cases x with
    | none => simp [bound] at h; exact .inl ⟨rfl, rfl, h.symm⟩
    | some x => simp [oxFits] at hf
  | some lo =>
    cases x with
    | none => simp [oxFits] at hf
    | some x =>
      simp only [oxFits] at hf
      have hr := xFits_rep hE hG hf
      simp only [Option.map_some] at h
      cases hx : x.ev e <;> rw [hx] at h hr <;> simp only [bound] at h <;> try (cases h; done)
      split at h
      · rename_i hh
        cases h
        simp only [Rep] at hr
        exact .inr ⟨lo, _, _, rfl, hr, hh.1, hh.2, rfl, by omega⟩
      · cases h

theorem r_sliceBound {k : IntKind} {i : Int} {y : Nat} {c : BoundsCode} (h0 : 0 ≤ i) (h1 : i ≤ (y : Int)) : (Instr.sliceBound (.int k i) y c).run P w = .ok i.toNat w := by
  simp [Instr.sliceBound, asIntOf, h0, h1]

/-- A cut without a third bound. -/
theorem r_bounds {l h : Option Operand} {lo hi : Option AX} {isSlice : Bool} {len top cap l' h' : Nat} (hE : Reps J e a.tmps.toList) (hG : GlOk gl J) (hl : oxFits gl l lo = true) (hh : oxFits gl h hi = true)
    (htop : top ≤ cap) (hlen : len ≤ cap) (b1 : bound (hi.map (AX.ev e)) len top = some h') (b2 : bound (lo.map (AX.ev e)) 0 h' = some l') :
    (Instr.sliceBounds isSlice len cap (l.map a.eval) (h.map a.eval) none).run P w = .ok (l', h', cap) w ∧ l' ≤ h' ∧ (h' ≤ top ∨ h' = len) := by
  rcases r_bound hE hG hh b1 with ⟨rfl, _, rfl⟩ | ⟨ho, k, i, rfl, e1, i0, i1, rfl, i2⟩
  · rcases r_bound hE hG hl b2 with ⟨rfl, _, rfl⟩ | ⟨lo', k', i', rfl, e2, j0, j1, rfl, j2⟩
    · simp [Instr.sliceBounds]
    · simp [Instr.sliceBounds, e2, r_sliceBound j0 j1, j2]
  · have i1' : i ≤ (cap : Int) := by omega
    rcases r_bound hE hG hl b2 with ⟨rfl, _, rfl⟩ | ⟨lo', k', i', rfl, e2, j0, j1, rfl, j2⟩
    · simp [Instr.sliceBounds, e1, r_sliceBound i0 i1', i2]
    · simp [Instr.sliceBounds, e1, r_sliceBound i0 i1', e2, r_sliceBound j0 j1, i2, j2]

variable (hS : Sim K base J st w) (hE : Reps J e a.tmps.toList) (hG : GlOk gl J)
include hS hE hG

theorem did_sliceStr {y : AX} {lo hi : Option AX} (hf : opFits P gl o.op (.sliceStr y lo hi) = true) (h : opA (.sliceStr y lo hi) e st = some (.val v st')) : Did P K base J (execOp a.eval o) w v st' := by
  cases ho : o.op <;> simp only [ho, opFits, Bool.false_eq_true] at hf
  rename_i t x l hh mx
  cases mx <;> simp only [Bool.false_eq_true] at hf
  simp only [Bool.and_eq_true] at hf
  obtain ⟨⟨⟨hk, hx⟩, hl⟩, hhi⟩ := hf
  obtain ⟨d, hd, hk⟩ := isK_some hk
  cases d <;> simp at hk
  have h1 := xFits_rep hE hG hx
  simp only [opA] at h
  cases hy : y.ev e <;> simp only [hy] at h <;> try (cases h; done)
  rename_i s
  rw [hy] at h1; simp only [Rep] at h1
  obtain ⟨ba, e1, rfl⟩ := h1
  cases b1 : bound (hi.map (AX.ev e)) ba.data.toList.length ba.data.toList.length with
  | none => simp only [b1, Option.bind_none] at h; cases h
  | some h' =>
    simp only [b1, Option.bind_some] at h
    cases b2 : bound (lo.map (AX.ev e)) 0 h' with
    | none => simp only [b2, Option.map_none] at h; cases h
    | some l' =>
      simp only [b2, Option.map_some, Option.some.injEq, Nx.val.injEq] at h
      obtain ⟨rfl, rfl⟩ := h
      have hsz : ba.data.toList.length = ba.size := by simp
      rw [hsz] at b1
      obtain ⟨hr, hle, htop⟩ := r_bounds (P := P) (w := w) (isSlice := false) hE hG hl hhi (Nat.le_refl _) (Nat.le_refl _) b1 b2
      refine Did.same hS (x := .string (ba.extract l' h')) ?_ ?_
      · simp only [Rep]
        refine ⟨_, rfl, ?_⟩
        simp [ByteArray.data_extract, List.take_drop, Nat.add_sub_cancel' hle]
      · simp [execOp, ho, e1, Instr.sliceAt, r_under hd, Instr.slice, hr]

/-- What is left of a slice that stays. -/
theorem did_sliceLst {m : Nat} {y : AX} {lo hi max : Option AX} (hf : opFits P gl o.op (.sliceLst m y lo hi max) = true) (h : opA (.sliceLst m y lo hi max) e st = some (.val v st')) :
    Did P K base J (execOp a.eval o) w v st' := by
  cases ho : o.op <;> simp only [ho, opFits, Bool.false_eq_true] at hf
  rename_i t x l hh mx
  simp only [Bool.and_eq_true] at hf
  obtain ⟨⟨⟨⟨hel, hx⟩, hl⟩, hhi⟩, hmx⟩ := hf
  obtain ⟨el, hd, hsize⟩ : ∃ el, P.underlying t = some (.slice el) ∧ sizeT P el = some m := by
    unfold elemFits at hel
    split at hel
    · rename_i el hd
      simp only [Bool.and_eq_true] at hel
      exact ⟨el, hd, (varFits_iff hel.1).1⟩
    · cases hel
  have h1 := xFits_rep hE hG hx
  simp only [opA] at h
  -- the value that the cut gives, of a slice at an address or none
  have still : ∀ (m' : Nat) (es : List AV) (ap : Ap) (l' h' cp : Nat) (ap' : Ap), (m' = m ∨ es = []) → Rep J (.lst m' es ap) (a.eval x) → l' ≤ h' → h' ≤ es.length →
      (∀ id, ap' ≠ .tok id) → (∀ base' cap, a.eval x = .slice base' es.length cap → ∃ c', (Instr.sliceBounds true es.length cap (l.map a.eval) (hh.map a.eval) (mx.map a.eval)).run P w = .ok (l', h', c') w ∧ h' ≤ c' ∧ c' ≤ cap ∧ (ap' = .tight → c' = h')) →
      v = .lst m ((es.take h').drop l') ap' → st' = st → Did P K base J (execOp a.eval o) w v st' := by
    intro m' es ap l' h' cp ap' hmm hrep hle hle' hap hb hv hst
    subst hv hst
    simp only [Rep] at hrep
    obtain ⟨_, ⟨e1, e2⟩ | ⟨ad, cap, e1, hsp, hcap, _, helm⟩⟩ := hrep
    · subst e2
      simp at hle'; subst hle'
      have hl0 : l' = 0 := by omega
      subst hl0
      obtain ⟨c', hr, g1, g2, _⟩ := hb none 0 e1
      have : c' = 0 := by omega
      subst this
      refine Did.same hS (x := .slice none 0 0) ?_ ?_
      · simp only [Rep]; exact ⟨fun id e => absurd e (hap id), .inl (by simp)⟩
      · simp only [execOp, ho, e1, Instr.sliceAt, Sem.run_bind, r_under hd, Result.andThen_ok, Instr.slice]
        simp at hr
        simp [hr, r_size hsize, r_under hd]
    · obtain ⟨c', hr, g1, g2, g3⟩ := hb (some ad) cap e1
      refine Did.same hS (x := .slice (if c' = l' then some ad else some (ad.add (l' * m))) (h' - l') (c' - l')) ?_ ?_
      · simp only [Rep]
        refine ⟨fun id e => absurd e (hap id), .inr ?_⟩
        have hlen : ((es.take h').drop l').length = h' - l' := by simp; omega
        by_cases hc : c' = l'
        · rw [if_pos hc]
          have h0 : h' - l' = 0 := by omega
          refine ⟨ad, c' - l', by rw [hlen], fun _ => hsp (by omega), by omega, fun e => by rw [hlen]; have := g3 e; omega, ?_⟩
          have : (es.take h').drop l' = [] := List.eq_nil_of_length_eq_zero (by omega)
          rw [this]; simp [Elems]
        · rw [if_neg hc]
          have hsp := hsp (by omega)
          refine ⟨ad.add (l' * m), c' - l', by rw [hlen], fun _ => by rw [add_none hsp], by omega, fun e => by rw [hlen]; have := g3 e; omega, ?_⟩
          rcases hmm with rfl | hnil
          · rw [add_none hsp]; exact (helm.take h').drop l'
          · subst hnil; simp [Elems]
      · simp only [execOp, ho, e1, Instr.sliceAt, Sem.run_bind, r_under hd, Result.andThen_ok, Instr.slice]
        simp [hr, r_size hsize, r_under hd]
  cases hy : y.ev e <;> simp only [hy] at h <;> try (cases h; done)
  · rename_i m' es ap
    rw [hy] at h1
    split at h
    · rename_i hmm
      cases max with
      | some mx' =>
        cases mx with
        | none => simp [oxFits] at hmx
        | some mo =>
          simp only [] at h
          cases b0 : bound (some (mx'.ev e)) 0 es.length with
          | none => simp [b0] at h
          | some c =>
            simp only [b0, Option.bind_some] at h
            cases b1 : bound (hi.map (AX.ev e)) 0 c with
            | none => simp [b1] at h
            | some h' =>
              simp only [b1, Option.bind_some] at h
              cases b2 : bound (lo.map (AX.ev e)) 0 h' with
              | none => simp [b2] at h
              | some l' =>
                simp only [b2, Option.bind_some] at h
                split at h
                · rename_i hsome
                  simp only [Option.some.injEq, Nx.val.injEq] at h
                  obtain ⟨h3, h4⟩ := h
                  rcases r_bound hE hG hmx (by simpa using b0) with ⟨q, _, _⟩ | ⟨mo', k0, i0, q, e0, p0, p1, p2, p3⟩
                  · cases q
                  cases q
                  rcases r_bound hE hG hhi b1 with ⟨q, q', _⟩ | ⟨ho', k1, i1, q, e1, q0, q1, q2, q3⟩
                  · rw [q'] at hsome; simp at hsome
                  subst q
                  refine still m' es ap l' h' c (if h' = c then .tight else .no) hmm h1 ?_ (by omega) (fun id => by split <;> simp) ?_ h3.symm h4.symm
                  · rcases r_bound hE hG hl b2 with ⟨_, _, rfl⟩ | ⟨_, _, _, _, _, _, _, _, r3⟩
                    · exact Nat.zero_le _
                    · exact r3
                  · intro base' cap hev
                    refine ⟨c, ?_, q3, ?_, fun ht => by split at ht; omega; cases ht⟩
                    · have hcap : es.length ≤ cap := by
                        simp only [Rep] at h1
                        obtain ⟨_, ⟨e1, e2⟩ | ⟨ad, cap', e1, _, hcap, _⟩⟩ := h1
                        · subst e2; exact Nat.zero_le _
                        · rw [e1] at hev; cases hev; exact hcap
                      have p1' : i0 ≤ (cap : Int) := by omega
                      have q1' : i1 ≤ (i0.toNat : Int) := by omega
                      subst p2 q2
                      rcases r_bound hE hG hl b2 with ⟨rfl, _, rfl⟩ | ⟨lo', k2, i2, rfl, e2, r0, r1, rfl, r3⟩
                      · simp [Instr.sliceBounds, e0, e1, r_sliceBound p0 p1', r_sliceBound q0 q1']
                      · simp [Instr.sliceBounds, e0, e1, e2, r_sliceBound p0 p1', r_sliceBound q0 q1', r_sliceBound r0 r1]
                    · simp only [Rep] at h1
                      obtain ⟨_, ⟨e1, e2⟩ | ⟨ad, cap', e1, _, hcap, _⟩⟩ := h1
                      · subst e2; simp at p3; omega
                      · rw [e1] at hev; cases hev; omega
                · cases h
      | none =>
        cases mx with
        | some mo => simp [oxFits] at hmx
        | none =>
          simp only [] at h
          cases b1 : bound (hi.map (AX.ev e)) es.length es.length with
          | none => simp [b1] at h
          | some h' =>
            simp only [b1, Option.bind_some] at h
            cases b2 : bound (lo.map (AX.ev e)) 0 h' with
            | none => simp [b2] at h
            | some l' =>
              simp only [b2, Option.map_some, Option.some.injEq, Nx.val.injEq] at h
              obtain ⟨h3, h4⟩ := h
              have hcapof : ∀ base' cap, a.eval x = .slice base' es.length cap → es.length ≤ cap ∧ (ap = .tight → cap = es.length) := by
                intro base' cap hev
                simp only [Rep] at h1
                obtain ⟨_, ⟨e1, e2⟩ | ⟨ad, cap', e1, _, hcap, ht, _⟩⟩ := h1
                · subst e2; rw [e1] at hev; cases hev; simp
                · rw [e1] at hev; cases hev; exact ⟨hcap, ht⟩
              have hh' : l' ≤ h' ∧ h' ≤ es.length := by
                constructor
                · rcases r_bound hE hG hl b2 with ⟨_, _, rfl⟩ | ⟨_, _, _, _, _, _, _, _, r3⟩
                  · exact Nat.zero_le _
                  · exact r3
                · rcases r_bound hE hG hhi b1 with ⟨_, _, rfl⟩ | ⟨_, _, _, _, _, _, _, _, r3⟩
                  · exact Nat.le_refl _
                  · exact r3
              refine still m' es ap l' h' 0 (if h' = es.length ∧ ap = .tight then .tight else .no) hmm h1 hh'.1 hh'.2 (fun id => by split <;> simp) ?_ h3.symm h4.symm
              intro base' cap hev
              obtain ⟨hc1, hc2⟩ := hcapof base' cap hev
              obtain ⟨hr, _, _⟩ := r_bounds (P := P) (w := w) (isSlice := true) hE hG hl hhi hc1 hc1 b1 b2
              refine ⟨cap, hr, by omega, Nat.le_refl _, fun ht => ?_⟩
              split at ht
              · rename_i hq; have := hc2 hq.2; omega
              · cases ht
    · cases h
  · rename_i r m' off n cap
    split at h
    · rename_i hmm
      obtain ⟨rfl, hnone⟩ := hmm
      cases max with
      | some mx' => simp at hnone
      | none =>
        cases mx with
        | some mo => simp [oxFits] at hmx
        | none =>
          rw [hy] at h1; simp only [Rep] at h1
          obtain ⟨b, c, hb, e1, hnc, hcap⟩ := h1
          cases cap with
          | some c' =>
            have := hcap c' rfl; subst this
            simp only [] at h
            cases b1 : bound (hi.map (AX.ev e)) n c with
            | none => simp [b1] at h
            | some h' =>
              simp only [b1, Option.bind_some] at h
              cases b2 : bound (lo.map (AX.ev e)) 0 h' with
              | none => simp [b2] at h
              | some l' =>
                simp only [b2, Option.bind_some] at h
                obtain ⟨hr, hle, htop⟩ := r_bounds (P := P) (w := w) (isSlice := true) hE hG hl hhi (Nat.le_refl _) hnc b1 b2
                have hhc : h' ≤ c := by omega
                split at h
                · rename_i hlt
                  simp only [Option.some.injEq, Nx.val.injEq] at h
                  obtain ⟨rfl, rfl⟩ := h
                  refine Did.same hS (x := .slice (some ⟨b, off + l' * m', none⟩) (h' - l') (c - l')) ?_ ?_
                  · simp only [Rep]; exact ⟨b, c - l', hb, rfl, by omega, fun k e => by cases e; rfl⟩
                  · have hne : ¬ c = l' := by omega
                    simp [execOp, ho, e1, Instr.sliceAt, r_under hd, Instr.slice, hr, r_size hsize, hne, add_none]
                · simp only [Option.some.injEq, Nx.val.injEq] at h
                  obtain ⟨rfl, rfl⟩ := h
                  have hcl : c = l' := by omega
                  have hhl : h' = l' := by omega
                  refine Did.same hS (x := .slice (some ⟨b, off, none⟩) 0 0) ?_ ?_
                  · simp only [Rep]; exact ⟨fun id e => (by cases e), .inr ⟨_, 0, rfl, fun _ => rfl, Nat.le_refl _, fun _ => rfl, by simp [Elems]⟩⟩
                  · subst hcl hhl
                    simp [execOp, ho, e1, Instr.sliceAt, r_under hd, Instr.slice, hr, r_size hsize]
          | none =>
            simp only [] at h
            cases b1 : bound (hi.map (AX.ev e)) n n with
            | none => simp [b1] at h
            | some h' =>
              simp only [b1, Option.bind_some] at h
              cases b2 : bound (lo.map (AX.ev e)) 0 h' with
              | none => simp [b2] at h
              | some l' =>
                simp only [b2, Option.bind_some] at h
                obtain ⟨hr, hle, htop⟩ := r_bounds (P := P) (w := w) (isSlice := true) hE hG hl hhi hnc hnc b1 b2
                have hhc : h' ≤ n := by omega
                split at h
                · rename_i hlt
                  simp only [Option.some.injEq, Nx.val.injEq] at h
                  obtain ⟨rfl, rfl⟩ := h
                  refine Did.same hS (x := .slice (some ⟨b, off + l' * m', none⟩) (h' - l') (c - l')) ?_ ?_
                  · simp only [Rep]; exact ⟨b, c - l', hb, rfl, by omega, fun k e => by cases e⟩
                  · have hne : ¬ c = l' := by omega
                    simp [execOp, ho, e1, Instr.sliceAt, r_under hd, Instr.slice, hr, r_size hsize, hne, add_none]
                · simp only [Option.some.injEq, Nx.val.injEq] at h
                  obtain ⟨rfl, rfl⟩ := h
                  have hhl : h' = l' := by omega
                  subst hhl
                  refine Did.same hS (x := .slice (if c = h' then some ⟨b, off, none⟩ else some ⟨b, off + h' * m', none⟩) 0 (c - h')) ?_ ?_
                  · simp only [Rep]
                    refine ⟨fun id e => (by cases e), .inr ?_⟩
                    by_cases hc : c = h'
                    · rw [if_pos hc]; exact ⟨_, _, rfl, fun _ => rfl, Nat.zero_le _, fun e => (by cases e), by simp [Elems]⟩
                    · rw [if_neg hc]; exact ⟨_, _, rfl, fun _ => rfl, Nat.zero_le _, fun e => (by cases e), by simp [Elems]⟩
                  · by_cases hc : c = h'
                    · subst hc; simp [execOp, ho, e1, Instr.sliceAt, r_under hd, Instr.slice, hr, r_size hsize]
                    · simp [execOp, ho, e1, Instr.sliceAt, r_under hd, Instr.slice, hr, r_size hsize, hc, add_none]
    · cases h

theorem did_sliceArr {n m : Nat} {y : AX} {lo hi : Option AX} (hf : opFits P gl o.op (.sliceArr n m y lo hi) = true) (h : opA (.sliceArr n m y lo hi) e st = some (.val v st')) :
    Did P K base J (execOp a.eval o) w v st' := by
  cases ho : o.op <;> simp only [ho, opFits, Bool.false_eq_true] at hf
  rename_i t x l hh mx
  cases mx <;> simp only [Bool.false_eq_true] at hf
  simp only [Bool.and_eq_true] at hf
  obtain ⟨⟨⟨hk, hx⟩, hl⟩, hhi⟩ := hf
  have h1 := xFits_rep hE hG hx
  simp only [opA] at h
  cases hy : y.ev e <;> simp only [hy] at h <;> try (cases h; done)
  rename_i r off
  rw [hy] at h1; simp only [Rep] at h1
  obtain ⟨b, hb, e1⟩ := h1
  cases b1 : bound (hi.map (AX.ev e)) n n with
  | none => simp [b1] at h
  | some h' =>
    simp only [b1, Option.bind_some] at h
    cases b2 : bound (lo.map (AX.ev e)) 0 h' with
    | none => simp [b2] at h
    | some l' =>
      simp only [b2, Option.bind_some] at h
      obtain ⟨hr, hle, htop⟩ := r_bounds (P := P) (w := w) (isSlice := false) hE hG hl hhi (Nat.le_refl _) (Nat.le_refl _) b1 b2
      have hhc : h' ≤ n := by omega
      have hrun : (execOp a.eval o).run P w = .ok (.value (.slice (some (if n = l' then ⟨b, off, none⟩ else ⟨b, off + l' * m, none⟩)) (h' - l') (n - l'))) w := by
        split at hk
        · rename_i n' el hd
          simp only [Bool.and_eq_true, beq_iff_eq] at hk
          obtain ⟨rfl, hsize⟩ := hk
          by_cases hc : n' = l'
          · subst hc; simp [execOp, ho, e1, Instr.sliceAt, r_under hd, Instr.sureAddr, hr, r_size hsize]
          · simp [execOp, ho, e1, Instr.sliceAt, r_under hd, Instr.sureAddr, hr, r_size hsize, hc, add_none]
        · rename_i ar hd
          split at hk
          · rename_i n' el hd'
            simp only [Bool.and_eq_true, beq_iff_eq] at hk
            obtain ⟨rfl, hsize⟩ := hk
            by_cases hc : n' = l'
            · subst hc; simp [execOp, ho, e1, Instr.sliceAt, r_under hd, Instr.slice, asAddr, r_under hd', hr, r_size hsize]
            · simp [execOp, ho, e1, Instr.sliceAt, r_under hd, Instr.slice, asAddr, r_under hd', hr, r_size hsize, hc, add_none]
          · cases hk
        · cases hk
      split at h
      · rename_i hlt
        simp only [Option.some.injEq, Nx.val.injEq] at h
        obtain ⟨rfl, rfl⟩ := h
        have hne : ¬ n = l' := by omega
        rw [if_neg hne] at hrun
        refine Did.same hS ?_ hrun
        simp only [Rep]; exact ⟨b, n - l', hb, rfl, by omega, fun k e => by cases e; rfl⟩
      · simp only [Option.some.injEq, Nx.val.injEq] at h
        obtain ⟨rfl, rfl⟩ := h
        have hcl : n = l' := by omega
        have hhl : h' = l' := by omega
        refine Did.same hS ?_ hrun
        simp only [Rep]
        refine ⟨fun id e => (by cases e), .inr ⟨if n = l' then ⟨b, off, none⟩ else ⟨b, off + l' * m, none⟩, n - l', by simp; omega, fun _ => by split <;> rfl, Nat.zero_le _, fun _ => by simp; omega, by simp [Elems]⟩⟩
end
end Go.Proofs.YtfkmdajlpnkebaaDoor.Ai
