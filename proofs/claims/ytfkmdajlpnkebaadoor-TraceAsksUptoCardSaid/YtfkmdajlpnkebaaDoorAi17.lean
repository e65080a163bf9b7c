/- What a call leaves behind it: what it made itself is forgotten, or stays as it is. No condition. -/
import Derived.Test.YtfkmdajlpnkebaaDoorAi16
namespace Go.Proofs.YtfkmdajlpnkebaaDoor.Ai
open Go

structure Inj.leN (n : Nat) (J J' : Inj) : Prop where
  ρ : ∀ r b, r < n → J.ρ r = some b → J'.ρ r = some b
  τ : ∀ i k v, i < n → J.τ i k = some v → J'.τ i k = some v
  im : ∀ b o v, J.im b o = some v → J'.im b o = some v

mutual
theorem Rep.low {J J' : Inj} {n : Nat} (h : J.leN n J') : ∀ (v : AV) (x : Value), Rep J v x → AV.lowB n v = true → Rep J' v x
  | .bool _, _, r, _ => by simpa [Rep] using r
  | .int _ _, _, r, _ => by simpa [Rep] using r
  | .str _, _, r, _ => by simpa [Rep] using r
  | .nilFunc, _, r, _ => by simpa [Rep] using r
  | .nilIface, _, r, _ => by simpa [Rep] using r
  | .nilPtr, _, r, _ => by simpa [Rep] using r
  | .nilMap, _, r, _ => by simpa [Rep] using r
  | .nilSl, _, r, _ => by simpa [Rep] using r
  | .agg cs, x, r, l => by
    simp only [Rep] at r ⊢; simp only [AV.lowB] at l; obtain ⟨arr, e, h1, h2⟩ := r; exact ⟨arr, e, Reps.low h cs _ h1 l, h2⟩
  | .tup vs, x, r, l => by
    simp only [Rep] at r ⊢; simp only [AV.lowB] at l; obtain ⟨arr, e, h1⟩ := r; exact ⟨arr, e, Reps.low h vs _ h1 l⟩
  | .func fn a b, x, r, l => by
    simp only [AV.lowB, Bool.and_eq_true] at l
    cases fn with
    | func f => simp only [Rep] at r ⊢; obtain ⟨a', b', e, h1, h2⟩ := r; exact ⟨a', b', e, Reps.low h a _ h1 l.1.2, Reps.low h b _ h2 l.2⟩
    | yield q => simp only [Rep] at r ⊢; obtain ⟨e1, e2, l', h1, e⟩ := r; exact ⟨e1, e2, l', h.ρ _ _ (by simpa using l.1.1) h1, e⟩
    | method n => simp only [Rep] at r
    | methodOf t n => simp only [Rep] at r
    | via t p f q => simp only [Rep] at r
  | .iface t v, x, r, l => by
    simp only [Rep] at r ⊢; simp only [AV.lowB] at l; obtain ⟨y, e, h1⟩ := r; exact ⟨y, e, Rep.low h v _ h1 l⟩
  | .lst m es ap, x, r, l => by
    simp only [Rep] at r ⊢
    simp only [AV.lowB, Bool.and_eq_true] at l
    obtain ⟨h1, h2⟩ := r
    refine ⟨fun id e => h.τ _ _ _ (by subst e; simpa using l.2) (h1 id e), ?_⟩
    rcases h2 with h2 | ⟨a, cap, e, h3, h4, h5, h6⟩
    · exact .inl h2
    · exact .inr ⟨a, cap, e, h3, h4, h5, Elems.low h m es _ _ h6 l.1⟩
  | .sl r _ off len cap, x, q, l => by
    simp only [Rep] at q ⊢; simp only [AV.lowB, decide_eq_true_eq] at l; obtain ⟨b, c, h1, h2⟩ := q; exact ⟨b, c, h.ρ _ _ l h1, h2⟩
  | .ptr r off, x, q, l => by
    simp only [Rep] at q ⊢; simp only [AV.lowB, decide_eq_true_eq] at l; obtain ⟨b, h1, h2⟩ := q; exact ⟨b, h.ρ _ _ l h1, h2⟩
  | .map r, x, q, l => by
    simp only [Rep] at q ⊢; simp only [AV.lowB, decide_eq_true_eq] at l; obtain ⟨b, h1, h2⟩ := q; exact ⟨b, h.ρ _ _ l h1, h2⟩
  | .iptr v, x, r, l => by
    simp only [Rep] at r ⊢; simp only [AV.lowB] at l; obtain ⟨a, y, e, h1, h2, h3, h4⟩ := r
    exact ⟨a, y, e, h1, Rep.low h v _ h2 l, h3, fun i v hv => h.im _ _ _ (h4 i v hv)⟩
theorem Reps.low {J J' : Inj} {n : Nat} (h : J.leN n J') : ∀ (vs : List AV) (xs : List Value), Reps J vs xs → AV.lowsB n vs = true → Reps J' vs xs
  | [], _, r, _ => by simpa [Reps] using r
  | v :: vs, xs, r, l => by
    simp only [AV.lowsB, Bool.and_eq_true] at l
    simp only [Reps] at r ⊢; obtain ⟨y, ys, e, h1, h2⟩ := r; exact ⟨y, ys, e, Rep.low h v _ h1 l.1, Reps.low h vs _ h2 l.2⟩
theorem Elems.low {J J' : Inj} {n : Nat} (h : J.leN n J') (m : Nat) : ∀ (es : List AV) (b o : Nat), Elems J m es b o → AV.lowsB n es = true → Elems J' m es b o
  | [], _, _, _, _ => by simp [Elems]
  | e :: es, b, o, r, l => by
    simp only [AV.lowsB, Bool.and_eq_true] at l
    simp only [Elems] at r ⊢
    obtain ⟨⟨y, h1, h2, h3, h4⟩, h5⟩ := r
    exact ⟨⟨y, Rep.low h e _ h1 l.1, h2, h3, fun i v hv => h.im _ _ _ (h4 i v hv)⟩, Elems.low h m es _ _ h5 l.2⟩
end

theorem lowsB_mem {n : Nat} : ∀ {vs : List AV}, AV.lowsB n vs = true → ∀ v ∈ vs, AV.lowB n v = true
  | [], _, v, h => by simp at h
  | u :: vs, h, v, hv => by
    simp only [AV.lowsB, Bool.and_eq_true] at h
    rcases List.mem_cons.1 hv with rfl | hv
    · exact h.1
    · exact lowsB_mem h.2 v hv

theorem lowsB_of {n : Nat} : ∀ {vs : List AV}, (∀ v ∈ vs, AV.lowB n v = true) → AV.lowsB n vs = true
  | [], _ => rfl
  | u :: vs, h => by
    simp only [AV.lowsB, Bool.and_eq_true]
    exact ⟨h u (by simp), lowsB_of fun v hv => h v (by simp [hv])⟩

section
variable {K : Sites} {base : World} {J : Inj} {st : St} {w : World} {n : Nat}

open Classical in
/-- What is left of the names: those below n; and what lies in blocks of cells above stays. -/
noncomputable def Inj.cut (J : Inj) (st : St) (w : World) (n : Nat) : Inj :=
  { ρ := fun r => if r < n then J.ρ r else none
    τ := fun i k => if i < n then J.τ i k else none
    im := fun b o => if ∃ r ty cs, n ≤ r ∧ st[r]? = some (AObj.cells ty cs) ∧ J.ρ r = some b then w.cell? ⟨b, o, none⟩ else J.im b o }

theorem Sim.cut_leN (h : Sim K base J st w) : J.leN n (J.cut st w n) := by
  refine ⟨fun r b hr e => by simp [Inj.cut, hr, e], fun i k v hi e => by simp [Inj.cut, hi, e], fun b o v e => ?_⟩
  simp only [Inj.cut]
  split
  · rename_i hh
    obtain ⟨r, ty, cs, _, hst, hb⟩ := hh
    exact absurd e (h.noIm r _ b hst hb rfl o v)
  · exact e

theorem DefReps.low {J' : Inj} (hJ : J.leN n J') : ∀ {l : List ADef} {l' : List Deferred}, DefReps J l l' → (∀ d ∈ l, ADef.lowB n d = true) → DefReps J' l l'
  | [], _, hd, _ => hd
  | d :: ds, _, ⟨y, ys, e, hd1, hd2⟩, hl => by
    refine ⟨y, ys, e, ?_, DefReps.low hJ hd2 (fun x hx => hl x (List.mem_cons_of_mem _ hx))⟩
    have := hl d (List.mem_cons_self ..)
    cases d with
    | collected q => obtain ⟨b', hb', e'⟩ := hd1; exact ⟨b', hJ.ρ _ _ (by simpa [ADef.lowB] using this) hb', e'⟩
    | call f args => obtain ⟨cap, e', hr'⟩ := hd1; exact ⟨cap, e', Reps.low hJ _ _ hr' this⟩

theorem ObjSim.low {r : Nat} {o : AObj} {J' : Inj} (hJ : J.leN n J') (hr : r < n) (h : ObjSim K J w r o) (hl : AObj.lowB n o = true)
    (him : ∀ b, ownB J r o = some b → o.isTok = true → ∀ k v, J'.im b k = some v → J.im b k = some v) : ObjSim K J' w r o := by
  cases o with
  | dead => trivial
  | cells cs => obtain ⟨b, c, t, h1, h2, h3, h4, h5⟩ := h; exact ⟨b, c, t, hJ.ρ _ _ hr h1, h2, h3, Reps.low hJ _ _ h4 hl, h5⟩
  | tok m k ty =>
    rcases h with ⟨h1, s, h2⟩ | ⟨a, cap, c, t, h1, h2, h0, h3, h4, h5, h6, h7⟩
    · exact .inl ⟨h1, s, hJ.τ _ _ _ hr h2⟩
    · have hb : ownB J r (.tok m k ty) = some a.block := by simp [ownB, h1]; omega
      exact .inr ⟨a, cap, c, t, hJ.τ _ _ _ hr h1, h2, h0, h3, h4, h5, fun k v hk e => h6 k v hk (him _ hb rfl k v e), h7⟩
  | map es =>
    obtain ⟨b, c, t, h1, h2, h3⟩ := h
    refine ⟨b, c, t, hJ.ρ _ _ hr h1, h2, h3.1, fun i e he => ?_⟩
    obtain ⟨x, hx, r1, r2⟩ := h3.2 i e he
    simp only [AObj.lowB, List.all_eq_true, Bool.and_eq_true] at hl
    have := hl e (List.mem_of_getElem? he)
    exact ⟨x, hx, Rep.low hJ _ _ r1 this.1, Rep.low hJ _ _ r2 this.2⟩
  | loop s p f site ps env d =>
    obtain ⟨b, l, h1, h2, h3, h4, h6, h7, h8, h9⟩ := h
    simp only [AObj.lowB, Bool.and_eq_true, decide_eq_true_eq] at hl
    exact ⟨b, l, hJ.ρ _ _ hr h1, h2, h3, h4, h6, h7, Reps.low hJ _ _ h8 hl.1, hJ.ρ _ _ hl.2 h9⟩
  | defr cs =>
    obtain ⟨b, ds, h1, h2, h3⟩ := h
    refine ⟨b, ds, hJ.ρ _ _ hr h1, h2, ?_⟩
    cases cs with
    | none => exact h3
    | some l =>
      obtain ⟨l', e, hd⟩ := h3
      refine ⟨l', e, ?_⟩
      simp only [AObj.lowB, List.all_eq_true] at hl
      exact DefReps.low hJ hd hl

theorem ownB_cut (J : Inj) (st : St) (w : World) {r : Nat} {o : AObj} (hr : r < n) : ownB (J.cut st w n) r o = ownB J r o := by
  cases o <;> simp [ownB, Inj.cut, hr]

theorem Sim.cut (h : Sim K base J st w) (hl : (st.take n).all (AObj.lowB n) = true) : Sim K base (J.cut st w n) (st.take n) w := by
  have hle := h.cut_leN (n := n)
  have hget : ∀ (r : Nat) x, (st.take n)[r]? = some x → r < n ∧ st[r]? = some x := by
    intro r x e
    rw [List.getElem?_take] at e
    split at e
    · rename_i hh; exact ⟨hh, e⟩
    · cases e
  -- a block of an object below n is none of those that stay
  have hsep : ∀ (r : Nat) x b, r < n → st[r]? = some x → ownB J r x = some b → ∀ k, (J.cut st w n).im b k = J.im b k := by
    intro r x b hr hx hb k
    simp only [Inj.cut]
    rw [if_neg]
    rintro ⟨r', ty, cs, hr', hst, hb'⟩
    have := (h.own r x b hx hb).2.2 r' _ hst hb'
    omega
  refine ⟨h.os, h.output, h.size, h.old, fun b o v e => ?_, fun r b e => ?_, fun i k v e => ?_, fun r x e => ?_, fun r x b e e' => ?_, fun r x b e e' ht k v hv => ?_⟩
  · simp only [Inj.cut] at e
    split at e
    · exact e
    · exact h.imOk b o v e
  · simp only [Inj.cut] at e
    split at e
    · rename_i hh
      have := h.ρlt r b e
      exact ⟨by simp; omega, this.2⟩
    · cases e
  · simp only [Inj.cut] at e
    split at e
    · rename_i hh
      obtain ⟨h1, h2⟩ := h.τlt i k v e
      refine ⟨by simp; omega, fun m l ty' e' => h2 m l ty' (hget i _ e').2⟩
    · cases e
  · obtain ⟨hr, hx⟩ := hget r x e
    rw [List.all_eq_true] at hl
    exact (h.obj r x hx).low hle hr (hl x (List.mem_of_getElem? e)) (fun b hb _ k v hv => by rw [hsep r x b hr hx hb] at hv; exact hv)
  · obtain ⟨hr, hx⟩ := hget r x e
    rw [ownB_cut J st w hr] at e'
    obtain ⟨h1, h2, h3⟩ := h.own r x b hx e'
    refine ⟨h1, h2, fun r' x' e3 e4 => ?_⟩
    obtain ⟨hr', hx'⟩ := hget r' x' e3
    rw [ownB_cut J st w hr'] at e4
    exact h3 r' x' hx' e4
  · obtain ⟨hr, hx⟩ := hget r x e
    rw [ownB_cut J st w hr] at e'
    rw [hsep r x b hr hx e'] at hv
    exact h.noIm r x b hx e' ht k v hv

mutual
theorem still_rep (h : Sim K base J st w) : ∀ (v v' : AV) (x : Value), AV.still n st v = some v' → Rep J v x → Rep (J.cut st w n) v' x
  | .agg cs, v', x, e, r => by
    simp only [AV.still, Option.map_eq_some_iff] at e
    obtain ⟨cs', e, rfl⟩ := e
    simp only [Rep] at r ⊢
    obtain ⟨arr, rfl, h1, h2⟩ := r
    exact ⟨arr, rfl, stills_reps h cs cs' _ e h1, stills_cell cs cs' e h2⟩
  | .tup vs, v', x, e, r => by
    simp only [AV.still, Option.map_eq_some_iff] at e
    obtain ⟨cs', e, rfl⟩ := e
    simp only [Rep] at r ⊢
    obtain ⟨arr, rfl, h1⟩ := r
    exact ⟨arr, rfl, stills_reps h vs cs' _ e h1⟩
  | .lst m es ap, v', x, e, r => by
    simp only [AV.still, Option.map_eq_some_iff] at e
    obtain ⟨es', e, rfl⟩ := e
    have hlen := stills_length es es' e
    simp only [Rep] at r ⊢
    obtain ⟨h1, h2⟩ := r
    refine ⟨fun id hid => ?_, ?_⟩
    · cases ap with
      | no => simp at hid
      | tight => simp at hid
      | tok i =>
        simp only [] at hid
        split at hid
        · rename_i hi
          cases hid
          rw [hlen]
          exact (h.cut_leN (n := n)).τ _ _ _ hi (h1 _ rfl)
        · cases hid
    · rcases h2 with ⟨rfl, rfl⟩ | ⟨a, cap, rfl, h3, h4, h5, h6⟩
      · simp [AV.stills] at e; subst e
        exact .inl ⟨rfl, rfl⟩
      · refine .inr ⟨a, cap, by rw [hlen], h3, by rw [hlen]; exact h4, fun ht => ?_, stills_elems h m es es' _ _ e h6⟩
        rw [hlen]
        cases ap with
        | tight => exact h5 rfl
        | no => simp at ht
        | tok i => simp only [] at ht; split at ht <;> cases ht
  | .sl r m off len cap, v', x, e, q => by
    simp only [AV.still] at e
    split at e
    · rename_i hr
      cases e
      simp only [Rep] at q ⊢
      obtain ⟨b, c, h1, h2⟩ := q
      exact ⟨b, c, (h.cut_leN (n := n)).ρ _ _ hr h1, h2⟩
    · rename_i hr
      cases hst : st[r]? with
      | none => simp [hst] at e
      | some ob =>
        cases ob <;> simp only [hst] at e <;> try (cases e; done)
        rename_i ty cs
        split at e
        · rename_i hh
          obtain ⟨hle, hlow⟩ := hh
          cases e
          simp only [Rep] at q
          obtain ⟨b, c, hb, rfl, hlc, hcap⟩ := q
          obtain ⟨b', cc, tt, q1, ⟨fr, q2, qfr⟩, q3, q4, q5, _⟩ := h.obj r _ hst
          rw [hb] at q1; cases q1
          have q4' := Reps.low (h.cut_leN (n := n)) _ _ q4 hlow
          have hck := Chunks.of_group (J := J.cut st w n) (m := m) (agg := m != 1) (by simp) len (q4'.drop off) (by rw [List.all_eq_true] at q5 ⊢; exact fun z hz => q5 z (List.mem_of_mem_drop hz)) (by simp; omega)
          have hgl := group_length m (m != 1) len (cs.drop off)
          simp only [Rep]
          refine ⟨fun id e => (by cases e), .inr ⟨⟨b, off, none⟩, c, by rw [hgl], fun _ => rfl, by rw [hgl]; exact hlc, fun e => (by cases e), ?_⟩⟩
          refine Elems.of_chunks hck (fun i v hv => ?_)
          simp only [Inj.cut]
          rw [if_pos ⟨r, ty, cs, by omega, hst, hb⟩, cell_of_heap q2]
          rw [List.getElem?_take] at hv
          split at hv
          · rw [List.getElem?_drop, List.getElem?_take] at hv
            split at hv
            · simpa using hv
            · cases hv
          · cases hv
        · cases e
  | .bool b, v', x, e, r => by simp [AV.still, AV.lowB] at e; subst e; exact Rep.low (h.cut_leN (n := n)) _ _ r rfl
  | .int k i, v', x, e, r => by simp [AV.still, AV.lowB] at e; subst e; exact Rep.low (h.cut_leN (n := n)) _ _ r rfl
  | .str s, v', x, e, r => by simp [AV.still, AV.lowB] at e; subst e; exact Rep.low (h.cut_leN (n := n)) _ _ r rfl
  | .func f a b, v', x, e, r => by
    simp only [AV.still] at e
    split at e
    · rename_i hl; cases e; exact Rep.low (h.cut_leN (n := n)) _ _ r hl
    · cases e
  | .nilFunc, v', x, e, r => by simp [AV.still, AV.lowB] at e; subst e; exact Rep.low (h.cut_leN (n := n)) _ _ r rfl
  | .iface t u, v', x, e, r => by
    simp only [AV.still] at e
    split at e
    · rename_i hl; cases e; exact Rep.low (h.cut_leN (n := n)) _ _ r hl
    · cases e
  | .nilIface, v', x, e, r => by simp [AV.still, AV.lowB] at e; subst e; exact Rep.low (h.cut_leN (n := n)) _ _ r rfl
  | .ptr q off, v', x, e, r => by
    simp only [AV.still] at e
    split at e
    · rename_i hl; cases e; exact Rep.low (h.cut_leN (n := n)) _ _ r hl
    · cases e
  | .iptr u, v', x, e, r => by
    simp only [AV.still] at e
    split at e
    · rename_i hl; cases e; exact Rep.low (h.cut_leN (n := n)) _ _ r hl
    · cases e
  | .nilPtr, v', x, e, r => by simp [AV.still, AV.lowB] at e; subst e; exact Rep.low (h.cut_leN (n := n)) _ _ r rfl
  | .map q, v', x, e, r => by
    simp only [AV.still] at e
    split at e
    · rename_i hl; cases e; exact Rep.low (h.cut_leN (n := n)) _ _ r hl
    · cases e
  | .nilMap, v', x, e, r => by simp [AV.still, AV.lowB] at e; subst e; exact Rep.low (h.cut_leN (n := n)) _ _ r rfl
  | .nilSl, v', x, e, r => by simp [AV.still, AV.lowB] at e; subst e; exact Rep.low (h.cut_leN (n := n)) _ _ r rfl
theorem stills_reps (h : Sim K base J st w) : ∀ (vs vs' : List AV) (xs : List Value), AV.stills n st vs = some vs' → Reps J vs xs → Reps (J.cut st w n) vs' xs
  | [], vs', xs, e, r => by simp [AV.stills] at e; subst e; simpa [Reps] using r
  | v :: vs, vs', xs, e, r => by
    simp only [AV.stills] at e
    split at e
    · rename_i u us e1 e2
      cases e
      simp only [Reps] at r ⊢
      obtain ⟨y, ys, rfl, h1, h2⟩ := r
      exact ⟨y, ys, rfl, still_rep h v u _ e1 h1, stills_reps h vs us _ e2 h2⟩
    · cases e
theorem stills_length : ∀ (vs vs' : List AV), AV.stills n st vs = some vs' → vs'.length = vs.length
  | [], vs', e => by simp [AV.stills] at e; subst e; rfl
  | v :: vs, vs', e => by
    simp only [AV.stills] at e
    split at e
    · rename_i u us e1 e2
      cases e
      simp [stills_length vs us e2]
    · cases e
theorem stills_cell : ∀ (vs vs' : List AV), AV.stills n st vs = some vs' → vs.all AV.isCell = true → vs'.all AV.isCell = true
  | [], vs', e, _ => by simp [AV.stills] at e; subst e; rfl
  | v :: vs, vs', e, hc => by
    simp only [AV.stills] at e
    simp only [List.all_cons, Bool.and_eq_true] at hc
    split at e
    · rename_i u us e1 e2
      cases e
      simp only [List.all_cons, Bool.and_eq_true]
      exact ⟨still_cell v u e1 hc.1, stills_cell vs us e2 hc.2⟩
    · cases e
theorem still_cell : ∀ (v v' : AV), AV.still n st v = some v' → v.isCell = true → v'.isCell = true
  | .agg _, _, _, hc => by simp [AV.isCell] at hc
  | .tup _, _, _, hc => by simp [AV.isCell] at hc
  | .lst m es ap, v', e, _ => by
    simp only [AV.still, Option.map_eq_some_iff] at e
    obtain ⟨es', _, rfl⟩ := e; rfl
  | .sl r m off len cap, v', e, _ => by
    simp only [AV.still] at e
    split at e
    · cases e; rfl
    · split at e
      · split at e
        · cases e; rfl
        · cases e
      · cases e
  | .bool b, v', e, _ => by simp [AV.still, AV.lowB] at e; subst e; rfl
  | .int k i, v', e, _ => by simp [AV.still, AV.lowB] at e; subst e; rfl
  | .str s, v', e, _ => by simp [AV.still, AV.lowB] at e; subst e; rfl
  | .func f a b, v', e, _ => by simp only [AV.still] at e; split at e; cases e; rfl; cases e
  | .nilFunc, v', e, _ => by simp [AV.still, AV.lowB] at e; subst e; rfl
  | .iface t u, v', e, _ => by simp only [AV.still] at e; split at e; cases e; rfl; cases e
  | .nilIface, v', e, _ => by simp [AV.still, AV.lowB] at e; subst e; rfl
  | .ptr q off, v', e, _ => by simp only [AV.still] at e; split at e; cases e; rfl; cases e
  | .iptr u, v', e, _ => by simp only [AV.still] at e; split at e; cases e; rfl; cases e
  | .nilPtr, v', e, _ => by simp [AV.still, AV.lowB] at e; subst e; rfl
  | .map q, v', e, _ => by simp only [AV.still] at e; split at e; cases e; rfl; cases e
  | .nilMap, v', e, _ => by simp [AV.still, AV.lowB] at e; subst e; rfl
  | .nilSl, v', e, _ => by simp [AV.still, AV.lowB] at e; subst e; rfl
theorem stills_elems (h : Sim K base J st w) (m : Nat) : ∀ (es es' : List AV) (b o : Nat), AV.stills n st es = some es' → Elems J m es b o → Elems (J.cut st w n) m es' b o
  | [], es', b, o, e, _ => by simp [AV.stills] at e; subst e; simp [Elems]
  | v :: vs, es', b, o, e, r => by
    simp only [AV.stills] at e
    split at e
    · rename_i u us e1 e2
      cases e
      simp only [Elems] at r ⊢
      obtain ⟨⟨y, h1, h2, h3, h4⟩, h5⟩ := r
      refine ⟨⟨y, still_rep h v u _ e1 h1, still_var v u e1 h2, h3, fun i z hz => (h.cut_leN (n := n)).im _ _ _ (h4 i z hz)⟩, stills_elems h m vs us _ _ e2 h5⟩
    · cases e
theorem still_var : ∀ (v v' : AV), AV.still n st v = some v' → v.isVar = true → v'.isVar = true
  | .tup _, _, _, hc => by simp [AV.isVar] at hc
  | .agg cs, v', e, _ => by
    simp only [AV.still, Option.map_eq_some_iff] at e
    obtain ⟨es', _, rfl⟩ := e; rfl
  | .lst m es ap, v', e, _ => by
    simp only [AV.still, Option.map_eq_some_iff] at e
    obtain ⟨es', _, rfl⟩ := e; rfl
  | .sl r m off len cap, v', e, _ => by
    simp only [AV.still] at e
    split at e
    · cases e; rfl
    · split at e
      · split at e
        · cases e; rfl
        · cases e
      · cases e
  | .bool b, v', e, _ => by simp [AV.still, AV.lowB] at e; subst e; rfl
  | .int k i, v', e, _ => by simp [AV.still, AV.lowB] at e; subst e; rfl
  | .str s, v', e, _ => by simp [AV.still, AV.lowB] at e; subst e; rfl
  | .func f a b, v', e, _ => by simp only [AV.still] at e; split at e; cases e; rfl; cases e
  | .nilFunc, v', e, _ => by simp [AV.still, AV.lowB] at e; subst e; rfl
  | .iface t u, v', e, _ => by simp only [AV.still] at e; split at e; cases e; rfl; cases e
  | .nilIface, v', e, _ => by simp [AV.still, AV.lowB] at e; subst e; rfl
  | .ptr q off, v', e, _ => by simp only [AV.still] at e; split at e; cases e; rfl; cases e
  | .iptr u, v', e, _ => by simp only [AV.still] at e; split at e; cases e; rfl; cases e
  | .nilPtr, v', e, _ => by simp [AV.still, AV.lowB] at e; subst e; rfl
  | .map q, v', e, _ => by simp only [AV.still] at e; split at e; cases e; rfl; cases e
  | .nilMap, v', e, _ => by simp [AV.still, AV.lowB] at e; subst e; rfl
  | .nilSl, v', e, _ => by simp [AV.still, AV.lowB] at e; subst e; rfl
end

/-- What a call leaves. -/
theorem settle_sim {J0 : Inj} {st0 : St} {w0 : World} {v v' : AV} {x : Value} {st' : St} (h0 : Sim K base J0 st0 w0) (hJ : J0.le J) (h : Sim K base J st w) (hs : settle st0.length v st = some (v', st')) (hr : Rep J v x) :
    ∃ J', J0.le J' ∧ Sim K base J' st' w ∧ Rep J' v' x := by
  unfold settle at hs
  split at hs
  · rename_i u hu
    split at hs
    · rename_i hl
      cases hs
      refine ⟨J.cut st w st0.length, ?_, h.cut hl, still_rep h _ _ _ hu hr⟩
      have hle := h.cut_leN (n := st0.length)
      exact ⟨fun r b e => hle.ρ _ _ (h0.ρlt r b e).1 (hJ.ρ _ _ e), fun i k v e => hle.τ _ _ _ (h0.τlt i k v e).1 (hJ.τ _ _ _ e), fun b o v e => hle.im _ _ _ (hJ.im _ _ _ e)⟩
    · cases hs
  · cases hs
end
end Go.Proofs.YtfkmdajlpnkebaaDoor.Ai
