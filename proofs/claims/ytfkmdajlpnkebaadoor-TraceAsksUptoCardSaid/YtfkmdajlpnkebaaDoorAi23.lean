/- A region whose order is open: any order that its edges allow does what the plan does: the plan's part. No condition. -/
import Derived.Test.YtfkmdajlpnkebaaDoorAi22
namespace Go.Proofs.YtfkmdajlpnkebaaDoor.Ai
open Go

def FX (bf : Array Nat) (x : AStep) : List AStep → List AStep → Prop
  | _, [] => True
  | mid, y :: ys => pairOk bf x mid y = true ∧ FX bf x (mid ++ [y]) ys

def PG (bf : Array Nat) : List AStep → Prop
  | [] => True
  | x :: rest => FX bf x [] rest ∧ PG bf rest

theorem FX.of {bf : Array Nat} {x : AStep} : ∀ {ys mid : List AStep}, fromX bf x mid ys = true → FX bf x mid ys
  | [], _, _ => trivial
  | y :: ys, mid, h => by
    simp only [fromX, Bool.and_eq_true] at h
    exact ⟨h.1, FX.of h.2⟩

theorem PG.of {bf : Array Nat} : ∀ {l : List AStep}, planPairs bf l = true → PG bf l
  | [], _ => trivial
  | x :: rest, h => by
    simp only [planPairs, Bool.and_eq_true] at h
    exact ⟨FX.of h.1, PG.of h.2⟩

theorem pairOk_mono {bf : Array Nat} {x y : AStep} {mid mid' : List AStep} (hs : ∀ z ∈ mid', z ∈ mid) (h : pairOk bf x mid y = true) : pairOk bf x mid' y = true := by
  simp only [pairOk, Bool.and_eq_true, Bool.or_eq_true] at h ⊢
  refine ⟨?_, h.2⟩
  rcases h.1 with h1 | ⟨h1, h2⟩
  · exact .inl h1
  · refine .inr ⟨h1, ?_⟩
    rw [List.all_eq_true] at h2 ⊢
    intro z hz
    rcases List.mem_append.1 hz with hz | hz
    · exact h2 z (List.mem_append_left _ (hs z hz))
    · exact h2 z (List.mem_append_right _ hz)

theorem FX.mono {bf : Array Nat} {x : AStep} : ∀ {ys mid mid' : List AStep}, (∀ z ∈ mid', z ∈ mid) → FX bf x mid ys → FX bf x mid' ys
  | [], _, _, _, _ => trivial
  | y :: ys, mid, mid', hs, h => ⟨pairOk_mono hs h.1, FX.mono (fun z hz => by
      rcases List.mem_append.1 hz with hz | hz
      · exact List.mem_append_left _ (hs z hz)
      · exact List.mem_append_right _ hz) h.2⟩

theorem FX.remove {bf : Array Nat} {x s : AStep} : ∀ {ys mid post : List AStep}, FX bf x mid (ys ++ s :: post) → FX bf x mid (ys ++ post)
  | [], _, _, h => FX.mono (fun _ hz => List.mem_append_left _ hz) h.2
  | _ :: ys, _, _, h => ⟨h.1, FX.remove (ys := ys) h.2⟩

theorem FX.get {bf : Array Nat} {x s : AStep} : ∀ {ys mid post : List AStep}, FX bf x mid (ys ++ s :: post) → pairOk bf x (mid ++ ys) s = true
  | [], _, _, h => by simpa using h.1
  | y :: ys, mid, post, h => by
    have := FX.get (ys := ys) h.2
    simpa using this

theorem PG.remove {bf : Array Nat} {s : AStep} : ∀ {pre post : List AStep}, PG bf (pre ++ s :: post) → PG bf (pre ++ post)
  | [], _, h => h.2
  | _ :: pre, _, h => ⟨FX.remove (ys := pre) h.1, PG.remove (pre := pre) h.2⟩

structure PlanG (bf : Array Nat) (all L : List AStep) : Prop where
  pair : PG bf L
  re : ∀ s ∈ L, s.o.op.cls = 2 ∨ s.re = []
  uniq : ∀ s ∈ L, (all.find? fun q => q.i == s.i) = some s

theorem PlanG.remove {bf : Array Nat} {all pre post : List AStep} {s : AStep} (h : PlanG bf all (pre ++ s :: post)) : PlanG bf all (pre ++ post) :=
  ⟨PG.remove h.pair, fun x hx => h.re x (by simp at hx ⊢; rcases hx with hx | hx <;> simp [hx]), fun x hx => h.uniq x (by simp at hx ⊢; rcases hx with hx | hx <;> simp [hx])⟩

theorem setDst_comm {d d' : Option Nat} {e : Env} {v v' : AV} (h : ∀ t, d = some t → d' ≠ some t) : setDst d (setDst d' e v') v = setDst d' (setDst d e v) v' := by
  cases d with
  | none => rfl
  | some t =>
    cases d' with
    | none => rfl
    | some t' =>
      simp only [setDst]
      exact List.set_comm v' v (fun hh => h t rfl (by rw [hh]))

theorem writes_false {z x : AOper} (h : z.writes x = false) : ∀ t, z.dst = some t → t ∉ x.names := by
  intro t ht
  unfold AOper.writes at h
  rw [ht] at h
  simpa using h

theorem dst_names {x : AOper} {t : Nat} (h : x.dst = some t) : t ∈ x.names := by simp [AOper.names, h]

section
variable {g : Task → St → Option Res} {bf : Array Nat} {all : List AStep}

theorem doOp_val {o : AOper} {e : Env} {d : List ADef} {st st' : St} {v : AV} (hw : wantedA o.guard e = some true) (ho : opA o.op e st = some (.val v st')) : doOp g o ⟨e, d⟩ st = some ⟨.nrm, ⟨setDst o.dst e v, d⟩, st'⟩ := by
  simp [doOp, hw, ho]

theorem doOp_not {o : AOper} {e : Env} {d : List ADef} {st : St} (hw : wantedA o.guard e = some false) : doOp g o ⟨e, d⟩ st = some ⟨.nrm, ⟨setDst o.dst e .undef, d⟩, st⟩ := by
  simp [doOp, hw]

/-- A step may be done ahead of those that it does not hang on. -/
theorem move : ∀ (pre : List AStep) (x : AStep) (post : List AStep) (e : Env) (d : List ADef) (st : St) (r : Res), PlanG bf all (pre ++ x :: post) → (∀ p ∈ pre, (bf.getD x.i 0).testBit p.i = false) →
    doSteps g all (pre ++ x :: post) ⟨e, d⟩ st = some r →
    (∃ v d1 st1, doOp g x.o ⟨e, d⟩ st = some ⟨.nrm, ⟨setDst x.o.dst e v, d1⟩, st1⟩ ∧ doSteps g all (pre ++ post) ⟨setDst x.o.dst e v, d1⟩ st1 = some r ∧
      ∃ eC dC, reAll all x.re ⟨eC, dC⟩ st1 = true ∧ ∀ t, (∀ z ∈ pre, z.o.dst ≠ some t) → eC[t]? = (setDst x.o.dst e v)[t]?) ∨
    (∃ v st1, doOp g x.o ⟨e, d⟩ st = some ⟨.pan v, ⟨e, d⟩, st1⟩ ∧ r.x = .pan v ∧ r.st = st1 ∧ r.fr.defs = d)
  | [], x, post, e, d, st, r, hP, hb, h => by
    simp only [List.nil_append, doSteps] at h ⊢
    cases hd : doOp g x.o ⟨e, d⟩ st with
    | none => simp [hd] at h
    | some q =>
      rcases doOp_congr (e' := e) ⟨fun _ _ => rfl, fun _ _ _ => rfl⟩ hd with ⟨v, d', st', rfl, _⟩ | ⟨v, st', rfl, _⟩
      · simp only [hd] at h
        split at h
        · rename_i hre
          exact .inl ⟨v, d', st', rfl, h, _, d', hre, fun t _ => rfl⟩
        · cases h
      · simp only [hd, Option.some.injEq] at h; subst h
        exact .inr ⟨v, st', rfl, rfl, rfl, rfl⟩
  | p :: pre, x, post, e, d, st, r, hP, hb, h => by
    simp only [List.cons_append, doSteps] at h
    have hpair := FX.get (ys := pre) hP.pair.1
    simp only [List.nil_append] at hpair
    have hnb := hb p (List.mem_cons_self ..)
    simp only [pairOk, hnb, Bool.false_or, Bool.and_eq_true, Bool.or_eq_true, Bool.not_eq_true', bne_iff_ne, beq_iff_eq] at hpair
    obtain ⟨hre, ⟨⟨hpx, hxp⟩, hpc⟩, hcase⟩ := hpair
    have hpre : p.re = [] := by
      rcases hP.re p (by simp) with h | h
      · exact absurd h hpc
      · exact h
    cases hd : doOp g p.o ⟨e, d⟩ st with
    | none => simp [hd] at h
    | some q =>
      obtain ⟨vp, rfl, hvp⟩ := doOp_quiet hpc hd
      simp only [hd, hpre, reAll, List.all_nil, if_true] at h
      have hP' : PlanG bf all (pre ++ x :: post) := ⟨hP.pair.2, fun s hs => hP.re s (by simp at hs ⊢; exact .inr hs), fun s hs => hP.uniq s (by simp at hs ⊢; exact .inr hs)⟩
      have ih := move pre x post (setDst p.o.dst e vp) d st r hP' (fun z hz => hb z (List.mem_cons_of_mem _ hz)) h
      have hag : Agree x.o (setDst p.o.dst e vp) e := Agree.write hpx
      have hcomm : ∀ v, setDst x.o.dst (setDst p.o.dst e vp) v = setDst p.o.dst (setDst x.o.dst e v) vp := fun v => setDst_comm (fun t ht hh => writes_false hpx t hh (dst_names ht))
      rcases ih with ⟨v0, d1, st1, hx, hrest, eC, dC, hreC, heC⟩ | ⟨v, st1, hx, hrx, hrs, hrd⟩
      · rcases doOp_congr hag hx with ⟨v, d', st', hq, hx'⟩ | ⟨v, st', hq, _⟩
        · simp only [Res.mk.injEq, Fr.mk.injEq, true_and] at hq
          obtain ⟨⟨henv, rfl⟩, rfl⟩ := hq
          rw [henv] at hrest heC
          refine .inl ⟨v, d1, st1, hx', ?_, eC, dC, hreC, ?_⟩
          · -- p behind x
            have hagp : Agree p.o (setDst x.o.dst e v) e := Agree.write hxp
            have hdo : doOp g p.o ⟨setDst x.o.dst e v, d1⟩ st1 = some ⟨.nrm, ⟨setDst p.o.dst (setDst x.o.dst e v) vp, d1⟩, st1⟩ := by
              rcases hvp with ⟨hw, rfl⟩ | ⟨hw, hop⟩
              · exact doOp_not (by rw [wantedA_congr hagp]; exact hw)
              · have hw' : wantedA p.o.guard (setDst x.o.dst e v) = some true := by rw [wantedA_congr hagp]; exact hw
                have same : opA p.o.op e st1 = some (.val vp st1) → doOp g p.o ⟨setDst x.o.dst e v, d1⟩ st1 = some ⟨.nrm, ⟨setDst p.o.dst (setDst x.o.dst e v) vp, d1⟩, st1⟩ :=
                  fun h => doOp_val hw' (by rw [opA_congr hagp.op]; exact h)
                rcases hcase with (hxc | hp0) | hcon
                · obtain ⟨v', hq', _⟩ := doOp_quiet hxc hx'
                  simp only [Res.mk.injEq] at hq'
                  rw [hq'.2.2] at same ⊢
                  exact same hop
                · obtain ⟨v', h1, h2⟩ := opA_pure hp0 st st1 _ hop
                  cases h1
                  exact same h2
                · rcases hre with hre | ⟨hself, hmid⟩
                  · rw [hre] at hcon; cases hcon
                  · -- it was read again
                    have hrp : reOk p.o ⟨eC, dC⟩ st1 = true := by
                      unfold reAll at hreC
                      rw [List.all_eq_true] at hreC
                      have := hreC p.i (by simpa using hcon)
                      rw [hP.uniq p (by simp)] at this
                      exact this
                    rw [List.all_eq_true] at hmid
                    have hnw : ∀ z ∈ pre ++ [x], ∀ t, z.o.dst = some t → t ∉ p.o.names := fun z hz => writes_false (by simpa using hmid z hz)
                    have hnames : ∀ t ∈ p.o.names, eC[t]? = (setDst p.o.dst e vp)[t]? := by
                      intro t ht
                      rw [heC t (fun z hz hh => hnw z (by simp [hz]) t hh ht)]
                      exact setDst_get (fun hh => hnw x (by simp) t hh ht)
                    have hagC : Agree p.o eC e := by
                      refine Agree.of fun t ht => ?_
                      have htn : t ∈ p.o.names := by
                        unfold AOper.names
                        rcases ht with ht | ⟨w, hw⟩
                        · simp [ht]
                        · simp [hw]
                      rw [hnames t htn]
                      refine setDst_get (fun hh => ?_)
                      unfold AOper.selfOk at hself
                      rw [hh] at hself
                      simp only [Bool.and_eq_true, Bool.not_eq_true'] at hself
                      rcases ht with ht | ⟨w, hw⟩
                      · have hne : p.o.op.xs ≠ [] := by rintro h0; rw [h0] at ht; simp [xTmps] at ht
                        have := hself.1
                        simp [hne, ht] at this
                      · have := hself.2
                        rw [hw] at this
                        simp at this
                    unfold reOk at hrp
                    rw [wantedA_congr hagC, hw] at hrp
                    simp only [opA_congr (st := st1) hagC.op] at hrp
                    cases hop1 : opA p.o.op e st1 with
                    | none => simp [hop1] at hrp
                    | some nx =>
                      obtain ⟨v2, rfl⟩ := opA_read hpc hop1
                      cases hdst : p.o.dst with
                      | none => simp [hop1, hdst] at hrp
                      | some dd =>
                        simp only [hop1, hdst] at hrp
                        have hv2 := beq_eq _ _ hrp
                        have hdd := hnames dd (dst_names hdst)
                        rw [hdst] at hdd
                        simp only [setDst] at hdd
                        have := doOp_val (g := g) (d := d1) hw' (st := st1) (by rw [opA_congr hagp.op]; exact hop1)
                        rw [this, hdst]
                        show some (⟨.nrm, ⟨(setDst x.o.dst e v).set dd v2, d1⟩, st1⟩ : Res) = some ⟨.nrm, ⟨(setDst x.o.dst e v).set dd vp, d1⟩, st1⟩
                        by_cases hlt : dd < e.length
                        · rw [List.getElem?_set_self hlt] at hdd
                          rw [List.getD_eq_getElem?_getD, hdd] at hv2
                          simp only [Option.getD_some] at hv2
                          rw [hv2]
                        · have hl : (setDst x.o.dst e v).length ≤ dd := by
                            have : (setDst x.o.dst e v).length = e.length := by
                              cases x.o.dst with
                              | none => rfl
                              | some t => simp [setDst]
                            omega
                          rw [List.set_eq_of_length_le hl, List.set_eq_of_length_le hl]
            simp only [List.cons_append, doSteps, hdo, hpre, reAll, List.all_nil, if_true]
            rw [← hcomm v]; exact hrest
          · intro t ht
            rw [heC t (fun z hz => ht z (List.mem_cons_of_mem _ hz)), hcomm v]
            exact setDst_get (ht p (List.mem_cons_self ..))
        · cases hq
      · rcases doOp_congr hag hx with ⟨v', d', st', hq, hx'⟩ | ⟨v', st', hq, hx'⟩
        · cases hq
        · simp only [Res.mk.injEq, AEx.pan.injEq] at hq
          obtain ⟨rfl, _, rfl⟩ := hq
          exact .inr ⟨v, st1, hx', hrx, hrs, hrd⟩
end

section
variable {P : Program} {gl : List (Nat × AV)} {g : Task → St → Option Res} {all : List AStep}

theorem path_done {ops : Array Oper} {D : List Nat} (hD : ∀ i ∈ D, ∀ k, EdgeTo ops k i → k ∈ D) : ∀ {k i : Nat}, Path ops k i → (∀ k, EdgeTo ops k i → k ∈ D) → k ∈ D := by
  intro k i hp
  induction hp with
  | one h => intro hi; exact hi _ h
  | more h _ ih => intro hi; exact ih (hD _ (hi _ h))

theorem fits_list {ops : Array Oper} : ∀ (is : List Nat), (∀ i ∈ is, ∃ (s : AStep) (o : Oper), s.i = i ∧ ops[i]? = some o ∧ operFits P gl ops o s.o = true) → ∃ as, IdxFit P gl ops is as
  | [], _ => ⟨[], rfl⟩
  | i :: is, h => by
    obtain ⟨s, o, _, h1, h2⟩ := h i (List.mem_cons_self ..)
    obtain ⟨as, ha⟩ := fits_list is (fun j hj => h j (List.mem_cons_of_mem _ hj))
    exact ⟨s.o :: as, s.o, as, o, rfl, h1, h2, ha⟩

theorem plan_run {ops : Array Oper} : ∀ (is : List Nat) (D : List Nat) (L : List AStep) (e : Env) (d : List ADef) (st : St) (r : Res), Ext ops D is → is.Nodup → (∀ i, i ∈ is ↔ ∃ s ∈ L, s.i = i) → (L.map (·.i)).Nodup →
    (∀ i ∈ D, ∀ k, EdgeTo ops k i → k ∈ D) → (∀ s ∈ L, s.i ∉ D) → PlanG (Region.before ops) all L → (∀ s ∈ L, ∃ o, ops[s.i]? = some o ∧ operFits P gl ops o s.o = true) → doSteps g all L ⟨e, d⟩ st = some r →
    ∃ as r', IdxFit P gl ops is as ∧ doOps g as ⟨e, d⟩ st = some r' ∧ r'.x = r.x ∧ r'.st = r.st ∧ r'.fr.defs = r.fr.defs ∧ ((∃ v, r.x = .pan v) ∨ r'.fr = r.fr)
  | [], D, L, e, d, st, r, _, _, hm, _, _, _, _, _, h => by
    cases L with
    | cons s L => exact absurd ((hm s.i).2 ⟨s, by simp, rfl⟩) (by simp)
    | nil =>
      simp only [doSteps, Option.some.injEq] at h; subst h
      exact ⟨[], _, rfl, rfl, rfl, rfl, rfl, .inr rfl⟩
  | i :: is, D, L, e, d, st, r, hext, hnd, hm, hLn, hD, hdis, hP, hfit, h => by
    obtain ⟨s, hs, rfl⟩ := (hm i).1 (List.mem_cons_self ..)
    obtain ⟨pre, post, rfl⟩ := List.append_of_mem hs
    obtain ⟨o, ho, hof⟩ := hfit s hs
    have hnb : ∀ p ∈ pre, ((Region.before ops).getD s.i 0).testBit p.i = false := by
      intro p hp
      cases hb : ((Region.before ops).getD s.i 0).testBit p.i with
      | false => rfl
      | true => exact absurd (path_done hD (before_path ops _ _ hb) hext.1) (hdis p (by simp [hp]))
    have hnd' := List.nodup_cons.1 hnd
    have hne : ∀ x, x ∈ pre ++ post → x.i ≠ s.i := by
      intro x hx heq
      rw [List.map_append, List.map_cons, List.nodup_append] at hLn
      obtain ⟨_, h2, h3⟩ := hLn
      rcases List.mem_append.1 hx with hx | hx
      · exact h3 x.i (List.mem_map.2 ⟨x, hx, rfl⟩) s.i (by simp) heq
      · exact (List.nodup_cons.1 h2).1 (by rw [← heq]; exact List.mem_map.2 ⟨x, hx, rfl⟩)
    rcases move pre s post e d st r hP hnb h with ⟨v, d1, st1, hx, hrest, _⟩ | ⟨v, st1, hx, hrx, hrs, hrd⟩
    · have ih := plan_run is (s.i :: D) (pre ++ post) (setDst s.o.dst e v) d1 st1 r hext.2 hnd'.2 (fun j => by
          constructor
          · intro hj
            obtain ⟨x, hx, rfl⟩ := (hm j).1 (List.mem_cons_of_mem _ hj)
            refine ⟨x, ?_, rfl⟩
            have hxs : x ≠ s := by rintro rfl; exact hnd'.1 hj
            simp at hx ⊢
            rcases hx with hx | hx | hx
            · exact .inl hx
            · exact absurd hx hxs
            · exact .inr hx
          · rintro ⟨x, hx, rfl⟩
            have := (hm x.i).2 ⟨x, by simp at hx ⊢; rcases hx with hx | hx <;> simp [hx], rfl⟩
            rcases List.mem_cons.1 this with h | h
            · exact absurd h (hne x hx)
            · exact h)
        (by
          have := hLn
          rw [List.map_append, List.map_cons] at this
          rw [List.map_append]
          exact this.sublist (List.Sublist.append_left (List.sublist_cons_self _ _) _))
        (fun j hj k hk => by
          rcases List.mem_cons.1 hj with rfl | hj
          · exact List.mem_cons_of_mem _ (hext.1 k hk)
          · exact List.mem_cons_of_mem _ (hD j hj k hk))
        (fun x hx hc => by
          rcases List.mem_cons.1 hc with h | h
          · exact hne x hx h
          · exact hdis x (by simp at hx ⊢; rcases hx with hx | hx <;> simp [hx]) h)
        hP.remove (fun x hx => hfit x (by simp at hx ⊢; rcases hx with hx | hx <;> simp [hx])) hrest
      obtain ⟨as, r', hi, hd, hrr⟩ := ih
      refine ⟨s.o :: as, r', ⟨s.o, as, o, rfl, ho, hof, hi⟩, ?_, hrr⟩
      simp only [doOps, hx]
      exact hd
    · obtain ⟨as, hi⟩ := fits_list (P := P) (gl := gl) (ops := ops) is (fun j hj => by
        obtain ⟨x, hx, rfl⟩ := (hm j).1 (List.mem_cons_of_mem _ hj)
        obtain ⟨o', h1, h2⟩ := hfit x hx
        exact ⟨x, o', rfl, h1, h2⟩)
      refine ⟨s.o :: as, ⟨.pan v, ⟨e, d⟩, st1⟩, ⟨s.o, as, o, rfl, ho, hof, hi⟩, ?_, hrx.symm, hrs.symm, hrd.symm, .inl ⟨v, hrx⟩⟩
      simp only [doOps, hx]

theorem find_uniq : ∀ {l : List AStep} {s : AStep}, (l.map (·.i)).Nodup → s ∈ l → (l.find? fun q => q.i == s.i) = some s
  | x :: l, s, hn, hs => by
    rw [List.map_cons, List.nodup_cons] at hn
    rcases List.mem_cons.1 hs with rfl | hs
    · simp
    · have hne : ¬ x.i = s.i := fun h => hn.1 (by rw [h]; exact List.mem_map.2 ⟨s, hs, rfl⟩)
      simp only [List.find?_cons, beq_iff_eq]
      have : (x.i == s.i) = false := by simpa using hne
      rw [this]
      exact find_uniq hn.2 hs

theorem nodup_of_cover : ∀ (n : Nat) (l : List Nat), l.length = n → (∀ i, i < n → i ∈ l) → l.Nodup ∧ ∀ i ∈ l, i < n := by
  intro n
  induction n with
  | zero => intro l hl _; cases l with
    | nil => exact ⟨List.nodup_nil, fun i h => by cases h⟩
    | cons a l => cases hl
  | succ n ih =>
    intro l hl hc
    have hm := hc n (Nat.lt_succ_self n)
    have hlen : (l.erase n).length = n := by rw [List.length_erase_of_mem hm]; omega
    obtain ⟨h1, h2⟩ := ih (l.erase n) hlen (fun i hi => (List.mem_erase_of_ne (by omega)).2 (hc i (by omega)))
    have hp := List.perm_cons_erase hm
    have hnn : n ∉ l.erase n := fun h => absurd (h2 n h) (Nat.lt_irrefl n)
    refine ⟨hp.nodup_iff.2 (List.nodup_cons.2 ⟨hnn, h1⟩), fun i hi => ?_⟩
    rcases List.mem_cons.1 (hp.mem_iff.1 hi) with rfl | h
    · exact Nat.lt_succ_self _
    · exact Nat.lt_succ_of_lt (h2 i h)

/-- What a plan's test tells. -/
theorem planFits_ok {ops : Array Oper} {ss : List AStep} (h : planFits P gl ops ss = true) : PlanOk P gl ops ss := by
  intro g fr st r t hd
  simp only [planFits, Bool.and_eq_true, beq_iff_eq] at h
  obtain ⟨⟨⟨⟨⟨hlen, hcov⟩, hfit⟩, hac⟩, hre⟩, hpair⟩ := h
  rw [List.all_eq_true] at hcov hfit hre
  have hcov' : ∀ i, i < ops.size → i ∈ ss.map (·.i) := by
    intro i hi
    have := hcov i (List.mem_range.2 hi)
    rw [List.any_eq_true] at this
    obtain ⟨s, hs, he⟩ := this
    exact List.mem_map.2 ⟨s, hs, by simpa using he⟩
  obtain ⟨hnd, hlt⟩ := nodup_of_cover ops.size (ss.map (·.i)) (by simpa using hlen) hcov'
  have hac' : ∀ i o, ops[i]? = some o → ∀ e ∈ o.after, Region.binds .any e = true → e.on < i := by
    intro i o ho e he hb
    rw [List.all_eq_true] at hac
    have := hac (o, i) (by
      rw [List.mem_zipIdx_iff_getElem?]
      simpa using ho)
    simp only [] at this
    rw [Array.all_eq_true'] at this
    have := this e he
    simpa [hb] using this
  obtain ⟨h1, h2, h3⟩ := linearise_ext hac' t
  have hsch : Region.schedule true ops t = Region.linearise .any ops t := by simp [Region.schedule]
  rw [hsch]
  obtain ⟨e, d⟩ := fr
  refine plan_run (all := ss) _ [] ss e d st r h3 h1 (fun i => ?_) hnd (fun i hi => by cases hi) (fun s _ hs => by cases hs) ⟨PG.of hpair, fun s hs => ?_, fun s hs => find_uniq hnd hs⟩ (fun s hs => ?_) hd
  · rw [h2]
    constructor
    · intro hi
      obtain ⟨s, hs, he⟩ := List.mem_map.1 (hcov' i hi)
      exact ⟨s, hs, he⟩
    · rintro ⟨s, hs, rfl⟩
      exact hlt _ (List.mem_map.2 ⟨s, hs, rfl⟩)
  · have := hre s hs
    simp only [Bool.or_eq_true, beq_iff_eq, List.isEmpty_iff] at this
    exact this
  · have := hfit s hs
    split at this
    · rename_i o ho; exact ⟨o, ho, this⟩
    · cases this
end
end Go.Proofs.YtfkmdajlpnkebaaDoor.Ai
