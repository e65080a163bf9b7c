/- Operations: what each does to a world is what the abstract one tells (first part). No condition. -/
import Derived.Test.YtfkmdajlpnkebaaDoorAi5
namespace Go.Proofs.YtfkmdajlpnkebaaDoor.Ai
open Go

section
variable {P : Program} {w : World}

theorem r_under {t : TypeId} {d : TypeDesc} (h : P.underlying t = some d) : (underlying t).run P w = .ok d w := by simp [underlying, h]
theorem r_info {t : TypeId} {i : TypeInfo} (h : P.info? t = some i) : (typeInfo t).run P w = .ok i w := by simp [typeInfo, h]
theorem r_size {t : TypeId} {m : Nat} (h : sizeT P t = some m) : (sizeOf t).run P w = .ok m w := by
  unfold sizeT at h
  cases hi : P.info? t with
  | none => simp [hi] at h
  | some i => simp [hi] at h; simp [sizeOf, r_info hi, h]
theorem r_isAgg {t : TypeId} {agg : Bool} (h : isAggT P t = some agg) : (isAgg t).run P w = .ok agg w := by
  unfold isAggT at h
  cases hu : P.underlying t with
  | none => simp [hu] at h
  | some d => cases d <;> simp [hu] at h <;> simp [isAgg, r_under hu, ← h]
theorem r_zero {t : TypeId} {v : Value} (h : (P.info? t).bind (·.zero) = some v) : (zeroValue t).run P w = .ok v w := by
  cases hi : P.info? t with
  | none => simp [hi] at h
  | some i => simp [hi] at h; simp [zeroValue, r_info hi, h]

theorem varFits_iff {t : TypeId} {m : Nat} {agg : Bool} (h : varFits P t m agg = true) : sizeT P t = some m ∧ isAggT P t = some agg ∧ (agg = false → m = 1) := by
  simp [varFits] at h
  refine ⟨h.1.1, h.1.2, fun e => ?_⟩
  rcases h.2 with h | h
  · rw [e] at h; cases h
  · exact h

theorem r_loadVar {t : TypeId} {m : Nat} {agg : Bool} (hv : varFits P t m agg = true) {a : Addr} (ha : a.spot = none) (xs : List Value) (hl : xs.length = m)
    (h : ∀ (j : Nat) v, xs[j]? = some v → w.cell? ⟨a.block, a.off + j, none⟩ = some v) :
    (loadVar t a).run P w = .ok (if agg then .agg xs.toArray else xs.headD Go.undef) w := by
  obtain ⟨h1, h2, h3⟩ := varFits_iff hv
  unfold loadVar
  simp only [Sem.run_bind, r_isAgg h2, Result.andThen_ok]
  cases agg with
  | true =>
    simp only [if_true, Sem.run_bind, r_size h1, Result.andThen_ok]
    rw [← hl, run_loadCells P w a xs (fun j v e => by rw [add_none ha]; exact h j v e)]
    simp
  | false =>
    have hm := h3 rfl
    simp only [Bool.false_eq_true, if_false]
    cases xs with
    | nil => simp at hl; omega
    | cons x xs =>
      have := h 0 x (by simp)
      have hh : w.cell? a = some x := by
        have e : a = ⟨a.block, a.off + 0, none⟩ := by cases a; simp at ha ⊢; exact ha
        rw [e]; exact this
      simp [run_load, hh]
end

/-- What an operation is to do: a value, in a world that the store fits again. -/
def Did (P : Program) (K : Sites) (base : World) (J : Inj) (s : Sem Next) (w : World) (v : AV) (st' : St) : Prop :=
  ∃ J' w' x, J.le J' ∧ Sim K base J' st' w' ∧ Rep J' v x ∧ (s.run P w = .ok (.value x) w' ∨ (s.run P w = .ok .skip w' ∧ x = Go.undef))

section
variable {P : Program} {gl : List (Nat × AV)} {K : Sites} {base : World} {J : Inj} {st st' : St} {w : World} {a : Act} {e : Env} {o : Oper} {v : AV}

theorem Did.same {s : Sem Next} {x : Value} (hS : Sim K base J st w) (hr : Rep J v x) (h : s.run P w = .ok (.value x) w) : Did P K base J s w v st :=
  ⟨J, w, x, Inj.le.refl J, hS, hr, .inl h⟩

theorem Did.of {s : Sem Next} {J' : Inj} {w' : World} {x : Value} (hJ : J.le J') (hS : Sim K base J' st' w') (hr : Rep J' v x) (h : s.run P w = .ok (.value x) w') : Did P K base J s w v st' :=
  ⟨J', w', x, hJ, hS, hr, .inl h⟩

variable (hS : Sim K base J st w) (hE : Reps J e a.tmps.toList) (hG : GlOk gl J)
include hS hE hG

theorem did_mov {y : AX} (hf : opFits P gl o.op (.mov y) = true) (h : opA (.mov y) e st = some (.val v st')) : Did P K base J (execOp a.eval o) w v st' := by
  simp only [opA, Option.some.injEq, Nx.val.injEq] at h
  obtain ⟨rfl, rfl⟩ := h
  cases ho : o.op <;> simp only [ho, opFits, Bool.false_eq_true] at hf
  all_goals exact Did.same hS (xFits_rep hE hG hf) (by simp [execOp, ho])

theorem did_movT {y : AX} (hf : opFits P gl o.op (.movT y) = true) (h : opA (.movT y) e st = some (.val v st')) : Did P K base J (execOp a.eval o) w v st' := by
  simp only [opA] at h
  split at h
  · rename_i m hy
    simp only [Option.some.injEq, Nx.val.injEq] at h
    obtain ⟨rfl, rfl⟩ := h
    have key : ∀ x, xFits gl x y = true → ∃ s, a.eval x = .slice s 0 0 := by
      intro x hx
      have := xFits_rep hE hG hx
      rw [hy] at this
      simp only [Rep] at this
      obtain ⟨_, ⟨h, _⟩ | ⟨ad, cap, h, _, _, h5, _⟩⟩ := this
      · exact ⟨none, h⟩
      · have := h5 trivial; simp at this; subst this; exact ⟨some ad, by simpa using h⟩
    have fin : ∀ x, xFits gl x y = true → ((execOp a.eval o).run P w = .ok (.value (a.eval x)) w) → Did P K base J (execOp a.eval o) w (.lst m [] (.tok st.length)) (st ++ [.tok m 0 none]) := by
      intro x hx hr
      obtain ⟨s, hs⟩ := key x hx
      obtain ⟨hle, hS'⟩ := hS.tokAdd0 m s
      refine Did.of hle hS' ?_ hr
      rw [hs]
      simp only [Rep]
      refine ⟨fun id hid => ?_, ?_⟩
      · cases hid; simp [Inj.tokNil]
      · cases s with
        | none => exact .inl ⟨rfl, trivial⟩
        | some ad =>
          have := xFits_rep hE hG hx
          rw [hy, hs] at this
          simp only [Rep] at this
          obtain ⟨_, ⟨h, _⟩ | ⟨ad', cap, h, h3, h4, h5, h6⟩⟩ := this
          · cases h
          · cases h
            refine .inr ⟨ad, 0, rfl, h3, Nat.le_refl _, fun h => (by cases h), ?_⟩
            simp [Elems]
    cases ho : o.op <;> simp only [ho, opFits, Bool.false_eq_true] at hf
    all_goals exact fin _ hf (by simp [execOp, ho])
  · cases h

theorem did_pick {c x y : AX} (hf : opFits P gl o.op (.pick c x y) = true) (h : opA (.pick c x y) e st = some (.val v st')) : Did P K base J (execOp a.eval o) w v st' := by
  cases ho : o.op <;> simp only [ho, opFits, Bool.false_eq_true] at hf
  simp only [Bool.and_eq_true] at hf
  simp only [opA] at h
  split at h
  · rename_i t hc
    simp only [Option.some.injEq, Nx.val.injEq] at h
    obtain ⟨rfl, rfl⟩ := h
    have h1 := xFits_rep hE hG hf.1.1
    rw [hc] at h1
    simp only [Rep] at h1
    cases t
    · exact Did.same hS (xFits_rep hE hG hf.2) (by simp [execOp, ho, h1, asBool])
    · exact Did.same hS (xFits_rep hE hG hf.1.2) (by simp [execOp, ho, h1, asBool])
  · cases h

omit hE hG in
/-- A new variable. -/
theorem did_newVar {s : Sem Next} {t : TypeId} {z : AV} {x : Value} {mu : Bool} {ty : Option TypeId} (hty : ∀ T, ty = some T → t = T) (hz : Rep J z x) (hv : z.isVar = true) (hc : z.cells.all AV.isCell = true)
    (hs : s.run P w = .ok (.value (.pointer (some ⟨w.heap.size, 0, none⟩))) { w with heap := w.heap.push (.cells x.cells t) })
    (h : (if mu = true then some (Nx.val (.ptr st.length 0) (st ++ [.cells ty z.cells])) else some (.val (.iptr z) st)) = some (.val v st')) : Did P K base J s w v st' := by
  cases mu with
  | true =>
    simp only [if_true, Option.some.injEq, Nx.val.injEq] at h
    obtain ⟨rfl, rfl⟩ := h
    have hr := hz.cells
    refine Did.of (hS.bind_le _) (hS.add (.cells x.cells t) (.cells ty z.cells) rfl (by simp) ?_) ?_ hs
    · refine ⟨w.heap.size, x.cells, t, by simp [Inj.bind], ⟨(0, 0), by simp, Clear.zero _⟩, by have := hr.length; simp at this; omega, ?_, hc, fun T hT => ⟨hty T hT, by have := hr.length; simp at this; omega⟩⟩
      have hl := hr.length
      rw [List.take_of_length_le (by omega)]
      exact Reps.mono (hS.bind_le _) _ _ hr
    · simp only [Rep]; exact ⟨w.heap.size, by simp [Inj.bind], rfl⟩
  | false =>
    simp only [Bool.false_eq_true, if_false, Option.some.injEq, Nx.val.injEq] at h
    obtain ⟨rfl, rfl⟩ := h
    refine Did.of (hS.stay_le x.cells) (hS.addStill x.cells t (0, 0)) ?_ hs
    simp only [Rep]
    refine ⟨⟨w.heap.size, 0, none⟩, x, rfl, rfl, Rep.mono (hS.stay_le _) _ _ hz, hv, fun i u hu => ?_⟩
    simp only [Inj.stay, if_true, Nat.zero_add]
    simpa using hu

omit hE hG in
theorem did_new {z : AV} {mu : Bool} {ty : Option TypeId} (hf : opFits P gl o.op (.new z mu ty) = true) (h : opA (.new z mu ty) e st = some (.val v st')) : Did P K base J (execOp a.eval o) w v st' := by
  cases ho : o.op <;> simp only [ho, opFits, Bool.false_eq_true] at hf
  rename_i t
  simp only [Bool.and_eq_true, zeroFits] at hf
  obtain ⟨⟨hf, hc⟩, hty⟩ := hf
  split at hf
  · rename_i x hx
    simp only [Bool.and_eq_true] at hf
    have hz := constFits_rep (J := J) _ _ hf.1
    refine did_newVar hS (t := t) (ty := ty) (fun T hT => by rw [hT] at hty; simpa using (beq_iff_eq.1 hty).symm) hz hf.2 hc ?_ (by simpa [opA] using h)
    simp [execOp, ho, Instr.alloc, r_zero hx, newVar, newRow]
  · cases hf

theorem did_box {m : Nat} {y : AX} {mu : Bool} (hf : opFits P gl o.op (.box m y mu) = true) (h : opA (.box m y mu) e st = some (.val v st')) : Did P K base J (execOp a.eval o) w v st' := by
  cases ho : o.op <;> simp only [ho, opFits, Bool.false_eq_true] at hf
  rename_i t x
  simp only [Bool.and_eq_true] at hf
  simp only [opA] at h
  split at h
  · rename_i hh
    refine did_newVar hS (t := t) (fun _ hT => by cases hT) (xFits_rep hE hG hf.2) ?_ hh.2 ?_ h
    · cases hy : y.ev e <;> simp [AV.isVar]
      rw [hy] at hh; simp [AV.cells, AV.isCell] at hh
    · simp [execOp, ho, Instr.box, newVar, newRow]
  · cases h

theorem did_load {m : Nat} {agg : Bool} {y : AX} (hf : opFits P gl o.op (.load m agg y) = true) (h : opA (.load m agg y) e st = some (.val v st')) : Did P K base J (execOp a.eval o) w v st' := by
  cases ho : o.op <;> simp only [ho, opFits, Bool.false_eq_true] at hf
  rename_i t x
  simp only [Bool.and_eq_true] at hf
  obtain ⟨hv, hx⟩ := hf
  have hr := xFits_rep hE hG hx
  simp only [opA] at h
  cases hy : y.ev e <;> simp only [hy] at h <;> try (cases h; done)
  · rename_i r off
    rw [hy] at hr
    simp only [Rep] at hr
    obtain ⟨b, hb, hx'⟩ := hr
    cases hst : st[r]? with
    | none => simp [hst] at h
    | some ob =>
      cases ob <;> simp only [hst] at h <;> try (cases h; done)
      rename_i cs
      obtain ⟨b', c, tt, h1, ⟨fr, h2, hfr⟩, h3, h4, h5, hty⟩ := hS.obj r _ hst
      rw [hb] at h1; cases h1
      cases htv : takeVar m agg cs off with
      | none => simp [htv] at h
      | some u =>
        simp only [htv, Option.map_some, Option.some.injEq, Nx.val.injEq] at h
        obtain ⟨rfl, rfl⟩ := h
        obtain ⟨_, _, hm⟩ := varFits_iff hv
        have hcell : ∀ (j : Nat) x, (c.toList.drop off)[j]? = some x → w.cell? ⟨b, off + j, none⟩ = some x := by
          intro j x hj
          rw [cell_of_heap h2]; rw [List.getElem?_drop] at hj; simpa using hj
        unfold takeVar at htv
        cases agg with
        | true =>
          simp only [if_true] at htv
          split at htv
          · rename_i hle
            cases htv
            have hrr : Reps J ((cs.drop off).take m) ((c.toList.drop off).take m) := by
              have := (h4.drop off).take m
              rw [List.drop_take, List.take_take] at this
              rwa [Nat.min_eq_left (by omega)] at this
            refine Did.same hS (x := .agg ((c.toList.drop off).take m).toArray) ?_ ?_
            · simp only [Rep]
              refine ⟨_, rfl, by simpa using hrr, ?_⟩
              rw [List.all_eq_true] at h5 ⊢
              intro z hz; exact h5 z (List.mem_of_mem_drop (List.mem_of_mem_take hz))
            · simp only [execOp, ho, Instr.loadAt, hx', Instr.sureAddr, Sem.run_bind, Sem.run_pure, Result.andThen_ok]
              rw [r_loadVar hv rfl ((c.toList.drop off).take m) (by simp; omega) (fun j x hj => hcell j x (by rw [List.getElem?_take] at hj; split at hj; exact hj; cases hj))]
              simp
          · cases htv
        | false =>
          simp only [Bool.false_eq_true, if_false] at htv
          have hm1 := hm rfl
          subst hm1
          obtain ⟨x, hx1, hx2⟩ := h4.get off u htv
          have hx3 : c.toList[off]? = some x := by rw [List.getElem?_take] at hx1; split at hx1; exact hx1; cases hx1
          refine Did.same hS hx2 ?_
          simp only [execOp, ho, Instr.loadAt, hx', Instr.sureAddr, Sem.run_bind, Sem.run_pure, Result.andThen_ok]
          rw [r_loadVar hv rfl [x] rfl (fun j y hj => by
            cases j with
            | zero => simp at hj; subst hj; exact hcell 0 x (by rw [List.getElem?_drop]; exact hx3)
            | succ j => simp at hj)]
          simp
  · rename_i u
    rw [hy] at hr
    simp only [Rep] at hr
    obtain ⟨ad, y', hx', hsp, hry, hvar, hrow⟩ := hr
    obtain ⟨_, _, hm⟩ := varFits_iff hv
    have hcell : ∀ (j : Nat) x, y'.cells.toList[j]? = some x → w.cell? ⟨ad.block, ad.off + j, none⟩ = some x := fun j x hj => hS.imOk _ _ _ (hrow j x hj)
    cases agg with
    | true =>
      simp only [if_true] at h
      cases u <;> simp only [] at h <;> try (cases h; done)
      rename_i cs
      split at h
      · rename_i hl
        simp only [Option.some.injEq, Nx.val.injEq] at h
        obtain ⟨rfl, rfl⟩ := h
        have hry' := hry
        simp only [Rep] at hry
        obtain ⟨arr, rfl, hr1, _⟩ := hry
        refine Did.same hS hry' ?_
        simp only [execOp, ho, Instr.loadAt, hx', Instr.sureAddr, Sem.run_bind, Sem.run_pure, Result.andThen_ok]
        rw [r_loadVar hv hsp arr.toList (by rw [← hr1.length]; exact hl) hcell]
        simp
      · cases h
    | false =>
      simp only [Bool.false_eq_true, if_false] at h
      split at h
      · rename_i hc
        simp only [Option.some.injEq, Nx.val.injEq] at h
        obtain ⟨rfl, rfl⟩ := h
        have hm1 := hm rfl
        subst hm1
        obtain ⟨_, hcs⟩ := hry.oneCell hc
        rw [hcs] at hcell
        refine Did.same hS hry ?_
        simp only [execOp, ho, Instr.loadAt, hx', Instr.sureAddr, Sem.run_bind, Sem.run_pure, Result.andThen_ok]
        rw [r_loadVar hv hsp [y'] rfl hcell]
        simp
      · cases h

theorem did_store {m : Nat} {y z : AX} (hf : opFits P gl o.op (.store m y z) = true) (h : opA (.store m y z) e st = some (.val v st')) : Did P K base J (execOp a.eval o) w v st' := by
  cases ho : o.op <;> simp only [ho, opFits, Bool.false_eq_true] at hf
  rename_i t x u
  simp only [Bool.and_eq_true, beq_iff_eq] at hf
  obtain ⟨⟨hv, hx⟩, hu⟩ := hf
  have hr := xFits_rep hE hG hx
  have hru := xFits_rep hE hG hu
  simp only [opA] at h
  cases hy : y.ev e <;> simp only [hy] at h <;> try (cases h; done)
  rename_i r off
  rw [hy] at hr
  simp only [Rep] at hr
  obtain ⟨b, hb, hx'⟩ := hr
  cases hst : st[r]? with
  | none => simp [hst] at h
  | some ob =>
    cases ob <;> simp only [hst] at h <;> try (cases h; done)
    rename_i cs
    split at h
    · rename_i hh
      obtain ⟨hl, hle, hcell⟩ := hh
      simp only [Option.some.injEq, Nx.val.injEq] at h
      obtain ⟨rfl, rfl⟩ := h
      obtain ⟨b', c, tt, h1, ⟨fr, h2, hfr⟩, h3, h4, h5, hty⟩ := hS.obj r _ hst
      rw [hb] at h1; cases h1
      have hcs := hru.cells
      have hlen := hcs.length
      obtain ⟨w', g1, g2, g3, g4, g5, g6⟩ := run_storeCells P ⟨b, off, none⟩ rfl tt fr (a.eval u).cells.toList w 0 c h2 hfr (by simp at hlen ⊢; omega) (hcs.oneCells hcell)
      refine ⟨J, w', Go.undef, Inj.le.refl J, hS.upd hst hb rfl (by simp) rfl (by simp) g2 g3 g4 g5 ?_, Rep.undef, .inr ⟨?_, rfl⟩⟩
      · refine ⟨b, _, tt, hb, ⟨fr, g6, by rw [putV_size]; exact hfr⟩, ?_, ?_, putCells_isCell _ _ _ h5 hcell, ?_⟩
        · rw [putCells_length, putV_size]; exact h3
        · rw [putCells_length]; exact putCells_reps _ _ _ _ _ _ hcs h4
        · rw [putCells_length, putV_size]; exact hty
      · have hsz : ¬ (a.eval u).cells.size ≠ m := by simp at hlen; omega
        simp only [execOp, ho, Instr.storeAt, hx', Instr.sureAddr, Sem.run_bind, Sem.run_pure, Result.andThen_ok, storeVar, r_size hv, hsz, if_false, g1]
    · cases h

theorem did_nilCheck {y : AX} (hf : opFits P gl o.op (.nilCheck y) = true) (h : opA (.nilCheck y) e st = some (.val v st')) : Did P K base J (execOp a.eval o) w v st' := by
  cases ho : o.op <;> simp only [ho, opFits, Bool.false_eq_true] at hf
  rename_i x
  have hr := xFits_rep hE hG hf
  simp only [opA] at h
  cases hy : y.ev e <;> simp only [hy] at h <;> try (cases h; done)
  all_goals
    simp only [Option.some.injEq, Nx.val.injEq] at h
    obtain ⟨rfl, rfl⟩ := h
    rw [hy] at hr
    refine Did.same hS hr ?_
  · rename_i fn b c
    cases fn <;> simp only [Rep] at hr
    · obtain ⟨a', b', e', _⟩ := hr; simp [execOp, ho, e']
    · obtain ⟨_, _, l, _, e'⟩ := hr; simp [execOp, ho, e']
  · simp only [Rep] at hr; obtain ⟨b, _, e'⟩ := hr; simp [execOp, ho, e']
  · simp only [Rep] at hr; obtain ⟨ad, y', e', _⟩ := hr; simp [execOp, ho, e']

theorem did_extract {y : AX} {i : Nat} (hf : opFits P gl o.op (.extract y i) = true) (h : opA (.extract y i) e st = some (.val v st')) : Did P K base J (execOp a.eval o) w v st' := by
  cases ho : o.op <;> simp only [ho, opFits, Bool.false_eq_true] at hf
  rename_i x j
  simp only [Bool.and_eq_true, beq_iff_eq] at hf
  obtain ⟨rfl, hf⟩ := hf
  have hr := xFits_rep hE hG hf
  simp only [opA] at h
  cases hy : y.ev e <;> simp only [hy] at h <;> try (cases h; done)
  rename_i vs
  cases hv : vs[i]? with
  | none => simp [hv] at h
  | some u =>
    simp only [hv, Option.map_some, Option.some.injEq, Nx.val.injEq] at h
    obtain ⟨rfl, rfl⟩ := h
    rw [hy] at hr
    simp only [Rep] at hr
    obtain ⟨arr, e', hr⟩ := hr
    obtain ⟨z, hz, hrz⟩ := hr.get i u hv
    have hz' : arr[i]? = some z := by simpa using hz
    exact Did.same hS hrz (by simp [execOp, ho, e', Instr.extract, hz'])

theorem did_mkIface {t : TypeId} {y : AX} (hf : opFits P gl o.op (.mkIface t y) = true) (h : opA (.mkIface t y) e st = some (.val v st')) : Did P K base J (execOp a.eval o) w v st' := by
  cases ho : o.op <;> simp only [ho, opFits, Bool.false_eq_true] at hf
  rename_i u x
  simp only [Bool.and_eq_true, beq_iff_eq] at hf
  obtain ⟨⟨rfl, hk⟩, hf⟩ := hf
  have hr := xFits_rep hE hG hf
  simp only [opA, Option.some.injEq, Nx.val.injEq] at h
  obtain ⟨rfl, rfl⟩ := h
  refine Did.same hS (x := .iface t (a.eval x)) (by simp only [Rep]; exact ⟨_, rfl, hr⟩) ?_
  unfold isK at hk
  split at hk
  · rename_i d hd
    simp only [execOp, ho, Instr.makeInterface, Sem.run_bind, r_under hd, Result.andThen_ok]
    cases d <;> simp at hk ⊢
  · cases hk

theorem did_mkFunc {f : FuncId} {ys zs : List AX} (hf : opFits P gl o.op (.mkFunc f ys zs) = true) (h : opA (.mkFunc f ys zs) e st = some (.val v st')) : Did P K base J (execOp a.eval o) w v st' := by
  cases ho : o.op <;> simp only [ho, opFits, Bool.false_eq_true] at hf
  rename_i fn ss cs
  cases fn <;> simp only [Bool.false_eq_true] at hf
  simp only [Bool.and_eq_true, beq_iff_eq] at hf
  obtain ⟨⟨rfl, h1⟩, h2⟩ := hf
  simp only [opA, Option.some.injEq, Nx.val.injEq] at h
  obtain ⟨rfl, rfl⟩ := h
  refine Did.same hS (x := .func (.func f) (ss.map a.eval) (cs.map a.eval)) ?_ (by simp [execOp, ho, Instr.makeFunc])
  simp only [Rep]
  exact ⟨_, _, rfl, by simpa using xsFit_reps hE hG h1, by simpa using xsFit_reps hE hG h2⟩

omit hE hG in
theorem did_mkMap (hf : opFits P gl o.op .mkMap = true) (h : opA .mkMap e st = some (.val v st')) : Did P K base J (execOp a.eval o) w v st' := by
  cases ho : o.op <;> simp only [ho, opFits, Bool.false_eq_true] at hf
  rename_i t r
  cases r <;> simp only [Bool.false_eq_true] at hf
  simp only [opA, Option.some.injEq, Nx.val.injEq] at h
  obtain ⟨rfl, rfl⟩ := h
  refine Did.of (hS.bind_le _) (hS.add (.map #[] 0) (.map []) rfl (by simp) ?_) ?_ (x := .map (some w.heap.size)) ?_
  · exact ⟨w.heap.size, #[], 0, by simp [Inj.bind], by simp, by simp [RepsM]⟩
  · simp only [Rep]; exact ⟨w.heap.size, by simp [Inj.bind], rfl⟩
  · simp [execOp, ho, Instr.makeMap]

end
end Go.Proofs.YtfkmdajlpnkebaaDoor.Ai
