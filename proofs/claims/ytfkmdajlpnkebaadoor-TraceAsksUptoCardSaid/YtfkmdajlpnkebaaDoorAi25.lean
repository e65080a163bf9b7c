/- FROM AN ABSTRACT RUN TO THE ROW: a law whose abstract run gives true, whatever the arguments, has its contract. No condition. -/
import Derived.Test.YtfkmdajlpnkebaaDoorAi24
import Derived.ProofKit
import Derived.Deep.DeepHandedRow
import Derived.LaidLaws
namespace Go.Proofs.YtfkmdajlpnkebaaDoor.Ai
open Go Go.ChangeShapes Go.WideShapes Go.ChangeAt Go.RowKit

/-- Every cell that there is stays. -/
def J0 (W : World) : Inj := ⟨fun _ => none, fun _ _ => none, fun b o => W.cell? ⟨b, o, none⟩⟩

theorem sim0 (K : Sites) (W : World) : Sim K W (J0 W) [] W where
  os := rfl
  output := rfl
  size := Nat.le_refl _
  old := fun _ _ => rfl
  imOk := fun _ _ _ h => h
  ρlt := fun _ _ h => by cases h
  τlt := fun _ _ _ h => by cases h
  obj := fun r o h => by simp at h
  own := fun r o b h => by simp at h
  noIm := fun r o b h => by simp at h

/-- What a call leaves as it was. -/
structure Kept (W W' : World) : Prop where
  os : W'.os = W.os
  output : W'.output = W.output
  size : W.heap.size ≤ W'.heap.size
  old : ∀ b : Nat, b < W.heap.size → W'.heap[b]? = W.heap[b]?

section
variable {P : Program} {gl : List (Nat × AV)} {A : AProg} {B : World → Prop}

theorem calls_of_run (hmix : P.follows .mixedOrders = true) (hA : ∀ f F, A.fn f = some F → funcFits P gl f F = true) (hprim : PrimsOk P gl A B)
    {W : World} (hG : GlOk gl (J0 W)) (hB : B W) {f : FuncId} {args : Array Value} {avs : List AV} (hargs : Reps (J0 W) avs args.toList) {n : Nat} {fr : Fr} {st : St} {b : Bool}
    (hrun : runA A n (.seqc f avs) [] = some ⟨.ret, fr, st⟩) (hr : fr.env = [.bool b]) : Calls P f args W fun e W' => e = .returned (.bool b) ∧ Kept W W' := by
  have ht := runA_ok (P := P) (gl := gl) (A := A) (B := B) hmix (fun ops ss h => planFits_ok h) hA hprim n _ _ _ hrun W (J0 W) W args (sim0 _ W) ⟨hG, hB⟩ hargs
  refine (callsIn_wide.1 ht.2).mono fun e W' h => ?_
  obtain ⟨J', _, hS, h⟩ := h
  obtain ⟨v, z, h1, h2, rfl⟩ := h
  rw [hr] at h1
  cases h1
  simp only [Rep] at h2
  subst h2
  exact ⟨rfl, hS.os, hS.output, hS.size, hS.old⟩
end

section
variable {P : Program} {H : Type} {enc : TypeId × Value → H} {W W' : World}

theorem Kept.same (h : Kept W W') {p : MemPlace} (hp : p.block < W.heap.size) : W.sameAt W' p := by
  cases p with
  | cell b o => exact World.cell?_of_block (w := W) (h.old b hp)
  | map b => exact h.old b hp

theorem trodAll_kept (hl : laidOutB P = true) (h : Kept W W') : ∀ (ts : List TypeId) (vs : List Value) (ds : List (DataW H)) (ps : List MemPlace), (ts.all fun t => P.readableRec t && decide (t < P.types.size)) = true →
    DataW.TrodAll enc P W 0 (fun _ => true) true ts vs ds ps → (∀ p ∈ ps, p.block < W.heap.size) → ∀ sp : Nat → Bool, (∀ p ∈ ps, sp p.block = true) → DataW.TrodAll enc P W' 0 sp true ts vs ds ps
  | [], [], [], ps, _, hT, _, sp, _ => hT
  | t :: ts, v :: vs, d :: ds, ps, ht, ⟨p, q, h1, h2, e⟩, hlt, sp, hsp => by
    subst e
    simp only [List.all_cons, Bool.and_eq_true, decide_eq_true_eq] at ht
    refine ⟨p, q, WideElems.Trod_stays hl ht.1.1 ht.1.2 h1 (fun x hx => h.same (hlt x (by simp [hx]))) (fun x hx => hsp x (by simp [hx])), ?_, rfl⟩
    exact trodAll_kept hl h ts vs ds q ht.2 h2 (fun x hx => hlt x (by simp [hx])) sp (fun x hx => hsp x (by simp [hx]))

/-- 'it returned true, and all reads as it did' -/
theorem post_true {f : Func} {s : ChangeSpec} {apart fresh handsOn again : Bool} {args : Array Value} {ds gs : List (DataW H)} {before : List MemPlace} {tb : TypeId} (hl : laidOutB P = true)
    (ht : (f.params.toList.all fun t => P.readableRec t && decide (t < P.types.size)) = true) (hres : f.resultTypes = #[tb]) (htb : P.underlying tb = some .bool)
    (hv : s.vars = []) (hs : ∀ H (ds : List (DataW H)), ds.length = f.params.size → s.fn H ds = { results := [.lit (.bool true)], args := ds })
    (hW : DataW.Whole enc P f.params.toList s.vars apart W args.toList ds gs before) (hk : Kept W W') : s.post enc P f apart fresh handsOn again W args (.bool true) W' := by
  have hW' := hW
  have hlt := hW.lt
  obtain ⟨p, q, hA, hV, rfl, hfz, hnd⟩ := hW
  rw [hv] at hV
  obtain ⟨rfl, rfl⟩ := trodVars_none hV
  have hlen : ds.length = f.params.size := by
    have : ∀ (ts : List TypeId) (vs : List Value) (ds : List (DataW H)) ps, DataW.TrodAll enc P W 0 (fun _ => true) true ts vs ds ps → ds.length = ts.length := by
      intro ts
      induction ts with
      | nil => intro vs ds ps h; cases vs <;> cases ds <;> simp_all [DataW.TrodAll]
      | cons t ts ih =>
        intro vs ds ps h
        cases vs with
        | nil => cases ds <;> simp [DataW.TrodAll] at h
        | cons v vs =>
          cases ds with
          | nil => simp [DataW.TrodAll] at h
          | cons d ds => obtain ⟨a, b, _, h2, _⟩ := h; simp [ih _ _ _ h2]
    simpa using this _ _ _ _ hA
  have hfn : s.fn H (ds ++ []) = { results := [.lit (.bool true)], args := ds } := by rw [List.append_nil]; exact hs H ds hlen
  have hargs : ∀ sp : Nat → Bool, (∀ x ∈ p, sp x.block = true) → DataW.TrodAll enc P W' 0 sp true f.params.toList args.toList ds p := fun sp hsp =>
    trodAll_kept hl hk _ _ _ _ ht hA (fun x hx => hlt x (by simp [hx])) sp hsp
  have hr : ∀ (b : Nat) (sp : Nat → Bool) (hd : Bool), DataW.TrodAll enc P W' b sp hd f.resultTypes.toList ((Value.bool true).resultList f.resultTypes.size) [.lit (.bool true)] [] := by
    intro b sp hd
    rw [hres]
    exact trodAll_cons_mk (shut_bool htb _) trodAll_mk0
  refine ⟨ds, [], p ++ [], [], p, [], hW', ?_, ?_, ?_, ?_, fun _ => ⟨?_, ds.cons (.lit (.bool true)) , [], p, ?_, ?_⟩⟩
  · rw [hfn]; exact hr _ _ _
  · rw [hfn]; exact hargs _ (fun x hx => by simpa using hlt x (by simp [hx]))
  · rw [hfn, hv]; rfl
  · refine ⟨hk.os, hk.output, fun i hi => ?_⟩
    rw [hk.old i hi]
    split <;> simp_all
  · exact ok_one hres rfl (okWide_bool_mk htb _)
  · refine ⟨p, [], ?_, ?_, by simp, ?_, fun ha => by simpa using hnd ha⟩
    · have := trodAll_append (hargs (fun _ => true) (fun _ _ => rfl)) (hr 0 (fun _ => true) true)
      simpa using this
    · rw [hv]; rfl
    · intro b off hp
      have hb : b < W.heap.size := hlt (.cell b off) (by simp [hp])
      have := hfz b off (by simp [hp])
      rw [← this]
      exact World.frozen?_of_block (w := W) (hk.old b hb)
  · intro x hx _
    simpa using hx
end

section
variable {P : Program} {H : Type} {enc : TypeId × Value → H} {W : World}

/-- The arguments, as abstract values of their types. -/
def ArgsOf (P : Program) (n : Nat) : List TypeId → List AV → Prop
  | [], avs => avs = []
  | t :: ts, avs => ∃ a as', avs = a :: as' ∧ OfType P n t a ∧ ArgsOf P n ts as'

theorem rep_of_row {t : TypeId} {agg : Bool} {a : AV} {v : Value} (hg : isAggT P t = some agg) (h : RowRep (J0 W) agg a v.cells.toList) (hok : Value.okWide P W .any 0 t v) : Rep (J0 W) a v := by
  obtain ⟨y, hr, _, hc, h1, h2⟩ := h.val
  unfold Value.okWide at hok
  cases agg with
  | true =>
    have : v = y := by
      rw [h1 rfl]
      unfold isAggT at hg
      split at hg
      · rename_i hu; rw [hu] at hok; obtain ⟨cs, rfl, _⟩ := hok; simp [Value.cells]
      · rename_i hu; rw [hu] at hok; obtain ⟨cs, rfl, _⟩ := hok; simp [Value.cells]
      · cases hg
      · cases hg
    rw [this]; exact hr
  | false =>
    have h2 := h2 rfl
    have hv : v.cells = #[v] := by
      unfold isAggT at hg
      split at hg
      · cases hg
      · cases hg
      · rename_i hn1 hn2 hu
        split at hok
        · rename_i hs; rw [hs] at hu; cases hu; exact absurd rfl (hn1 _)
        · rename_i hs; rw [hs] at hu; cases hu; exact absurd rfl (hn2 _ _)
        · unfold Cell.okWide at hok
          split at hok <;> try rfl
          unfold Cell.ok at hok
          split at hok <;> first | rfl | cases hok
      · cases hg
    rw [hv] at h2
    simp at h2
    rw [h2]; exact hr

theorem args_read {n : Nat} : ∀ (ts : List TypeId) (vs : List Value) (ds : List (DataW H)) (ps : List MemPlace), (ts.all (okType P n)) = true →
    DataW.TrodAll enc P W 0 (fun _ => true) true ts vs ds ps → (∀ (j : Nat) t v, ts[j]? = some t → vs[j]? = some v → Value.okWide P W .any 0 t v) →
    ∃ avs, Reps (J0 W) avs vs ∧ ArgsOf P n ts avs ∧ AV.bulks avs ≤ Rows.uptoBulkAll ds
  | [], vs, ds, ps, _, hT, _ => by
    cases vs <;> cases ds <;> simp [DataW.TrodAll] at hT
    exact ⟨[], rfl, rfl, by simp [AV.bulks]⟩
  | t :: ts, [], ds, ps, _, hT, _ => by simp [DataW.TrodAll] at hT
  | t :: ts, v :: vs, [], ps, _, hT, _ => by simp [DataW.TrodAll] at hT
  | t :: ts, v :: vs, d :: ds, ps, ht, ⟨p, q, ⟨m, h1⟩, h2, e⟩, hok => by
    simp only [List.all_cons, Bool.and_eq_true] at ht
    obtain ⟨a, agg, hg, _, hr, hty, hb⟩ := read_ok (J := J0 W) (fun _ _ _ h => h) (fun _ => rfl) n t _ _ m ht.1 h1
    have hb : a.bulk ≤ Rows.uptoBulk d := hb
    obtain ⟨avs, g1, g2, g3⟩ := args_read ts vs ds q ht.2 h2 (fun j t v h h' => hok (j + 1) t v (by simpa using h) (by simpa using h'))
    refine ⟨a :: avs, ?_, ⟨a, avs, rfl, hty, g2⟩, by simp only [AV.bulks, Rows.uptoBulkAll]; omega⟩
    simp only [Reps]
    exact ⟨v, vs, rfl, rep_of_row hg hr (hok 0 t v rfl rfl), g1⟩

/-- What a laid variable holds. -/
def glOf (P : Program) (laid : List (String × DataW Unit)) : Option (List (Nat × AV)) :=
  laid.mapM fun x => match P.globalNamed x.1 with
    | some g => match (P.globals[g]?).map (·.type) with
      | some t => if okType P 8 t then (avOf P 8 t x.2).map fun a => (g, a) else none
      | none => none
    | none => none

theorem glOk_of_laidVars : ∀ (laid : List (String × DataW Unit)) (ps : List MemPlace) (gl : List (Nat × AV)), DataW.LaidVars P W laid ps → glOf P laid = some gl → ∀ x ∈ gl, Rep (J0 W) (.iptr x.2) (.pointer (some ⟨x.1, 0, none⟩))
  | [], ps, gl, _, h, x, hx => by simp [glOf] at h; subst h; cases hx
  | (nm, d) :: r, ps, gl, ⟨g, t, cs, fuel, p, q, h1, h2, h3, h4, h5, _⟩, h, x, hx => by
    simp only [glOf, List.mapM_cons, h1, h2] at h
    split at h
    · rename_i hok
      obtain ⟨a, agg, hg, ha, hr, _, _⟩ := read_ok (J := J0 W) (fun _ _ _ h => h) (fun _ => rfl) 8 t _ _ fuel hok h4
      simp only [ha, Option.map_some] at h
      cases hgr : glOf P r with
      | none => simp only [glOf] at hgr; simp [hgr] at h
      | some gr =>
        have hgr' := hgr
        simp only [glOf] at hgr
        simp [hgr] at h
        subst h
        rcases List.mem_cons.1 hx with rfl | hx
        · obtain ⟨y, hy, hv, hc, _⟩ := hr.val
          simp only [Rep]
          refine ⟨⟨g, 0, none⟩, y, rfl, rfl, hy, hv, fun i v hiv => ?_⟩
          rw [hc] at hiv
          simp only [World.var?, h1, Option.bind_some] at h3
          split at h3
          · rename_i c ty fr hh
            cases h3
            show W.cell? ⟨g, 0 + i, none⟩ = some v
            simp [World.cell?, hh, ← hiv]
          · cases h3
        · exact glOk_of_laidVars r q gr h5 hgr' x hx
    · simp at h

theorem glOk_of_laid {laid : List (String × DataW Unit)} {gl : List (Nat × AV)} (hp : (laid.filter fun x => x.2.handleName?.isSome) = []) (hgl : glOf P laid = some gl) (h : laidMetH P laid W) : GlOk gl (J0 W) := by
  unfold laidMetH at h
  rw [hp] at h
  obtain ⟨ps, hv, _⟩ := h
  intro g v hf
  have := List.mem_of_find?_eq_some hf
  exact glOk_of_laidVars laid ps gl hv hgl _ this
end
end Go.Proofs.YtfkmdajlpnkebaaDoor.Ai
