/- Library functions of the evaluator; the code, first part. No condition. -/
import Derived.Test.YtefildelnccljaaGreatEf
import Derived.Test.YtefildelnccljaaGreatEg
import Derived.Shelf.SlicesE.Clone
import Derived.Shelf.SlSortCmp.NoneTotal
import Derived.Test.YtefildelnccljaaGreatEd
import Derived.Test.YtefildelnccljaaGreatJl
import Derived.Test.YtefildelnccljaaGreatChecked
import Derived.KernelRfl
set_option linter.unusedVariables false
set_option linter.unusedSimpArgs false
namespace Go.Proofs.YtefildelnccljaaGreat.Ai
open Go Go.Shelf Go.RowKit Go.Lib Go.Sort

/-- slices.Clone: an object of its own; of no elements: none. -/
def cloneA (m bytes : Nat) : List AV → St → Option (AOut × St)
  | [v], st => match v.asLst m with
    | .lst m' es _ => if m' = m ∧ es.length ≤ great ∧ bytes ≤ 256 then
        (if es = [] then some (.ret (.lst m [] .no), st) else some (.ret (.sl st.length m 0 es.length none), st ++ [.cells none (flat es)])) else none
    | _ => none
  | _, _ => none

set_option maxHeartbeats 2000000 in
set_option maxRecDepth 100000 in
/-- Of no elements, whatever the address. -/
theorem clone_zero {P : Program} {ρ : Ren} (L : SlLaysE0.n41 P ρ) (i0 : TypeInfo) (z : Value) (size bytes : Nat) (hi : P.info? (ρ.t 23) = some i0) (hz0 : i0.zero = some z) (hz1 : i0.size = size) (hz2 : i0.bytes = bytes) (hzs : z.cells.size = size) (hsz : 0 < size)
    (z23 : ∀ w, (Go.sizeOf (ρ.t 23)).run P w = .ok size w) (a : Addr) (c : Nat) (w : World) :
    Calls P (ρ.f 41) #[.slice (some a) 0 c] w fun e w' => ∃ v', e = .returned v' ∧ w'.ownsRow w.heap.size (ρ.t 23) size v' 0 [] ∧ Below w.heap.size w w' := by
  have mixed := L.mixed; have t4 := L.t4; have a4 := L.a4; have z4 := L.z4; have v4 := L.v4; have t22 := L.t22; have a22 := L.a22; have z22 := L.z22; have v22 := L.v22
  have q22 : ∀ (w : World) (a : Option Addr) (n c n' c' : Nat), (binOp .eql (ρ.t 22) (.slice a n c) (.slice none n' c')).run P w = .ok (.bool a.isNone) w := fun w a n c n' c' => Lib.run_eql_slice_nil w _ _ a n c n' c' L.t22
  have u22 : ∀ w, Sem.run P (underlying (ρ.t 22)) w = .ok (TypeDesc.slice (ρ.t 23)) w := run_underlying t22
  obtain ⟨_, _, FG⟩ := L.f41
  go_enter FG, SlBodyN.n41_ntmps ρ
  go_wp2_with (at_builtin; refine wpList_append_own _ rfl _ _ (ρ.t 22) rfl w.heap.size (ρ.t 23) i0 z size bytes t22 hi hz0 hz1 hz2 hzs hsz _ _ _ rfl (World.ownsRow_made w #[] 0 (Nat.le_refl _) (Nat.zero_le _) (by simp)) a 0 c [] rfl (by simp) (by intro j u hj; simp at hj) (by intro u hu; cases hu) (by unfold maxLen; omega) (by omega) (by simp) ?_)
  intro v' w1 hown hgrow hnil
  go_wp2
  go_ret
  refine ⟨v', rfl, by simpa using hown, ?_⟩
  exact ((Below.refl _ w).alloc (Nat.le_refl _) _).grown hgrow (by simp) (by intro k hk; simp [Value.ownBlock] at hk; omega)

theorem clone_task {P : Program} {gl : List (Nat × AV)} {A : AProg} {B : World → Prop} {ρ : Ren} (L : SlLaysE0.n41 P ρ) (i0 : TypeInfo) (z : Value) (size bytes : Nat) (hi : P.info? (ρ.t 23) = some i0) (hz0 : i0.zero = some z) (hz1 : i0.size = size) (hz2 : i0.bytes = bytes) (hzs : z.cells.size = size) (hsz : 0 < size)
    (z23 : ∀ w, (Go.sizeOf (ρ.t 23)).run P w = .ok size w) (he : ∀ args w, (callFunc (ρ.f 41) args).run P w = .ok (.enter (ρ.f 41) args) w)
    {args : List AV} {st : St} {o : AOut} {st' : St} (hh : cloneA size bytes args st = some (o, st')) :
    TaskOk P gl A B (.call (ρ.f 41) args) st (outRes st' o) := by
  unfold cloneA at hh
  split at hh
  · rename_i v
    intro base J w cargs hS hG hR
    simp only [Reps] at hR
    obtain ⟨x, xs, e1, hx, rfl⟩ := hR
    obtain rfl : cargs = #[x] := by apply Array.toList_inj.1; simpa using e1
    have hx := hx.asLst (m := size)
    refine .inl ⟨he _ _, callsIn_wide.2 ?_⟩
    cases hv : v.asLst size <;> simp only [hv] at hh <;> try (cases hh; done)
    rename_i m' es ap
    rw [hv] at hx
    split at hh
    · rename_i hc
      obtain ⟨rfl, hgr, hby⟩ := hc
      simp only [Rep] at hx
      split at hh
      · rename_i hes
        subst hes
        simp only [Option.some.injEq, Prod.mk.injEq] at hh
        obtain ⟨rfl, rfl⟩ := hh
        rcases hx.2 with ⟨rfl, _⟩ | ⟨a, cap, rfl, _⟩
        · refine (AnyE.slices_Clone_nil L 0 0 w).mono fun e w' ⟨h1, h2⟩ => ?_
          subst h2
          exact ⟨J, Inj.le.refl J, hS, .lst m' [] .no, .slice none 0 0, rfl, by simp [Rep], h1⟩
        · refine (clone_zero L i0 z m' bytes hi hz0 hz1 hz2 hzs hsz z23 a cap w).mono fun e w' ⟨v', h1, h2, h3⟩ => ?_
          refine ⟨J, Inj.le.refl J, hS.keep (Kept.of_below h3), .lst m' [] .no, v', rfl, ?_, h1⟩
          rcases h2.2 with ⟨rfl, _⟩ | ⟨g, c2, cur, rfl, _⟩
          · simp [Rep]
          · simp only [Rep]
            exact ⟨fun _ e => (by cases e), .inr ⟨_, c2, rfl, fun _ => rfl, Nat.zero_le _, fun e => (by cases e), by simp [Elems]⟩⟩
      · rename_i hes
        simp only [Option.some.injEq, Prod.mk.injEq] at hh
        obtain ⟨rfl, rfl⟩ := hh
        have hpos : 0 < es.length := List.length_pos_iff.2 hes
        rcases hx.2 with ⟨_, h⟩ | ⟨a, cap, rfl, hsp, hle, _, hel⟩
        · exact absurd h hes
        · obtain ⟨blk, off, sp⟩ := a
          obtain rfl : sp = none := hsp (by omega)
          obtain ⟨xs, hck, hrow⟩ := hel.chunks
          have hmul : es.length * bytes ≤ great * 256 := Nat.mul_le_mul hgr hby
          have hg : great * 256 ≤ 140737488355328 := by decide
          refine (AnyE.slices_Clone L i0 z m' bytes hi hz0 hz1 hz2 hzs hsz z23 blk off es.length cap xs w hck.length (Nat.le_trans hgr (by decide)) (Nat.le_trans hmul hg) (fun j u hj => hS.imOk _ _ _ (hrow j u hj)) (hck.reps.oneCells hck.isCell)).mono fun e w' ⟨v', h1, h2, _, h3⟩ => ?_
          rcases h2.2 with ⟨_, h⟩ | ⟨g, c2, cur, rfl, hbg, hgh, hnc, _, hcs, htk⟩
          · omega
          · have hS1 := hS.keep (Kept.of_below h3)
            have hlt : g < w'.heap.size := (Array.getElem?_eq_some_iff.1 hgh).1
            have hfl : (flat es).length = xs.length := hck.reps.length
            have hxl := hck.length
            have hmc : es.length * m' ≤ c2 * m' := Nat.mul_le_mul_right _ hnc
            have hadd := hS1.adopt (b := g) (n := cur.size) (w' := w') (a := .cells none (flat es)) rfl (by simp) (Nat.le_trans hS.size hbg) hlt
              (fun r o h1 h2 => by have := (hS.own r o g h1 h2).2.1; omega) (fun k v hv => by have := lt_of_cell (hS.imOk g k v hv); omega) rfl rfl rfl (fun _ _ => rfl)
              ⟨g, cur, ρ.t 23, by simp [Inj.bind], ⟨(0, 0), hgh, Clear.zero _⟩, by omega, by
                rw [hfl, hxl, htk]; exact Reps.mono (hS1.bind_le _ _) _ _ hck.reps, hck.isCell, (fun _ hT => by cases hT), cur.size, by simp [Inj.bind], by omega, Nat.le_refl _⟩
            refine ⟨_, hS1.bind_le _ _, hadd, .sl st.length m' 0 es.length none, _, rfl, ?_, h1⟩
            simp only [Rep]
            exact ⟨g, c2, by simp [Inj.bind], rfl, hnc, (fun k e => by cases e), cur.size, by simp [Inj.bind], by rw [hcs]; exact Nat.le_of_eq (Nat.zero_add _)⟩
    · cases hh
  · cases hh
end Go.Proofs.YtefildelnccljaaGreat.Ai

namespace Go.Proofs.YtefildelnccljaaGreat.Ai
open Go Go.Shelf Go.RowKit Go.Lib Go.Sort

def pairsOf : List AV → Option (List (Int × Int))
  | [] => some []
  | .int .i64 c :: .int .i64 a :: r => (pairsOf r).map ((c, a) :: ·)
  | _ => none
def pairCells : List (Int × Int) → List AV
  | [] => []
  | x :: r => .int .i64 x.1 :: .int .i64 x.2 :: pairCells r
def encP (x : Int × Int) : List Value := [.int .i64 x.1, .int .i64 x.2]
def pairVals : List (Int × Int) → List Value
  | [] => []
  | x :: r => .int .i64 x.1 :: .int .i64 x.2 :: pairVals r

def insP (lt : Int × Int → Int × Int → Bool) (x : Int × Int) : List (Int × Int) → List (Int × Int)
  | [] => [x]
  | y :: l => if lt y x then y :: insP lt x l else x :: y :: l
def sortP (lt : Int × Int → Int × Int → Bool) : List (Int × Int) → List (Int × Int)
  | [] => []
  | x :: l => insP lt x (sortP lt l)

theorem pairsOf_some : ∀ {cs : List AV} {l : List (Int × Int)}, pairsOf cs = some l → cs = pairCells l
  | [], l, h => by simp [pairsOf] at h; subst h; rfl
  | .int .i64 c :: .int .i64 a :: r, l, h => by
    simp only [pairsOf, Option.map_eq_some_iff] at h
    obtain ⟨l', h1, rfl⟩ := h
    rw [pairsOf_some h1]; rfl
theorem pairsOf_cells : ∀ l : List (Int × Int), pairsOf (pairCells l) = some l
  | [] => rfl
  | x :: l => by simp [pairsOf, pairCells, pairsOf_cells l]
theorem pairCells_length : ∀ l : List (Int × Int), (pairCells l).length = l.length * 2
  | [] => rfl
  | x :: l => by simp [pairCells, pairCells_length l]; omega
theorem pairVals_length : ∀ l : List (Int × Int), (pairVals l).length = l.length * 2
  | [] => rfl
  | x :: l => by simp [pairVals, pairVals_length l]; omega
theorem pairCells_isCell : ∀ l : List (Int × Int), (pairCells l).all AV.isCell = true
  | [] => rfl
  | x :: l => by simp [pairCells, pairCells_isCell l, AV.isCell]
theorem reps_pairs {J : Inj} : ∀ {l : List (Int × Int)} {xs : List Value}, Reps J (pairCells l) xs → xs = pairVals l
  | [], xs, h => by simpa [pairCells, pairVals, Reps] using h
  | x :: l, xs, h => by
    simp only [pairCells, Reps, Rep] at h
    obtain ⟨y, ys, rfl, rfl, y2, ys2, rfl, rfl, h2⟩ := h
    rw [reps_pairs h2]; rfl
theorem pairs_reps {J : Inj} : ∀ l : List (Int × Int), Reps J (pairCells l) (pairVals l)
  | [] => by simp [pairCells, pairVals, Reps]
  | x :: l => by
    simp only [pairCells, pairVals, Reps, Rep]
    exact ⟨_, _, rfl, rfl, _, _, rfl, rfl, pairs_reps l⟩
theorem pairVals_get : ∀ (l : List (Int × Int)) (t : Nat), t < l.length * 2 → (pairVals l)[t]? = some (encP (l[t / 2]?.getD default))[t % 2]!
  | [], t, h => by simp at h
  | x :: l, 0, _ => rfl
  | x :: l, 1, _ => rfl
  | x :: l, t + 2, h => by
    have : (t + 2) / 2 = t / 2 + 1 := by omega
    rw [this, Nat.add_mod_right]
    simp only [pairVals, List.getElem?_cons_succ]
    exact pairVals_get l t (by simp at h; omega)
theorem flatK_get (l : List (Int × Int)) (t : Nat) (h : t < l.length * 2) : (pairVals l)[t]? = some (flatK encP 2 l.toArray)[t]! := by
  rw [pairVals_get l t h, get_flatK _ _ _ _ (by simpa using h)]
  congr 3
  have : t / 2 < l.length := by omega
  simp [this]

theorem insP_perm (lt : Int × Int → Int × Int → Bool) (x : Int × Int) : ∀ l, (insP lt x l).Perm (x :: l)
  | [] => .refl _
  | y :: l => by
    simp only [insP]
    split
    · exact ((insP_perm lt x l).cons y).trans (.swap _ _ _)
    · exact .refl _
theorem sortP_perm (lt : Int × Int → Int × Int → Bool) : ∀ l, (sortP lt l).Perm l
  | [] => .refl _
  | x :: l => (insP_perm lt x _).trans ((sortP_perm lt l).cons x)
theorem insP_sorted {lt : Int × Int → Int × Int → Bool} (hO : SWO lt) (x : Int × Int) : ∀ l : List (Int × Int), l.Pairwise (fun a b => lt b a = false) → (insP lt x l).Pairwise fun a b => lt b a = false
  | [], _ => by simp [insP]
  | y :: l, h => by
    simp only [insP]
    rw [List.pairwise_cons] at h
    split
    · rename_i hy
      rw [List.pairwise_cons]
      refine ⟨fun z hz => ?_, insP_sorted hO x l h.2⟩
      rcases List.mem_cons.1 ((insP_perm lt x l).mem_iff.1 hz) with rfl | hz
      · cases hxy : lt z y with
        | false => rfl
        | true => have := hO.trans _ _ _ hxy hy; rw [hO.irrefl] at this; cases this
      · exact h.1 z hz
    · rename_i hy
      have hy : lt y x = false := by simpa using hy
      rw [List.pairwise_cons]
      refine ⟨fun z hz => ?_, List.pairwise_cons.2 h⟩
      rcases List.mem_cons.1 hz with rfl | hz
      · exact hy
      · exact hO.ntrans _ _ _ (h.1 z hz) hy
theorem sortP_sorted {lt : Int × Int → Int × Int → Bool} (hO : SWO lt) : ∀ l : List (Int × Int), (sortP lt l).Pairwise fun a b => lt b a = false
  | [] => .nil
  | x :: l => insP_sorted hO x _ (sortP_sorted hO l)
theorem mergeSort_sortP {lt : Int × Int → Int × Int → Bool} (hO : SWO lt) (hT : ∀ x y, lt x y = false → lt y x = false → x = y) (l : List (Int × Int)) : (l.mergeSort fun x y => !lt y x) = sortP lt l := by
  refine List.Perm.eq_of_pairwise (le := fun x y => (!lt y x) = true) ?_ ?_ ?_ ((List.mergeSort_perm _ _).trans (sortP_perm lt l).symm)
  · intro a b _ _ h1 h2
    simp only [Bool.not_eq_true'] at h1 h2
    exact hT a b h2 h1
  · refine List.pairwise_mergeSort ?_ ?_ _
    · intro a b c h1 h2
      simp only [Bool.not_eq_true'] at h1 h2 ⊢
      exact hO.ntrans c b a h2 h1
    · intro a b
      cases h : lt b a with
      | false => simp
      | true => cases h' : lt a b with
        | false => simp
        | true => have := hO.trans _ _ _ h h'; rw [hO.irrefl] at this; cases this
  · exact (sortP_sorted hO l).imp fun h => by simpa using h

/-- slices.SortFunc by the closure g, at pairs. -/
def sortA (g : FuncId) (lt : Int × Int → Int × Int → Bool) : List AV → St → Option (AOut × St)
  | [v, .func (.func g') [] []], st => if g' = g then (match v.asLst 2 with
    | .lst 2 [] _ => some (.ret (.tup []), st)
    | .sl r 2 0 n _ => (match st[r]? with
      | some (.cells none cs) => (match pairsOf cs with
        | some l => if l.length = n ∧ n ≤ great then some (.ret (.tup []), st.set r (.cells none (pairCells (sortP lt l)))) else none
        | none => none)
      | _ => none)
    | _ => none) else none
  | _, _ => none

theorem sort_task {P : Program} {gl : List (Nat × AV)} {A : AProg} {B : World → Prop} {ρ : Ren} (L : SlLaysF0.n6 P ρ) (aE : ∀ w, (isAgg (ρ.t 24)).run P w = .ok true w) (zE : ∀ w, (Go.sizeOf (ρ.t 24)).run P w = .ok 2 w)
    (g : Nat) (cf : Int × Int → Int × Int → Int) (hO : SWO (ltOf cf)) (hT : ∀ x y, (ltOf cf) x y = false → (ltOf cf) y x = false → x = y) (eg : ∀ args w, (callFunc g args).run P w = .ok (.enter g args) w)
    (hcmp : ∀ blk off size w, CmpLays P g #[] encP 2 cf blk off size w) (he : ∀ args w, (callFunc (ρ.f 6) args).run P w = .ok (.enter (ρ.f 6) args) w)
    {args : List AV} {st : St} {o : AOut} {st' : St} (hh : sortA g (ltOf cf) args st = some (o, st')) : TaskOk P gl A B (.call (ρ.f 6) args) st (outRes st' o) := by
  unfold sortA at hh
  split at hh
  · rename_i v g'
    split at hh
    · rename_i hg
      subst hg
      intro base J w cargs hS hG hR
      simp only [Reps, Rep] at hR
      obtain ⟨x, _, e1, hx, fv, _, rfl, ⟨a', b', rfl, ha, hb⟩, rfl⟩ := hR
      obtain rfl : a' = #[] := by apply Array.toList_inj.1; simpa using ha
      obtain rfl : b' = #[] := by apply Array.toList_inj.1; simpa using hb
      obtain rfl : cargs = #[x, .func (.func g') #[] #[]] := by apply Array.toList_inj.1; simpa using e1
      have hx := hx.asLst (m := 2)
      refine .inl ⟨he _ _, callsIn_wide.2 ?_⟩
      split at hh
      · rename_i hv
        simp only [Option.some.injEq, Prod.mk.injEq] at hh
        obtain ⟨rfl, rfl⟩ := hh
        rw [hv] at hx
        simp only [Rep] at hx
        have : ∃ p cap, x = .slice p 0 cap := by
          rcases hx.2 with ⟨rfl, _⟩ | ⟨a, cap, rfl, _⟩
          · exact ⟨none, 0, rfl⟩
          · exact ⟨some a, cap, rfl⟩
        obtain ⟨p, cap, rfl⟩ := this
        refine (AnyF.slices_SortFunc_none L p cap _ w).mono fun e w' ⟨h1, h2⟩ => ?_
        subst h2
        exact ⟨J, Inj.le.refl J, hS, .tup [], .tuple #[], rfl, by simp [Rep, Reps], h1⟩
      · rename_i r n cp hv
        rw [hv] at hx
        cases hst : st[r]? with
        | none => simp [hst] at hh
        | some ob =>
        rw [hst] at hh
        cases ob <;> try (simp at hh; done)
        rename_i ty cs
        cases ty <;> try (simp at hh; done)
        simp only [] at hh
        cases hp : pairsOf cs with
        | none => simp [hp] at hh
        | some l =>
        rw [hp] at hh
        simp only [] at hh
        split at hh
        · rename_i hc
          obtain ⟨rfl, hgr⟩ := hc
          simp only [Option.some.injEq, Prod.mk.injEq] at hh
          obtain ⟨rfl, rfl⟩ := hh
          have hcs := pairsOf_some hp
          subst hcs
          simp only [Rep] at hx
          obtain ⟨b, c, hb, rfl, hnc, _, sn, hsn, hsl⟩ := hx
          obtain ⟨b', cc, tt, q1, ⟨fr, q2, qfr⟩, q3, q4, q5, qty, sn', hsn', hs1, hs2⟩ := hS.obj r _ hst
          rw [hb] at q1; cases q1
          rw [hsn] at hsn'; cases hsn'
          have hpl := pairCells_length l
          have hvals := reps_pairs q4
          have hbl : b < w.heap.size := (Array.getElem?_eq_some_iff.1 q2).1
          have hget : ∀ t, t < l.length * 2 → cc[t]? = some (flatK encP 2 l.toArray)[t]! := by
            intro t ht
            rw [← flatK_get l t ht, ← hvals, List.getElem?_take, if_pos (by omega)]; simp
          have hH : HoldsK encP 2 w b 0 l.toArray := by
            intro j hj
            simp only [size_flatK, List.size_toArray] at hj
            rw [cell_of_heap q2]
            refine ⟨by rw [Nat.zero_add]; exact hget j hj, ?_⟩
            have := qfr (0 + j) (by omega)
            simp only [World.frozen?, q2]
            simp only [Bool.and_eq_false_iff, decide_eq_false_iff_not]
            omega
          have hcon := AnyQ.slices_SortFunc_total L 2 aE zE encP (fun _ => rfl) (fun x v hv => by simp [encP] at hv; rcases hv with rfl | rfl <;> rfl) cf hO g' #[] b 0 c l.toArray w eg (hcmp _ _ _ _) hH hbl (by rw [List.size_toArray]; exact Nat.lt_of_le_of_lt hgr (by decide)) hT
          simp only [List.size_toArray] at hcon
          refine hcon.mono fun e w' ⟨h1, nd, os, h2⟩ => ?_
          rw [mergeSort_sortP hO hT] at h2
          generalize hl' : sortP (ltOf cf) l = l' at h2 ⊢
          have hll : l'.length = l.length := by rw [← hl']; exact (sortP_perm _ _).length_eq
          let w1 := putRowK encP 2 (Sort.ahead w nd) b 0 l'.toArray
          let c1 := Sort.putCells id 0 (flatK encP 2 l'.toArray) cc
          have hc1 : c1.size = cc.size := by simp [c1, Sort.putCells]
          have hg1 : w1.heap[b]? = some (.cells c1 tt fr) := by
            simp only [w1, putRowK, putRow, mapBlock, Sort.ahead, Array.getElem?_modify, if_true, q2]
            rfl
          have hgo : ∀ b', b' ≠ b → w1.heap[b']? = w.heap[b']? := by
            intro b' hb'
            simp only [w1, putRowK, putRow, mapBlock, Sort.ahead, Array.getElem?_modify]
            rw [if_neg (fun h => hb' h.symm)]
          have hpl' := pairCells_length l'
          have htk : c1.toList.take (pairCells l').length = pairVals l' := by
            apply List.ext_getElem?
            intro t
            rw [List.getElem?_take]
            by_cases ht : t < l'.length * 2
            · rw [if_pos (by omega), flatK_get l' t ht]
              have htc : t < cc.size := by omega
              simp [c1, Sort.putCells, htc, ht]
            · rw [if_neg (by omega), List.getElem?_eq_none (by rw [pairVals_length]; omega)]
          have hS1 := hS.upd (w' := w1) (a := .cells none (pairCells l')) hst hb rfl (by simp) rfl (by simp) rfl rfl (by simp [w1, putRowK, Sort.ahead]) hgo
            ⟨b, c1, tt, hb, ⟨fr, hg1, by rw [hc1]; exact qfr⟩, by omega, by rw [htk]; exact pairs_reps l', pairCells_isCell l', (fun _ hT => by cases hT), sn, hsn, by omega, by omega⟩
          have hk : Kept w1 w' := by
            subst h2
            refine ⟨rfl, rfl, by simp [sortWorldK, w1], fun b' hb' => ?_⟩
            exact heap_grow_old w1 os hb'
          exact ⟨J, Inj.le.refl J, hS1.keep hk, .tup [], .tuple #[], rfl, by simp [Rep, Reps], h1⟩
        · cases hh
      · cases hh
    · cases hh
  · cases hh
end Go.Proofs.YtefildelnccljaaGreat.Ai

namespace Go.Proofs.YtefildelnccljaaGreat.Ai
open Go

section
variable {A : AProg}
theorem task_of_aw_mut {f : FuncId} {F : AFunc} {args : List AV} {v : AV} {N : Nat} (hp : A.prim f = none) (hf : A.fn f = some F) (hk : F.keep = false) (hN : args.length + (F.ntmps - args.length) = N)
    {st st2 : St} (hst : st2.all (AObj.lowB st.length) = true)
    (h : ∀ e : Env, e.length = N → (∀ i, AX.ev e (.t i) = args.getD i .undef) → ∀ K : PostQ,
      (∀ x e st', (x = .ret ∨ x = .nrm) → st'.take st.length = st2 → (∃ vs, resultsA st' e F.results = some vs ∧ AV.still st.length st' (oneOf vs) = some v) → K x e [] st') → AW A f none F.body e [] st K) :
    runL A (.call f args) st = some ⟨.ret, ⟨[v], []⟩, st2⟩ := by
  have hev : ∀ i, AX.ev (args ++ List.replicate (F.ntmps - args.length) .undef) (.t i) = args.getD i .undef := by
    intro i
    simp only [AX.ev, List.getD_eq_getElem?_getD]
    by_cases hi : i < args.length
    · rw [List.getElem?_append_left hi]
    · rw [List.getElem?_append_right (by omega), List.getElem?_eq_none (by omega : args.length ≤ i), List.getElem?_replicate]
      split <;> rfl
  obtain ⟨x, e', ds', st', hx, h1, h2, h3, vs, h4, h5⟩ := h (args ++ List.replicate (F.ntmps - args.length) .undef) (by simpa using hN) hev
    (fun x e ds st' => (x = .ret ∨ x = .nrm) ∧ ds = [] ∧ st'.take st.length = st2 ∧ ∃ vs, resultsA st' e F.results = some vs ∧ AV.still st.length st' (oneOf vs) = some v)
    (fun x e st' h1 h2 h3 => ⟨h1, rfl, h2, h3⟩)
  subst h2
  have hs : Ai.settle st.length (oneOf vs) st' = some (v, st2) := by
    simp only [Ai.settle, h5, h3, hst, if_true]
  rw [runL_eq]; simp only [layer, hp, callFn, hf, hx, runDefs]; rcases h1 with rfl | rfl <;> simp only [h4, hk, hs, Bool.false_eq_true, if_false]

/-- A world of which one object is another. -/
theorem StOk.put {st : St} (h : StOk st) {r : Nat} {o : AObj} (ho : AObj.lowB st.length o = true) : (st.set r o).all (AObj.lowB st.length) = true := by
  have h : st.all (AObj.lowB st.length) = true := h
  rw [List.all_eq_true] at h ⊢
  intro x hx
  rcases List.mem_or_eq_of_mem_set hx with hx | rfl
  · exact h x hx
  · exact ho
end
end Go.Proofs.YtefildelnccljaaGreat.Ai

namespace Go.Proofs.YtefildelnccljaaGreat.Ai
open Go
section
variable {A : AProg} {fn : FuncId} {rnd : Option Nat} {e : Env} {ds : List ADef} {st : St} {Q : PostQ}
theorem conda_split {a b : ACode} {t : Bool} (h1 : t = true → AW A fn rnd a e ds st Q) (h2 : t = false → AW A fn rnd b e ds st Q) : CondA A fn rnd a b e ds st Q (.bool t) := by
  cases t
  · exact conda_false.2 (h2 rfl)
  · exact conda_true.2 (h1 rfl)
theorem grda_split {d : Option Nat} {op : AOp} {os : List AOper} {b : Bool} (h1 : b = true → NxA A d os e ds st Q (opA op e st)) (h2 : b = false → AWo A os (setDst d e .undef) ds st Q) : GrdA A d op os e ds st Q (some b) := by
  cases b
  · exact grda_false.2 (h2 rfl)
  · exact grda_true.2 (h1 rfl)
theorem conda_splitn {a b : ACode} {t : Bool} (h1 : t = false → AW A fn rnd a e ds st Q) (h2 : t = true → AW A fn rnd b e ds st Q) : CondA A fn rnd a b e ds st Q (.bool (!t)) := by
  cases t
  · exact conda_true.2 (h1 rfl)
  · exact conda_false.2 (h2 rfl)
theorem grda_splitn {d : Option Nat} {op : AOp} {os : List AOper} {b : Bool} (h1 : b = false → NxA A d os e ds st Q (opA op e st)) (h2 : b = true → AWo A os (setDst d e .undef) ds st Q) : GrdA A d op os e ds st Q (some (!b)) := by
  cases b
  · exact grda_true.2 (h1 rfl)
  · exact grda_false.2 (h2 rfl)
theorem aw_assoc {a b c : ACode} : AW A fn rnd (.seq (.seq a b) c) e ds st Q ↔ AW A fn rnd (.seq a (.seq b c)) e ds st Q := by
  simp only [aw_seq]
  constructor
  · intro h; exact aw_mono h fun x e ds st h => by cases x <;> first | exact h | (simp only [SeqQ, aw_seq] at h ⊢; exact h)
  · intro h; exact aw_mono h fun x e ds st h => by cases x <;> first | exact h | (simp only [SeqQ, aw_seq] at h ⊢; exact h)
/-- What a part computes, and no more of it. -/
theorem aw_join {a b : ACode} (R : Env → Prop) (h : AW A fn rnd a e ds st (fun x e2 ds2 st2 => x = .nrm ∧ ds2 = ds ∧ st2 = st ∧ R e2)) (g : ∀ e2, Same a.writes e e2 → R e2 → AW A fn rnd b e2 ds st Q) : AW A fn rnd (.seq a b) e ds st Q := by
  rw [aw_seq]
  refine aw_mono (aw_same h) ?_
  rintro x e2 ds2 st2 ⟨hs, rfl, rfl, rfl, hr⟩
  exact g e2 hs hr
end
end Go.Proofs.YtefildelnccljaaGreat.Ai

namespace Go.Proofs.YtefildelnccljaaGreat
open Go Go.Shelf Go.RowKit Go.Sort Go.Lib Ai

/-- How names.Order compares. -/
def cfF (x y : Int × Int) : Int := if Lib.compareInt x.2 y.2 = 0 then Lib.compareInt x.1 y.1 else Lib.compareInt x.2 y.2
def ltF (x y : Int × Int) : Bool := decide (x.2 < y.2) || (decide (x.2 = y.2) && decide (x.1 < y.1))
theorem ltF_eq : ltOf cfF = ltF := by
  funext x y
  unfold ltOf cfF ltF Lib.compareInt
  rcases Int.lt_trichotomy x.2 y.2 with h | h | h
  · simp [h]
  · have h1 : ¬ x.2 < y.2 := by omega
    have h2 : ¬ y.2 < x.2 := by omega
    simp only [h1, h2, h, if_false, if_true, decide_true, Bool.true_and, decide_false, Bool.false_or, Int.lt_irrefl]
    rcases Int.lt_trichotomy x.1 y.1 with g | g | g
    · simp [g]
    · simp [g]
    · have g1 : ¬ x.1 < y.1 := by omega
      simp [g, g1]
  · have h1 : ¬ x.2 < y.2 := by omega
    have h2 : ¬ x.2 = y.2 := by omega
    simp [h, h1, h2]
theorem ltF_swo : SWO ltF where
  irrefl x := by simp [ltF]
  trans x y z h1 h2 := by simp [ltF] at *; omega
  ntrans x y z h1 h2 := by simp [ltF] at *; omega
theorem ltF_part (x y : Int × Int) (h1 : ltF x y = false) (h2 : ltF y x = false) : x = y := by
  simp [ltF] at *
  exact Prod.ext (by omega) (by omega)

theorem enters44 : ∀ args w, (callFunc 44 args).run Tryz.prog w = .ok (.enter 44 args) w := enters_of Tryz.func44 (by kernel_rfl) rfl
theorem enters45 : ∀ args w, (callFunc 45 args).run Tryz.prog w = .ok (.enter 45 args) w := enters_of Tryz.func45 (by kernel_rfl) rfl
theorem enters46 : ∀ args w, (callFunc 46 args).run Tryz.prog w = .ok (.enter 46 args) w := enters_of Tryz.func46 (by kernel_rfl) rfl
theorem enters155 : ∀ args w, (callFunc 155 args).run Tryz.prog w = .ok (.enter 155 args) w := enters_of Tryz.func155 (by kernel_rfl) rfl

theorem clone44 {gl : List (Nat × AV)} {A : AProg} {B : World → Prop} {args : List AV} {st : St} {o : AOut} {st' : St} (hh : cloneA 2 16 args st = some (o, st')) : TaskOk Tryz.prog gl A B (.call 44 args) st (outRes st' o) :=
  have ⟨i0, h1, h2, h3, h4⟩ := info_parts (P := Tryz.prog) (e := 27) (z := .agg #[.int .i64 0, .int .i64 0]) (size := 2) (bytes := 16) (by kernel_rfl)
  clone_task (ρ := Tryz.clone44_ren) Tryz.clone44 i0 (.agg #[.int .i64 0, .int .i64 0]) 2 16 h1 h2 h3 h4 rfl (by decide) Tryz.sizeOf27 enters44 hh
theorem clone155 {gl : List (Nat × AV)} {A : AProg} {B : World → Prop} {args : List AV} {st : St} {o : AOut} {st' : St} (hh : cloneA 1 8 args st = some (o, st')) : TaskOk Tryz.prog gl A B (.call 155 args) st (outRes st' o) :=
  have ⟨i0, h1, h2, h3, h4⟩ := info_parts (P := Tryz.prog) (e := 3) (z := .int .i64 0) (size := 1) (bytes := 8) (by kernel_rfl)
  clone_task (ρ := Tryz.clone155_ren) Tryz.clone155 i0 (.int .i64 0) 1 8 h1 h2 h3 h4 rfl (by decide) Tryz.sizeOf3 enters155 hh

theorem cmpLays46 (blk off size : Nat) (w : World) : CmpLays Tryz.prog 46 #[] encP 2 cfF blk off size w :=
  fun _ _ _ _ x y => closure46 x y _

theorem sort45 {gl : List (Nat × AV)} {A : AProg} {B : World → Prop} {args : List AV} {st : St} {o : AOut} {st' : St} (hh : sortA 46 ltF args st = some (o, st')) : TaskOk Tryz.prog gl A B (.call 45 args) st (outRes st' o) := by
  rw [← ltF_eq] at hh
  exact sort_task (ρ := Tryz.sort45_ren) Tryz.sort45 Tryz.isAgg27 Tryz.sizeOf27 46 cfF (ltF_eq ▸ ltF_swo) (by rw [ltF_eq]; exact ltF_part) enters46 cmpLays46 enters45 hh
end Go.Proofs.YtefildelnccljaaGreat

namespace Go.Proofs.YtefildelnccljaaGreat
open Go Ai

def a2 : AFunc := ⟨1, [],
 (.reg [⟨some 0, .call (.k (.func (.func 1) [] [])) [], none⟩]),
 [], false⟩

def a3_0 : ACode := (.seq (.seq (.reg [⟨some 10, .mov (.t 4), none⟩,
 ⟨some 11, .mov (.t 0), none⟩,
 ⟨some 12, .lenSl (.t 11), none⟩,
 ⟨some 13, .bin .lss (.t 10) (.t 12), none⟩])
 (.cond (.t 13) .skip
 (.exit 0)))
 (.seq (.block 1 (.reg [⟨some 16, .mov (.t 3), none⟩,
 ⟨some 17, .mov (.t 0), none⟩,
 ⟨some 18, .mov (.t 4), none⟩,
 ⟨some 19, .indexAddr 2 true none (.t 17) (.t 18), none⟩,
 ⟨some 20, .load 2 true (.t 19), none⟩,
 ⟨some 21, .call (.k (.func (.func 15) [] [])) [(.t 16), (.t 20)], none⟩,
 ⟨some 3, .mov (.t 21), none⟩]))
 (.reg [⟨some 14, .mov (.t 4), none⟩,
 ⟨some 15, .bin .add (.t 14) (.k (.int .i64 1)), none⟩,
 ⟨some 4, .mov (.t 15), none⟩])))

def a3 : AFunc := ⟨26, [.tmp 2],
 (.seq (.reg [⟨some 2, .mov (.k (.bool false)), none⟩])
 (.seq (.seq (.reg [⟨some 5, .call (.k (.func (.func 14) [] [])) [], none⟩,
 ⟨some 6, .un .not (.t 5), none⟩])
 (.cond (.t 6) (.seq (.reg [⟨some 2, .mov (.k (.bool false)), none⟩])
 .ret)
 .skip))
 (.seq (.seq (.reg [⟨some 7, .mov (.t 0), none⟩,
 ⟨some 8, .lenSl (.t 7), none⟩,
 ⟨some 9, .bin .gtr (.t 8) (.k (.int .i64 60)), none⟩])
 (.cond (.t 9) (.seq (.reg [⟨some 2, .mov (.k (.bool true)), none⟩])
 .ret)
 .skip))
 (.seq (.reg [⟨some 3, .mov (.k (.lst 2 [] .tight)), none⟩])
 (.seq (.seq (.reg [⟨some 4, .mov (.k (.int .i64 0)), none⟩])
 (.block 0 (.loop a3_0)))
 (.seq (.reg [⟨some 22, .mov (.t 0), none⟩,
 ⟨some 23, .call (.k (.func (.func 17) [] [])) [(.t 22)], none⟩,
 ⟨some 24, .mov (.t 3), none⟩,
 ⟨some 25, .call (.k (.func (.func 16) [] [])) [(.t 23), (.t 24)], none⟩,
 ⟨some 2, .mov (.t 25), none⟩])
 .ret)))))),
 [], false⟩

def a4 : AFunc := ⟨32, [.tmp 2],
 (.seq (.reg [⟨some 2, .mov (.k (.bool false)), none⟩])
 (.seq (.seq (.reg [⟨some 4, .call (.k (.func (.func 14) [] [])) [], none⟩,
 ⟨some 5, .un .not (.t 4), none⟩])
 (.cond (.t 5) (.seq (.reg [⟨some 2, .mov (.k (.bool false)), none⟩])
 .ret)
 .skip))
 (.seq (.seq (.reg [⟨some 6, .mov (.t 0), none⟩,
 ⟨some 7, .lenSl (.t 6), none⟩,
 ⟨some 8, .bin .gtr (.t 7) (.k (.int .i64 40)), none⟩])
 (.cond (.t 8) (.seq (.reg [⟨some 2, .mov (.k (.bool true)), none⟩])
 .ret)
 .skip))
 (.seq (.reg [⟨some 9, .mov (.t 0), none⟩,
 ⟨some 10, .call (.k (.func (.func 17) [] [])) [(.t 9)], none⟩,
 ⟨some 3, .mov (.t 10), none⟩])
 (.seq (.reg [⟨some 11, .mov (.t 3), none⟩,
 ⟨some 12, .call (.k (.func (.func 17) [] [])) [(.t 11)], none⟩,
 ⟨some 13, .mov (.t 3), none⟩,
 ⟨some 14, .call (.k (.func (.func 16) [] [])) [(.t 12), (.t 13)], none⟩,
 ⟨some 15, .mov (.t 14), none⟩,
 ⟨some 16, .mkLit 2 [] [] false, some (15, true)⟩,
 ⟨some 17, .mov (.t 0), some (15, true)⟩,
 ⟨some 18, .append 2 16 (some 27) (.t 16) (.t 17), some (15, true)⟩,
 ⟨some 19, .mov (.t 0), some (15, true)⟩,
 ⟨some 20, .append 2 16 (some 27) (.t 18) (.t 19), some (15, true)⟩,
 ⟨some 21, .call (.k (.func (.func 17) [] [])) [(.t 20)], some (15, true)⟩,
 ⟨some 22, .mov (.t 3), some (15, true)⟩,
 ⟨some 23, .call (.k (.func (.func 16) [] [])) [(.t 21), (.t 22)], some (15, true)⟩,
 ⟨some 24, .pick (.t 15) (.t 23) (.k (.bool false)), none⟩,
 ⟨some 25, .mov (.t 24), none⟩,
 ⟨some 26, .mov (.t 3), some (25, true)⟩,
 ⟨some 27, .lenSl (.t 26), some (25, true)⟩,
 ⟨some 28, .mov (.t 0), some (25, true)⟩,
 ⟨some 29, .lenSl (.t 28), some (25, true)⟩,
 ⟨some 30, .bin .leq (.t 27) (.t 29), some (25, true)⟩,
 ⟨some 31, .pick (.t 25) (.t 30) (.k (.bool false)), none⟩,
 ⟨some 2, .mov (.t 31), none⟩])
 .ret))))),
 [], false⟩

def a5 : AFunc := ⟨31, [.tmp 2],
 (.seq (.reg [⟨some 1, .box 2 (.t 0) false, none⟩,
 ⟨some 2, .mov (.k (.bool false)), none⟩])
 (.seq (.seq (.reg [⟨some 3, .call (.k (.func (.func 14) [] [])) [], none⟩,
 ⟨some 4, .un .not (.t 3), none⟩])
 (.cond (.t 4) (.seq (.reg [⟨some 2, .mov (.k (.bool false)), none⟩])
 .ret)
 .skip))
 (.seq (.seq (.reg [⟨some 5, .load 2 true (.t 1), none⟩,
 ⟨some 6, .call (.k (.func (.func 18) [] [])) [(.t 5)], none⟩])
 (.cond (.t 6) (.seq (.reg [⟨some 2, .mov (.k (.bool true)), none⟩])
 .ret)
 .skip))
 (.seq (.seq (.reg [⟨some 7, .load 2 true (.t 1), none⟩,
 ⟨some 8, .call (.k (.func (.func 19) [] [])) [(.t 7)], none⟩,
 ⟨some 9, .un .not (.t 8), none⟩])
 (.cond (.t 9) (.seq (.reg [⟨some 10, .load 2 true (.t 1), none⟩,
 ⟨some 11, .call (.k (.func (.func 20) [] [])) [(.t 10)], none⟩,
 ⟨some 12, .lenSl (.t 11), none⟩,
 ⟨some 13, .bin .eql (.t 12) (.k (.int .i64 0)), none⟩,
 ⟨some 14, .mov (.t 13), none⟩,
 ⟨some 15, .load 2 true (.t 1), some (14, true)⟩,
 ⟨some 16, .call (.k (.func (.func 21) [] [])) [(.t 15)], some (14, true)⟩,
 ⟨some 17, .un .not (.t 16), some (14, true)⟩,
 ⟨some 18, .pick (.t 14) (.t 17) (.k (.bool false)), none⟩,
 ⟨some 2, .mov (.t 18), none⟩])
 .ret)
 .skip))
 (.seq (.plan [⟨0, ⟨some 19, .load 2 true (.t 1), none⟩, []⟩,
 ⟨2, ⟨some 21, .load 2 true (.t 1), none⟩, []⟩,
 ⟨1, ⟨some 20, .call (.k (.func (.func 20) [] [])) [(.t 19)], none⟩, [2]⟩,
 ⟨3, ⟨some 22, .call (.k (.func (.func 22) [] [])) [(.t 21)], none⟩, []⟩,
 ⟨4, ⟨some 23, .call (.k (.func (.func 16) [] [])) [(.t 20), (.t 22)], none⟩, []⟩,
 ⟨5, ⟨some 24, .mov (.t 23), none⟩, []⟩,
 ⟨6, ⟨some 25, .load 2 true (.t 1), some (24, true)⟩, []⟩,
 ⟨8, ⟨some 27, .load 2 true (.t 1), some (24, true)⟩, []⟩,
 ⟨7, ⟨some 26, .call (.k (.func (.func 21) [] [])) [(.t 25)], some (24, true)⟩, [8]⟩,
 ⟨9, ⟨some 28, .call (.k (.func (.func 23) [] [])) [(.t 27)], some (24, true)⟩, []⟩,
 ⟨10, ⟨some 29, .eqBool false (.t 26) (.t 28), some (24, true)⟩, []⟩,
 ⟨11, ⟨some 30, .pick (.t 24) (.t 29) (.k (.bool false)), none⟩, []⟩,
 ⟨12, ⟨some 2, .mov (.t 30), none⟩, []⟩])
 .ret))))),
 [], false⟩

def a6_0 : ACode := (.seq (.seq (.reg [⟨some 23, .mov (.t 7), none⟩,
 ⟨some 24, .fieldAddr 0 1 false (.t 3), none⟩,
 ⟨some 25, .load 1 false (.t 24), none⟩,
 ⟨some 26, .lenSl (.t 25), none⟩,
 ⟨some 27, .bin .lss (.t 23) (.t 26), none⟩])
 (.cond (.t 27) .skip
 (.exit 0)))
 (.seq (.block 1 (.seq (.reg [⟨some 30, .fieldAddr 0 1 false (.t 3), none⟩,
 ⟨some 31, .load 1 false (.t 30), none⟩,
 ⟨some 32, .mov (.t 7), none⟩,
 ⟨some 33, .indexAddr 7 true none (.t 31) (.t 32), none⟩,
 ⟨some 34, .fieldAddr 0 1 false (.t 33), none⟩,
 ⟨some 35, .load 1 false (.t 34), none⟩,
 ⟨some 36, .bin .eql (.t 35) (.k (.int .i64 3)), none⟩])
 (.cond (.t 36) (.reg [⟨some 37, .mov (.t 6), none⟩,
 ⟨some 38, .bin .add (.t 37) (.k (.int .i64 1)), none⟩,
 ⟨some 6, .mov (.t 38), none⟩])
 .skip)))
 (.reg [⟨some 28, .mov (.t 7), none⟩,
 ⟨some 29, .bin .add (.t 28) (.k (.int .i64 1)), none⟩,
 ⟨some 7, .mov (.t 29), none⟩])))

def a6 : AFunc := ⟨53, [.tmp 2],
 (.seq (.reg [⟨some 2, .mov (.k (.bool false)), none⟩])
 (.seq (.seq (.reg [⟨some 8, .call (.k (.func (.func 14) [] [])) [], none⟩,
 ⟨some 9, .un .not (.t 8), none⟩])
 (.cond (.t 9) (.seq (.reg [⟨some 2, .mov (.k (.bool false)), none⟩])
 .ret)
 .skip))
 (.seq (.reg [⟨some 11, .mov (.t 0), none⟩,
 ⟨some 12, .call (.k (.func (.func 24) [] [])) [(.t 11), (.k (.bool false))], none⟩,
 ⟨some 10, .mov (.t 12), none⟩,
 ⟨some 13, .extract (.t 10) 0, none⟩,
 ⟨some 14, .extract (.t 10) 1, none⟩,
 ⟨some 15, .extract (.t 10) 2, none⟩,
 ⟨some 3, .new (.agg [(.lst 7 [] .tight), (.lst 9 [] .tight)]) true none, none⟩,
 ⟨some 5, .new (.agg [(.int .i64 0), (.int .i64 0)]) true none, none⟩,
 ⟨none, .store 2 (.t 3) (.t 13), none⟩,
 ⟨some 4, .mov (.t 14), none⟩,
 ⟨none, .store 2 (.t 5) (.t 15), none⟩])
 (.seq (.seq (.reg [⟨some 16, .fieldAddr 0 1 false (.t 5), none⟩,
 ⟨some 17, .load 1 false (.t 16), none⟩,
 ⟨some 18, .bin .neq (.t 17) (.k (.int .i64 0)), none⟩,
 ⟨some 19, .mov (.t 18), none⟩,
 ⟨some 20, .load 2 true (.t 3), some (19, false)⟩,
 ⟨some 21, .call (.k (.func (.func 18) [] [])) [(.t 20)], some (19, false)⟩,
 ⟨some 22, .pick (.t 19) (.k (.bool true)) (.t 21), none⟩])
 (.cond (.t 22) (.seq (.reg [⟨some 2, .mov (.k (.bool true)), none⟩])
 .ret)
 .skip))
 (.seq (.reg [⟨some 6, .mov (.k (.int .i64 0)), none⟩])
 (.seq (.seq (.reg [⟨some 7, .mov (.k (.int .i64 0)), none⟩])
 (.block 0 (.loop a6_0)))
 (.seq (.plan [⟨0, ⟨some 39, .load 2 true (.t 3), none⟩, []⟩,
 ⟨2, ⟨some 41, .load 2 true (.t 3), none⟩, []⟩,
 ⟨1, ⟨some 40, .call (.k (.func (.func 20) [] [])) [(.t 39)], none⟩, [2]⟩,
 ⟨3, ⟨some 42, .call (.k (.func (.func 22) [] [])) [(.t 41)], none⟩, []⟩,
 ⟨4, ⟨some 43, .call (.k (.func (.func 16) [] [])) [(.t 40), (.t 42)], none⟩, []⟩,
 ⟨5, ⟨some 44, .mov (.t 43), none⟩, []⟩,
 ⟨6, ⟨some 45, .load 2 true (.t 3), some (44, true)⟩, []⟩,
 ⟨7, ⟨some 46, .call (.k (.func (.func 21) [] [])) [(.t 45)], some (44, true)⟩, []⟩,
 ⟨8, ⟨some 47, .un .not (.t 46), some (44, true)⟩, []⟩,
 ⟨9, ⟨some 48, .mov (.t 47), some (44, true)⟩, []⟩,
 ⟨10, ⟨some 49, .mov (.t 6), some (48, false)⟩, []⟩,
 ⟨11, ⟨some 50, .bin .eql (.t 49) (.k (.int .i64 1)), some (48, false)⟩, []⟩,
 ⟨12, ⟨some 51, .pick (.t 48) (.k (.bool true)) (.t 50), some (44, true)⟩, []⟩,
 ⟨13, ⟨some 52, .pick (.t 44) (.t 51) (.k (.bool false)), none⟩, []⟩,
 ⟨14, ⟨some 2, .mov (.t 52), none⟩, []⟩])
 .ret))))))),
 [], false⟩

def a8_0 : ACode := (.seq (.seq (.reg [⟨some 147, .mov (.t 16), none⟩,
 ⟨some 148, .mov (.t 8), none⟩,
 ⟨some 149, .lenSl (.t 148), none⟩,
 ⟨some 150, .bin .lss (.t 147) (.t 149), none⟩])
 (.cond (.t 150) .skip
 (.exit 2)))
 (.seq (.block 3 (.seq (.plan [⟨0, ⟨some 153, .mov (.t 8), none⟩, []⟩,
 ⟨1, ⟨some 154, .mov (.t 16), none⟩, []⟩,
 ⟨2, ⟨some 155, .indexAddr 1 false none (.t 153) (.t 154), none⟩, []⟩,
 ⟨3, ⟨some 156, .load 1 false (.t 155), none⟩, []⟩,
 ⟨4, ⟨some 157, .mov (.t 12), none⟩, []⟩,
 ⟨5, ⟨some 158, .mov (.t 16), none⟩, []⟩,
 ⟨6, ⟨some 159, .indexAddr 1 false none (.t 157) (.t 158), none⟩, []⟩,
 ⟨7, ⟨some 160, .load 1 false (.t 159), none⟩, []⟩,
 ⟨8, ⟨some 161, .bin .neq (.t 156) (.t 160), none⟩, []⟩])
 (.cond (.t 161) (.seq (.reg [⟨some 6, .mov (.k (.bool false)), none⟩])
 .ret)
 .skip)))
 (.reg [⟨some 151, .mov (.t 16), none⟩,
 ⟨some 152, .bin .add (.t 151) (.k (.int .i64 1)), none⟩,
 ⟨some 16, .mov (.t 152), none⟩])))

def a8_1 : ACode := (.seq (.seq (.reg [⟨some 132, .mov (.t 15), none⟩,
 ⟨some 133, .mov (.t 7), none⟩,
 ⟨some 134, .lenSl (.t 133), none⟩,
 ⟨some 135, .bin .lss (.t 132) (.t 134), none⟩])
 (.cond (.t 135) .skip
 (.exit 0)))
 (.seq (.block 1 (.seq (.plan [⟨0, ⟨some 138, .mov (.t 7), none⟩, []⟩,
 ⟨1, ⟨some 139, .mov (.t 15), none⟩, []⟩,
 ⟨2, ⟨some 140, .indexAddr 4 true none (.t 138) (.t 139), none⟩, []⟩,
 ⟨3, ⟨some 141, .load 4 true (.t 140), none⟩, []⟩,
 ⟨4, ⟨some 142, .mov (.t 11), none⟩, []⟩,
 ⟨5, ⟨some 143, .mov (.t 15), none⟩, []⟩,
 ⟨6, ⟨some 144, .indexAddr 4 true none (.t 142) (.t 143), none⟩, []⟩,
 ⟨7, ⟨some 145, .load 4 true (.t 144), none⟩, []⟩,
 ⟨8, ⟨some 146, .eqAgg [1, 0, 0, 0] true (.t 141) (.t 145), none⟩, []⟩])
 (.cond (.t 146) (.seq (.reg [⟨some 6, .mov (.k (.bool false)), none⟩])
 .ret)
 .skip)))
 (.reg [⟨some 136, .mov (.t 15), none⟩,
 ⟨some 137, .bin .add (.t 136) (.k (.int .i64 1)), none⟩,
 ⟨some 15, .mov (.t 137), none⟩])))

def a8 : AFunc := ⟨162, [.tmp 6],
 (.seq (.reg [⟨some 3, .box 2 (.t 0) false, none⟩,
 ⟨some 6, .mov (.k (.bool false)), none⟩])
 (.seq (.seq (.reg [⟨some 17, .call (.k (.func (.func 14) [] [])) [], none⟩,
 ⟨some 18, .un .not (.t 17), none⟩])
 (.cond (.t 18) (.seq (.reg [⟨some 6, .mov (.k (.bool false)), none⟩])
 .ret)
 .skip))
 (.seq (.seq (.reg [⟨some 19, .load 2 true (.t 3), none⟩,
 ⟨some 20, .call (.k (.func (.func 18) [] [])) [(.t 19)], none⟩])
 (.cond (.t 20) (.seq (.reg [⟨some 6, .mov (.k (.bool true)), none⟩])
 .ret)
 .skip))
 (.seq (.plan [⟨0, ⟨some 21, .load 2 true (.t 3), none⟩, []⟩,
 ⟨1, ⟨some 22, .mov (.t 1), none⟩, []⟩,
 ⟨3, ⟨some 24, .load 2 true (.t 3), none⟩, []⟩,
 ⟨4, ⟨some 25, .mov (.t 1), none⟩, []⟩,
 ⟨2, ⟨some 23, .call (.k (.func (.func 25) [] [])) [(.t 21), (.t 22)], none⟩, [3]⟩,
 ⟨5, ⟨some 26, .call (.k (.func (.func 27) [] [])) [(.t 24), (.t 25)], none⟩, []⟩,
 ⟨6, ⟨some 7, .mov (.t 23), none⟩, []⟩,
 ⟨7, ⟨some 8, .mov (.t 26), none⟩, []⟩])
 (.seq (.reg [⟨some 28, .load 2 true (.t 3), none⟩,
 ⟨some 29, .mov (.t 1), none⟩,
 ⟨some 30, .mov (.t 2), none⟩,
 ⟨some 31, .call (.k (.func (.func 26) [] [])) [(.t 28), (.t 29), (.t 30)], none⟩,
 ⟨some 27, .mov (.t 31), none⟩,
 ⟨some 32, .extract (.t 27) 0, none⟩,
 ⟨some 33, .extract (.t 27) 1, none⟩,
 ⟨some 9, .new (.agg [(.str []), (.int .i64 0), (.int .i64 0), (.int .i64 0)]) true none, none⟩,
 ⟨none, .store 4 (.t 9) (.t 32), none⟩,
 ⟨some 10, .mov (.t 33), none⟩])
 (.seq (.seq (.reg [⟨some 34, .load 2 true (.t 3), none⟩,
 ⟨some 35, .call (.k (.func (.func 19) [] [])) [(.t 34)], none⟩,
 ⟨some 36, .un .not (.t 35), none⟩])
 (.cond (.t 36) (.seq (.reg [⟨some 37, .mov (.t 7), none⟩,
 ⟨some 38, .lenSl (.t 37), none⟩,
 ⟨some 39, .bin .eql (.t 38) (.k (.int .i64 0)), none⟩,
 ⟨some 40, .mov (.t 39), none⟩,
 ⟨some 41, .mov (.t 8), some (40, true)⟩,
 ⟨some 42, .lenSl (.t 41), some (40, true)⟩,
 ⟨some 43, .bin .eql (.t 42) (.k (.int .i64 0)), some (40, true)⟩,
 ⟨some 44, .pick (.t 40) (.t 43) (.k (.bool false)), none⟩,
 ⟨some 45, .mov (.t 44), none⟩,
 ⟨some 46, .mov (.t 10), some (45, true)⟩,
 ⟨some 47, .un .not (.t 46), some (45, true)⟩,
 ⟨some 48, .pick (.t 45) (.t 47) (.k (.bool false)), none⟩,
 ⟨some 49, .mov (.t 48), none⟩,
 ⟨some 50, .load 2 true (.t 3), some (49, true)⟩,
 ⟨some 51, .mov (.t 2), some (49, true)⟩,
 ⟨some 52, .call (.k (.func (.func 28) [] [])) [(.t 50), (.t 51)], some (49, true)⟩,
 ⟨some 53, .bin .eql (.t 52) (.k (.int .i64 (-1))), some (49, true)⟩,
 ⟨some 54, .pick (.t 49) (.t 53) (.k (.bool false)), none⟩,
 ⟨some 6, .mov (.t 54), none⟩])
 .ret)
 .skip))
 (.seq (.seq (.plan [⟨0, ⟨some 55, .load 2 true (.t 3), none⟩, []⟩,
 ⟨1, ⟨some 56, .mov (.t 2), none⟩, []⟩,
 ⟨3, ⟨some 58, .load 2 true (.t 3), none⟩, []⟩,
 ⟨4, ⟨some 59, .mov (.t 2), none⟩, []⟩,
 ⟨2, ⟨some 57, .call (.k (.func (.func 28) [] [])) [(.t 55), (.t 56)], none⟩, [3]⟩,
 ⟨5, ⟨some 60, .call (.k (.func (.func 29) [] [])) [(.t 58), (.t 59)], none⟩, []⟩,
 ⟨6, ⟨some 61, .bin .neq (.t 57) (.t 60), none⟩, []⟩])
 (.cond (.t 61) (.seq (.reg [⟨some 6, .mov (.k (.bool false)), none⟩])
 .ret)
 .skip))
 (.seq (.seq (.reg [⟨some 62, .mov (.t 1), none⟩,
 ⟨some 63, .bin .lss (.t 62) (.k (.int .i64 0)), none⟩,
 ⟨some 64, .mov (.t 63), none⟩,
 ⟨some 65, .mov (.t 1), some (64, false)⟩,
 ⟨some 66, .fieldAddr 0 1 false (.t 3), some (64, false)⟩,
 ⟨some 67, .load 1 false (.t 66), some (64, false)⟩,
 ⟨some 68, .lenSl (.t 67), some (64, false)⟩,
 ⟨some 69, .bin .geq (.t 65) (.t 68), some (64, false)⟩,
 ⟨some 70, .pick (.t 64) (.k (.bool true)) (.t 69), none⟩])
 (.cond (.t 70) (.seq (.reg [⟨some 71, .mov (.t 7), none⟩,
 ⟨some 72, .lenSl (.t 71), none⟩,
 ⟨some 73, .bin .eql (.t 72) (.k (.int .i64 0)), none⟩,
 ⟨some 74, .mov (.t 73), none⟩,
 ⟨some 75, .mov (.t 8), some (74, true)⟩,
 ⟨some 76, .lenSl (.t 75), some (74, true)⟩,
 ⟨some 77, .bin .eql (.t 76) (.k (.int .i64 0)), some (74, true)⟩,
 ⟨some 78, .pick (.t 74) (.t 77) (.k (.bool false)), none⟩,
 ⟨some 79, .mov (.t 78), none⟩,
 ⟨some 80, .mov (.t 10), some (79, true)⟩,
 ⟨some 81, .un .not (.t 80), some (79, true)⟩,
 ⟨some 82, .pick (.t 79) (.t 81) (.k (.bool false)), none⟩,
 ⟨some 83, .mov (.t 82), none⟩,
 ⟨some 84, .load 4 true (.t 9), some (83, true)⟩,
 ⟨some 85, .build [(.str []), (.int .i64 0), (.int .i64 0), (.int .i64 0)] [], some (83, true)⟩,
 ⟨some 86, .eqAgg [1, 0, 0, 0] false (.t 84) (.t 85), some (83, true)⟩,
 ⟨some 87, .pick (.t 83) (.t 86) (.k (.bool false)), none⟩,
 ⟨some 6, .mov (.t 87), none⟩])
 .ret)
 .skip))
 (.seq (.plan [⟨0, ⟨some 88, .fieldAddr 0 1 false (.t 3), none⟩, []⟩,
 ⟨1, ⟨some 89, .load 1 false (.t 88), none⟩, []⟩,
 ⟨2, ⟨some 90, .mov (.t 1), none⟩, []⟩,
 ⟨3, ⟨some 91, .indexAddr 7 true none (.t 89) (.t 90), none⟩, []⟩,
 ⟨4, ⟨some 92, .load 7 true (.t 91), none⟩, []⟩,
 ⟨6, ⟨some 94, .fieldAddr 0 1 false (.t 3), none⟩, []⟩,
 ⟨7, ⟨some 95, .load 1 false (.t 94), none⟩, []⟩,
 ⟨8, ⟨some 96, .mov (.t 1), none⟩, []⟩,
 ⟨9, ⟨some 97, .indexAddr 7 true none (.t 95) (.t 96), none⟩, []⟩,
 ⟨10, ⟨some 98, .load 7 true (.t 97), none⟩, []⟩,
 ⟨5, ⟨some 93, .call (.k (.func (.func 30) [] [])) [(.t 92)], none⟩, [7, 10]⟩,
 ⟨11, ⟨some 99, .call (.k (.func (.func 31) [] [])) [(.t 98)], none⟩, []⟩,
 ⟨12, ⟨some 11, .mov (.t 93), none⟩, []⟩,
 ⟨13, ⟨some 12, .mov (.t 99), none⟩, []⟩])
 (.seq (.reg [⟨some 101, .fieldAddr 0 1 false (.t 3), none⟩,
 ⟨some 102, .load 1 false (.t 101), none⟩,
 ⟨some 103, .mov (.t 1), none⟩,
 ⟨some 104, .indexAddr 7 true none (.t 102) (.t 103), none⟩,
 ⟨some 105, .load 7 true (.t 104), none⟩,
 ⟨some 106, .mov (.t 2), none⟩,
 ⟨some 107, .call (.k (.func (.func 32) [] [])) [(.t 105), (.t 106)], none⟩,
 ⟨some 100, .mov (.t 107), none⟩,
 ⟨some 108, .extract (.t 100) 0, none⟩,
 ⟨some 109, .extract (.t 100) 1, none⟩,
 ⟨some 13, .new (.agg [(.str []), (.int .i64 0), (.int .i64 0), (.int .i64 0)]) true none, none⟩,
 ⟨none, .store 4 (.t 13) (.t 108), none⟩,
 ⟨some 14, .mov (.t 109), none⟩])
 (.seq (.seq (.reg [⟨some 110, .mov (.t 7), none⟩,
 ⟨some 111, .lenSl (.t 110), none⟩,
 ⟨some 112, .mov (.t 11), none⟩,
 ⟨some 113, .lenSl (.t 112), none⟩,
 ⟨some 114, .bin .neq (.t 111) (.t 113), none⟩,
 ⟨some 115, .mov (.t 114), none⟩,
 ⟨some 116, .mov (.t 8), some (115, false)⟩,
 ⟨some 117, .lenSl (.t 116), some (115, false)⟩,
 ⟨some 118, .mov (.t 12), some (115, false)⟩,
 ⟨some 119, .lenSl (.t 118), some (115, false)⟩,
 ⟨some 120, .bin .neq (.t 117) (.t 119), some (115, false)⟩,
 ⟨some 121, .pick (.t 115) (.k (.bool true)) (.t 120), none⟩,
 ⟨some 122, .mov (.t 121), none⟩,
 ⟨some 123, .load 4 true (.t 9), some (122, false)⟩,
 ⟨some 124, .load 4 true (.t 13), some (122, false)⟩,
 ⟨some 125, .eqAgg [1, 0, 0, 0] true (.t 123) (.t 124), some (122, false)⟩,
 ⟨some 126, .pick (.t 122) (.k (.bool true)) (.t 125), none⟩,
 ⟨some 127, .mov (.t 126), none⟩,
 ⟨some 128, .mov (.t 10), some (127, false)⟩,
 ⟨some 129, .mov (.t 14), some (127, false)⟩,
 ⟨some 130, .eqBool true (.t 128) (.t 129), some (127, false)⟩,
 ⟨some 131, .pick (.t 127) (.k (.bool true)) (.t 130), none⟩])
 (.cond (.t 131) (.seq (.reg [⟨some 6, .mov (.k (.bool false)), none⟩])
 .ret)
 .skip))
 (.seq (.seq (.reg [⟨some 15, .mov (.k (.int .i64 0)), none⟩])
 (.block 0 (.loop a8_1)))
 (.seq (.seq (.reg [⟨some 16, .mov (.k (.int .i64 0)), none⟩])
 (.block 2 (.loop a8_0)))
 (.seq (.reg [⟨some 6, .mov (.k (.bool true)), none⟩])
 .ret)))))))))))))),
 [], false⟩

def a9 : AFunc := ⟨31, [.tmp 2],
 (.seq (.reg [⟨some 2, .mov (.k (.bool false)), none⟩])
 (.seq (.seq (.reg [⟨some 6, .call (.k (.func (.func 33) [] [])) [], none⟩,
 ⟨some 7, .un .not (.t 6), none⟩])
 (.cond (.t 7) (.seq (.reg [⟨some 2, .mov (.k (.bool false)), none⟩])
 .ret)
 .skip))
 (.seq (.reg [⟨some 9, .mov (.t 0), none⟩,
 ⟨some 10, .call (.k (.func (.func 24) [] [])) [(.t 9), (.k (.bool false))], none⟩,
 ⟨some 8, .mov (.t 10), none⟩,
 ⟨some 11, .extract (.t 8) 0, none⟩,
 ⟨some 12, .extract (.t 8) 1, none⟩,
 ⟨some 13, .extract (.t 8) 2, none⟩,
 ⟨some 3, .new (.agg [(.lst 7 [] .tight), (.lst 9 [] .tight)]) true none, none⟩,
 ⟨some 5, .new (.agg [(.int .i64 0), (.int .i64 0)]) true none, none⟩,
 ⟨none, .store 2 (.t 3) (.t 11), none⟩,
 ⟨some 4, .mov (.t 12), none⟩,
 ⟨none, .store 2 (.t 5) (.t 13), none⟩])
 (.seq (.seq (.reg [⟨some 14, .fieldAddr 0 1 false (.t 5), none⟩,
 ⟨some 15, .load 1 false (.t 14), none⟩,
 ⟨some 16, .bin .neq (.t 15) (.k (.int .i64 0)), none⟩,
 ⟨some 17, .mov (.t 16), none⟩,
 ⟨some 18, .load 2 true (.t 3), some (17, false)⟩,
 ⟨some 19, .call (.k (.func (.func 34) [] [])) [(.t 18)], some (17, false)⟩,
 ⟨some 20, .pick (.t 17) (.k (.bool true)) (.t 19), none⟩,
 ⟨some 21, .mov (.t 20), none⟩,
 ⟨some 22, .load 2 true (.t 3), some (21, false)⟩,
 ⟨some 23, .call (.k (.func (.func 23) [] [])) [(.t 22)], some (21, false)⟩,
 ⟨some 24, .un .not (.t 23), some (21, false)⟩,
 ⟨some 25, .pick (.t 21) (.k (.bool true)) (.t 24), none⟩])
 (.cond (.t 25) (.seq (.reg [⟨some 2, .mov (.k (.bool true)), none⟩])
 .ret)
 .skip))
 (.seq (.plan [⟨0, ⟨some 26, .load 2 true (.t 3), none⟩, []⟩,
 ⟨2, ⟨some 28, .load 2 true (.t 3), none⟩, []⟩,
 ⟨1, ⟨some 27, .call (.k (.func (.func 35) [] [])) [(.t 26)], none⟩, [2]⟩,
 ⟨3, ⟨some 29, .call (.k (.func (.func 36) [] [])) [(.t 28)], none⟩, []⟩,
 ⟨4, ⟨some 30, .call (.k (.func (.func 16) [] [])) [(.t 27), (.t 29)], none⟩, []⟩,
 ⟨5, ⟨some 2, .mov (.t 30), none⟩, []⟩])
 .ret))))),
 [], false⟩

def a10 : AFunc := ⟨31, [.tmp 2],
 (.seq (.reg [⟨some 1, .box 2 (.t 0) false, none⟩,
 ⟨some 2, .mov (.k (.bool false)), none⟩])
 (.seq (.seq (.reg [⟨some 3, .call (.k (.func (.func 33) [] [])) [], none⟩,
 ⟨some 4, .un .not (.t 3), none⟩])
 (.cond (.t 4) (.seq (.reg [⟨some 2, .mov (.k (.bool false)), none⟩])
 .ret)
 .skip))
 (.seq (.seq (.reg [⟨some 5, .load 2 true (.t 1), none⟩,
 ⟨some 6, .call (.k (.func (.func 34) [] [])) [(.t 5)], none⟩])
 (.cond (.t 6) (.seq (.reg [⟨some 2, .mov (.k (.bool true)), none⟩])
 .ret)
 .skip))
 (.seq (.seq (.reg [⟨some 7, .load 2 true (.t 1), none⟩,
 ⟨some 8, .call (.k (.func (.func 23) [] [])) [(.t 7)], none⟩,
 ⟨some 9, .un .not (.t 8), none⟩])
 (.cond (.t 9) (.seq (.reg [⟨some 10, .load 2 true (.t 1), none⟩,
 ⟨some 11, .call (.k (.func (.func 35) [] [])) [(.t 10)], none⟩,
 ⟨some 12, .lenSl (.t 11), none⟩,
 ⟨some 13, .bin .eql (.t 12) (.k (.int .i64 0)), none⟩,
 ⟨some 14, .mov (.t 13), none⟩,
 ⟨some 15, .load 2 true (.t 1), some (14, true)⟩,
 ⟨some 16, .call (.k (.func (.func 37) [] [])) [(.t 15)], some (14, true)⟩,
 ⟨some 17, .un .not (.t 16), some (14, true)⟩,
 ⟨some 18, .pick (.t 14) (.t 17) (.k (.bool false)), none⟩,
 ⟨some 2, .mov (.t 18), none⟩])
 .ret)
 .skip))
 (.seq (.plan [⟨0, ⟨some 19, .load 2 true (.t 1), none⟩, []⟩,
 ⟨2, ⟨some 21, .load 2 true (.t 1), none⟩, []⟩,
 ⟨1, ⟨some 20, .call (.k (.func (.func 35) [] [])) [(.t 19)], none⟩, [2]⟩,
 ⟨3, ⟨some 22, .call (.k (.func (.func 36) [] [])) [(.t 21)], none⟩, []⟩,
 ⟨4, ⟨some 23, .call (.k (.func (.func 16) [] [])) [(.t 20), (.t 22)], none⟩, []⟩,
 ⟨5, ⟨some 24, .mov (.t 23), none⟩, []⟩,
 ⟨6, ⟨some 25, .load 2 true (.t 1), some (24, true)⟩, []⟩,
 ⟨8, ⟨some 27, .load 2 true (.t 1), some (24, true)⟩, []⟩,
 ⟨7, ⟨some 26, .call (.k (.func (.func 37) [] [])) [(.t 25)], some (24, true)⟩, [8]⟩,
 ⟨9, ⟨some 28, .call (.k (.func (.func 38) [] [])) [(.t 27)], some (24, true)⟩, []⟩,
 ⟨10, ⟨some 29, .eqBool false (.t 26) (.t 28), some (24, true)⟩, []⟩,
 ⟨11, ⟨some 30, .pick (.t 24) (.t 29) (.k (.bool false)), none⟩, []⟩,
 ⟨12, ⟨some 2, .mov (.t 30), none⟩, []⟩])
 .ret))))),
 [], false⟩

def a11_0 : ACode := (.seq (.seq (.reg [⟨some 54, .mov (.t 9), none⟩,
 ⟨some 55, .mov (.t 7), none⟩,
 ⟨some 56, .lenSl (.t 55), none⟩,
 ⟨some 57, .bin .lss (.t 54) (.t 56), none⟩])
 (.cond (.t 57) .skip
 (.exit 2)))
 (.seq (.block 3 (.seq (.reg [⟨some 60, .fieldAddr 1 1 false (.t 3), none⟩,
 ⟨some 61, .load 1 false (.t 60), none⟩,
 ⟨some 62, .mov (.t 9), none⟩,
 ⟨some 63, .indexAddr 9 true none (.t 61) (.t 62), none⟩,
 ⟨some 64, .load 9 true (.t 63), none⟩,
 ⟨some 10, .new (.agg [(.int .i64 0), (.int .i64 0), (.int .i64 0), (.int .i64 0), (.str []), (.str []), (.int .i64 0), (.lst 1 [] .tight), (.int .i64 0)]) true none, none⟩,
 ⟨none, .store 9 (.t 10) (.t 64), none⟩])
 (.seq (.seq (.reg [⟨some 65, .mov (.t 7), none⟩,
 ⟨some 66, .mov (.t 9), none⟩,
 ⟨some 67, .indexAddr 1 false none (.t 65) (.t 66), none⟩,
 ⟨some 68, .load 1 false (.t 67), none⟩,
 ⟨some 69, .un .not (.t 68), none⟩])
 (.cond (.t 69) (.exit 3)
 .skip))
 (.seq (.plan [⟨0, ⟨some 70, .mov (.t 8), none⟩, []⟩,
 ⟨1, ⟨some 71, .mov (.t 9), none⟩, []⟩,
 ⟨2, ⟨some 72, .indexAddr 1 false none (.t 70) (.t 71), none⟩, []⟩,
 ⟨3, ⟨some 73, .load 1 false (.t 72), none⟩, []⟩,
 ⟨4, ⟨some 74, .bin .neq (.t 73) (.k (.int .i64 1)), none⟩, []⟩,
 ⟨5, ⟨some 75, .mov (.t 74), none⟩, []⟩,
 ⟨6, ⟨some 76, .mov (.t 8), some (75, true)⟩, []⟩,
 ⟨7, ⟨some 77, .mov (.t 9), some (75, true)⟩, []⟩,
 ⟨8, ⟨some 78, .indexAddr 1 false none (.t 76) (.t 77), some (75, true)⟩, []⟩,
 ⟨9, ⟨some 79, .load 1 false (.t 78), some (75, true)⟩, []⟩,
 ⟨10, ⟨some 80, .bin .neq (.t 79) (.k (.int .i64 2)), some (75, true)⟩, []⟩,
 ⟨11, ⟨some 81, .pick (.t 75) (.t 80) (.k (.bool false)), none⟩, []⟩,
 ⟨12, ⟨some 82, .mov (.t 81), none⟩, []⟩,
 ⟨13, ⟨some 83, .fieldAddr 0 1 false (.t 10), some (82, false)⟩, []⟩,
 ⟨14, ⟨some 84, .load 1 false (.t 83), some (82, false)⟩, []⟩,
 ⟨15, ⟨some 85, .bin .eql (.t 84) (.k (.int .i64 15)), some (82, false)⟩, []⟩,
 ⟨16, ⟨some 86, .mov (.t 85), some (82, false)⟩, []⟩,
 ⟨17, ⟨some 87, .mov (.t 8), some (86, true)⟩, []⟩,
 ⟨18, ⟨some 88, .fieldAddr 1 1 false (.t 10), some (86, true)⟩, []⟩,
 ⟨19, ⟨some 89, .load 1 false (.t 88), some (86, true)⟩, []⟩,
 ⟨20, ⟨some 90, .indexAddr 1 false none (.t 87) (.t 89), some (86, true)⟩, []⟩,
 ⟨21, ⟨some 91, .load 1 false (.t 90), some (86, true)⟩, []⟩,
 ⟨22, ⟨some 92, .bin .neq (.t 91) (.k (.int .i64 2)), some (86, true)⟩, []⟩,
 ⟨23, ⟨some 93, .mov (.t 92), some (86, true)⟩, []⟩,
 ⟨24, ⟨some 94, .mov (.t 8), some (93, false)⟩, []⟩,
 ⟨25, ⟨some 95, .fieldAddr 2 1 false (.t 10), some (93, false)⟩, []⟩,
 ⟨26, ⟨some 96, .load 1 false (.t 95), some (93, false)⟩, []⟩,
 ⟨27, ⟨some 97, .indexAddr 1 false none (.t 94) (.t 96), some (93, false)⟩, []⟩,
 ⟨28, ⟨some 98, .load 1 false (.t 97), some (93, false)⟩, []⟩,
 ⟨29, ⟨some 99, .mov (.t 8), some (93, false)⟩, []⟩,
 ⟨30, ⟨some 100, .fieldAddr 3 1 false (.t 10), some (93, false)⟩, []⟩,
 ⟨31, ⟨some 101, .load 1 false (.t 100), some (93, false)⟩, []⟩,
 ⟨32, ⟨some 102, .indexAddr 1 false none (.t 99) (.t 101), some (93, false)⟩, []⟩,
 ⟨33, ⟨some 103, .load 1 false (.t 102), some (93, false)⟩, []⟩,
 ⟨34, ⟨some 104, .bin .neq (.t 98) (.t 103), some (93, false)⟩, []⟩,
 ⟨35, ⟨some 105, .pick (.t 93) (.k (.bool true)) (.t 104), some (86, true)⟩, []⟩,
 ⟨36, ⟨some 106, .mov (.t 105), some (86, true)⟩, []⟩,
 ⟨37, ⟨some 107, .mov (.t 8), some (106, false)⟩, []⟩,
 ⟨38, ⟨some 108, .mov (.t 9), some (106, false)⟩, []⟩,
 ⟨39, ⟨some 109, .indexAddr 1 false none (.t 107) (.t 108), some (106, false)⟩, []⟩,
 ⟨40, ⟨some 110, .load 1 false (.t 109), some (106, false)⟩, []⟩,
 ⟨41, ⟨some 111, .mov (.t 8), some (106, false)⟩, []⟩,
 ⟨42, ⟨some 112, .fieldAddr 2 1 false (.t 10), some (106, false)⟩, []⟩,
 ⟨43, ⟨some 113, .load 1 false (.t 112), some (106, false)⟩, []⟩,
 ⟨44, ⟨some 114, .indexAddr 1 false none (.t 111) (.t 113), some (106, false)⟩, []⟩,
 ⟨45, ⟨some 115, .load 1 false (.t 114), some (106, false)⟩, []⟩,
 ⟨46, ⟨some 116, .bin .neq (.t 110) (.t 115), some (106, false)⟩, []⟩,
 ⟨47, ⟨some 117, .pick (.t 106) (.k (.bool true)) (.t 116), some (86, true)⟩, []⟩,
 ⟨48, ⟨some 118, .pick (.t 86) (.t 117) (.k (.bool false)), some (82, false)⟩, []⟩,
 ⟨49, ⟨some 119, .pick (.t 82) (.k (.bool true)) (.t 118), none⟩, []⟩,
 ⟨50, ⟨some 120, .mov (.t 119), none⟩, []⟩,
 ⟨51, ⟨some 121, .fieldAddr 0 1 false (.t 10), some (120, false)⟩, []⟩,
 ⟨52, ⟨some 122, .load 1 false (.t 121), some (120, false)⟩, []⟩,
 ⟨53, ⟨some 123, .bin .eql (.t 122) (.k (.int .i64 6)), some (120, false)⟩, []⟩,
 ⟨54, ⟨some 124, .mov (.t 123), some (120, false)⟩, []⟩,
 ⟨55, ⟨some 125, .mov (.t 8), some (124, true)⟩, []⟩,
 ⟨56, ⟨some 126, .fieldAddr 1 1 false (.t 10), some (124, true)⟩, []⟩,
 ⟨57, ⟨some 127, .load 1 false (.t 126), some (124, true)⟩, []⟩,
 ⟨58, ⟨some 128, .indexAddr 1 false none (.t 125) (.t 127), some (124, true)⟩, []⟩,
 ⟨59, ⟨some 129, .load 1 false (.t 128), some (124, true)⟩, []⟩,
 ⟨60, ⟨some 130, .bin .neq (.t 129) (.k (.int .i64 1)), some (124, true)⟩, []⟩,
 ⟨61, ⟨some 131, .mov (.t 130), some (124, true)⟩, []⟩,
 ⟨62, ⟨some 132, .mov (.t 8), some (131, false)⟩, []⟩,
 ⟨63, ⟨some 133, .fieldAddr 2 1 false (.t 10), some (131, false)⟩, []⟩,
 ⟨64, ⟨some 134, .load 1 false (.t 133), some (131, false)⟩, []⟩,
 ⟨65, ⟨some 135, .indexAddr 1 false none (.t 132) (.t 134), some (131, false)⟩, []⟩,
 ⟨66, ⟨some 136, .load 1 false (.t 135), some (131, false)⟩, []⟩,
 ⟨67, ⟨some 137, .bin .neq (.t 136) (.k (.int .i64 1)), some (131, false)⟩, []⟩,
 ⟨68, ⟨some 138, .pick (.t 131) (.k (.bool true)) (.t 137), some (124, true)⟩, []⟩,
 ⟨69, ⟨some 139, .pick (.t 124) (.t 138) (.k (.bool false)), some (120, false)⟩, []⟩,
 ⟨70, ⟨some 140, .pick (.t 120) (.k (.bool true)) (.t 139), none⟩, []⟩,
 ⟨71, ⟨some 141, .mov (.t 140), none⟩, []⟩,
 ⟨72, ⟨some 142, .fieldAddr 0 1 false (.t 10), some (141, false)⟩, []⟩,
 ⟨73, ⟨some 143, .load 1 false (.t 142), some (141, false)⟩, []⟩,
 ⟨74, ⟨some 144, .bin .eql (.t 143) (.k (.int .i64 18)), some (141, false)⟩, []⟩,
 ⟨75, ⟨some 145, .mov (.t 144), some (141, false)⟩, []⟩,
 ⟨76, ⟨some 146, .mov (.t 8), some (145, true)⟩, []⟩,
 ⟨77, ⟨some 147, .fieldAddr 1 1 false (.t 10), some (145, true)⟩, []⟩,
 ⟨78, ⟨some 148, .load 1 false (.t 147), some (145, true)⟩, []⟩,
 ⟨79, ⟨some 149, .indexAddr 1 false none (.t 146) (.t 148), some (145, true)⟩, []⟩,
 ⟨80, ⟨some 150, .load 1 false (.t 149), some (145, true)⟩, []⟩,
 ⟨81, ⟨some 151, .mov (.t 8), some (145, true)⟩, []⟩,
 ⟨82, ⟨some 152, .fieldAddr 2 1 false (.t 10), some (145, true)⟩, []⟩,
 ⟨83, ⟨some 153, .load 1 false (.t 152), some (145, true)⟩, []⟩,
 ⟨84, ⟨some 154, .indexAddr 1 false none (.t 151) (.t 153), some (145, true)⟩, []⟩,
 ⟨85, ⟨some 155, .load 1 false (.t 154), some (145, true)⟩, []⟩,
 ⟨86, ⟨some 156, .bin .neq (.t 150) (.t 155), some (145, true)⟩, []⟩,
 ⟨87, ⟨some 157, .pick (.t 145) (.t 156) (.k (.bool false)), some (141, false)⟩, []⟩,
 ⟨88, ⟨some 158, .pick (.t 141) (.k (.bool true)) (.t 157), none⟩, []⟩])
 (.cond (.t 158) (.seq (.reg [⟨some 2, .mov (.k (.bool false)), none⟩])
 .ret)
 .skip)))))
 (.reg [⟨some 58, .mov (.t 9), none⟩,
 ⟨some 59, .bin .add (.t 58) (.k (.int .i64 1)), none⟩,
 ⟨some 9, .mov (.t 59), none⟩])))

def a11_1 : ACode := (.seq (.seq (.reg [⟨some 31, .mov (.t 6), none⟩,
 ⟨some 32, .fieldAddr 0 1 false (.t 3), none⟩,
 ⟨some 33, .load 1 false (.t 32), none⟩,
 ⟨some 34, .lenSl (.t 33), none⟩,
 ⟨some 35, .bin .lss (.t 31) (.t 34), none⟩])
 (.cond (.t 35) .skip
 (.exit 0)))
 (.seq (.block 1 (.seq (.plan [⟨0, ⟨some 38, .load 2 true (.t 3), none⟩, []⟩,
 ⟨1, ⟨some 39, .fieldAddr 0 1 false (.t 3), none⟩, []⟩,
 ⟨2, ⟨some 40, .load 1 false (.t 39), none⟩, []⟩,
 ⟨3, ⟨some 41, .mov (.t 6), none⟩, []⟩,
 ⟨4, ⟨some 42, .indexAddr 7 true none (.t 40) (.t 41), none⟩, []⟩,
 ⟨5, ⟨some 43, .load 7 true (.t 42), none⟩, []⟩,
 ⟨6, ⟨some 44, .call (.k (.func (.func 39) [] [])) [(.t 38), (.t 43)], none⟩, []⟩,
 ⟨7, ⟨some 7, .mov (.t 44), none⟩, []⟩])
 (.seq (.reg [⟨some 45, .load 2 true (.t 3), none⟩,
 ⟨some 46, .mov (.t 6), none⟩,
 ⟨some 47, .call (.k (.func (.func 40) [] [])) [(.t 45), (.t 46)], none⟩,
 ⟨some 8, .mov (.t 47), none⟩])
 (.seq (.seq (.reg [⟨some 48, .mov (.t 8), none⟩,
 ⟨some 49, .lenSl (.t 48), none⟩,
 ⟨some 50, .fieldAddr 1 1 false (.t 3), none⟩,
 ⟨some 51, .load 1 false (.t 50), none⟩,
 ⟨some 52, .lenSl (.t 51), none⟩,
 ⟨some 53, .bin .neq (.t 49) (.t 52), none⟩])
 (.cond (.t 53) (.seq (.reg [⟨some 2, .mov (.k (.bool false)), none⟩])
 .ret)
 .skip))
 (.seq (.reg [⟨some 9, .mov (.k (.int .i64 0)), none⟩])
 (.block 2 (.loop a11_0)))))))
 (.reg [⟨some 36, .mov (.t 6), none⟩,
 ⟨some 37, .bin .add (.t 36) (.k (.int .i64 1)), none⟩,
 ⟨some 6, .mov (.t 37), none⟩])))

def a11 : AFunc := ⟨159, [.tmp 2],
 (.seq (.reg [⟨some 2, .mov (.k (.bool false)), none⟩])
 (.seq (.seq (.reg [⟨some 11, .call (.k (.func (.func 33) [] [])) [], none⟩,
 ⟨some 12, .un .not (.t 11), none⟩])
 (.cond (.t 12) (.seq (.reg [⟨some 2, .mov (.k (.bool false)), none⟩])
 .ret)
 .skip))
 (.seq (.reg [⟨some 14, .mov (.t 0), none⟩,
 ⟨some 15, .call (.k (.func (.func 24) [] [])) [(.t 14), (.k (.bool false))], none⟩,
 ⟨some 13, .mov (.t 15), none⟩,
 ⟨some 16, .extract (.t 13) 0, none⟩,
 ⟨some 17, .extract (.t 13) 1, none⟩,
 ⟨some 18, .extract (.t 13) 2, none⟩,
 ⟨some 3, .new (.agg [(.lst 7 [] .tight), (.lst 9 [] .tight)]) true none, none⟩,
 ⟨some 5, .new (.agg [(.int .i64 0), (.int .i64 0)]) true none, none⟩,
 ⟨none, .store 2 (.t 3) (.t 16), none⟩,
 ⟨some 4, .mov (.t 17), none⟩,
 ⟨none, .store 2 (.t 5) (.t 18), none⟩])
 (.seq (.seq (.reg [⟨some 19, .fieldAddr 0 1 false (.t 5), none⟩,
 ⟨some 20, .load 1 false (.t 19), none⟩,
 ⟨some 21, .bin .neq (.t 20) (.k (.int .i64 0)), none⟩,
 ⟨some 22, .mov (.t 21), none⟩,
 ⟨some 23, .load 2 true (.t 3), some (22, false)⟩,
 ⟨some 24, .call (.k (.func (.func 34) [] [])) [(.t 23)], some (22, false)⟩,
 ⟨some 25, .pick (.t 22) (.k (.bool true)) (.t 24), none⟩,
 ⟨some 26, .mov (.t 25), none⟩,
 ⟨some 27, .load 2 true (.t 3), some (26, false)⟩,
 ⟨some 28, .call (.k (.func (.func 37) [] [])) [(.t 27)], some (26, false)⟩,
 ⟨some 29, .un .not (.t 28), some (26, false)⟩,
 ⟨some 30, .pick (.t 26) (.k (.bool true)) (.t 29), none⟩])
 (.cond (.t 30) (.seq (.reg [⟨some 2, .mov (.k (.bool true)), none⟩])
 .ret)
 .skip))
 (.seq (.seq (.reg [⟨some 6, .mov (.k (.int .i64 0)), none⟩])
 (.block 0 (.loop a11_1)))
 (.seq (.reg [⟨some 2, .mov (.k (.bool true)), none⟩])
 .ret)))))),
 [], false⟩

def a12_0 : ACode := (.seq (.seq (.reg [⟨some 46, .mov (.t 8), none⟩,
 ⟨some 47, .mov (.t 7), none⟩,
 ⟨some 48, .lenSl (.t 47), none⟩,
 ⟨some 49, .bin .lss (.t 46) (.t 48), none⟩])
 (.cond (.t 49) .skip
 (.exit 0)))
 (.seq (.block 1 (.seq (.plan [⟨0, ⟨some 52, .mov (.t 7), none⟩, []⟩,
 ⟨1, ⟨some 53, .mov (.t 8), none⟩, []⟩,
 ⟨2, ⟨some 54, .indexAddr 1 false none (.t 52) (.t 53), none⟩, []⟩,
 ⟨3, ⟨some 55, .load 1 false (.t 54), none⟩, []⟩,
 ⟨4, ⟨some 56, .load 2 true (.t 3), none⟩, []⟩,
 ⟨5, ⟨some 57, .mov (.t 1), none⟩, []⟩,
 ⟨6, ⟨some 58, .mov (.t 8), none⟩, []⟩,
 ⟨7, ⟨some 59, .call (.k (.func (.func 42) [] [])) [(.t 56), (.t 57), (.t 58)], none⟩, [3]⟩,
 ⟨8, ⟨some 60, .bin .neq (.t 55) (.t 59), none⟩, []⟩])
 (.cond (.t 60) (.seq (.reg [⟨some 6, .mov (.k (.bool false)), none⟩])
 .ret)
 .skip)))
 (.reg [⟨some 50, .mov (.t 8), none⟩,
 ⟨some 51, .bin .add (.t 50) (.k (.int .i64 1)), none⟩,
 ⟨some 8, .mov (.t 51), none⟩])))

def a12 : AFunc := ⟨83, [.tmp 6],
 (.seq (.reg [⟨some 3, .box 2 (.t 0) false, none⟩,
 ⟨some 6, .mov (.k (.bool false)), none⟩])
 (.seq (.seq (.reg [⟨some 9, .call (.k (.func (.func 33) [] [])) [], none⟩,
 ⟨some 10, .un .not (.t 9), none⟩])
 (.cond (.t 10) (.seq (.reg [⟨some 6, .mov (.k (.bool false)), none⟩])
 .ret)
 .skip))
 (.seq (.seq (.reg [⟨some 11, .load 2 true (.t 3), none⟩,
 ⟨some 12, .call (.k (.func (.func 34) [] [])) [(.t 11)], none⟩])
 (.cond (.t 12) (.seq (.reg [⟨some 6, .mov (.k (.bool true)), none⟩])
 .ret)
 .skip))
 (.seq (.reg [⟨some 13, .load 2 true (.t 3), none⟩,
 ⟨some 14, .mov (.t 1), none⟩,
 ⟨some 15, .call (.k (.func (.func 40) [] [])) [(.t 13), (.t 14)], none⟩,
 ⟨some 7, .mov (.t 15), none⟩])
 (.seq (.seq (.reg [⟨some 16, .load 2 true (.t 3), none⟩,
 ⟨some 17, .call (.k (.func (.func 23) [] [])) [(.t 16)], none⟩,
 ⟨some 18, .un .not (.t 17), none⟩,
 ⟨some 19, .mov (.t 18), none⟩,
 ⟨some 20, .mov (.t 1), some (19, false)⟩,
 ⟨some 21, .bin .lss (.t 20) (.k (.int .i64 0)), some (19, false)⟩,
 ⟨some 22, .pick (.t 19) (.k (.bool true)) (.t 21), none⟩,
 ⟨some 23, .mov (.t 22), none⟩,
 ⟨some 24, .mov (.t 1), some (23, false)⟩,
 ⟨some 25, .fieldAddr 0 1 false (.t 3), some (23, false)⟩,
 ⟨some 26, .load 1 false (.t 25), some (23, false)⟩,
 ⟨some 27, .lenSl (.t 26), some (23, false)⟩,
 ⟨some 28, .bin .geq (.t 24) (.t 27), some (23, false)⟩,
 ⟨some 29, .pick (.t 23) (.k (.bool true)) (.t 28), none⟩])
 (.cond (.t 29) (.seq (.reg [⟨some 30, .mov (.t 7), none⟩,
 ⟨some 31, .lenSl (.t 30), none⟩,
 ⟨some 32, .bin .eql (.t 31) (.k (.int .i64 0)), none⟩,
 ⟨some 33, .mov (.t 32), none⟩,
 ⟨some 34, .load 2 true (.t 3), some (33, true)⟩,
 ⟨some 35, .mov (.t 1), some (33, true)⟩,
 ⟨some 36, .mov (.t 2), some (33, true)⟩,
 ⟨some 37, .call (.k (.func (.func 41) [] [])) [(.t 34), (.t 35), (.t 36)], some (33, true)⟩,
 ⟨some 38, .bin .eql (.t 37) (.k (.int .i64 0)), some (33, true)⟩,
 ⟨some 39, .pick (.t 33) (.t 38) (.k (.bool false)), none⟩,
 ⟨some 6, .mov (.t 39), none⟩])
 .ret)
 .skip))
 (.seq (.seq (.reg [⟨some 40, .mov (.t 7), none⟩,
 ⟨some 41, .lenSl (.t 40), none⟩,
 ⟨some 42, .fieldAddr 1 1 false (.t 3), none⟩,
 ⟨some 43, .load 1 false (.t 42), none⟩,
 ⟨some 44, .lenSl (.t 43), none⟩,
 ⟨some 45, .bin .neq (.t 41) (.t 44), none⟩])
 (.cond (.t 45) (.seq (.reg [⟨some 6, .mov (.k (.bool false)), none⟩])
 .ret)
 .skip))
 (.seq (.seq (.reg [⟨some 8, .mov (.k (.int .i64 0)), none⟩])
 (.block 0 (.loop a12_0)))
 (.seq (.seq (.reg [⟨some 61, .mov (.t 2), none⟩,
 ⟨some 62, .bin .lss (.t 61) (.k (.int .i64 0)), none⟩,
 ⟨some 63, .mov (.t 62), none⟩,
 ⟨some 64, .mov (.t 2), some (63, false)⟩,
 ⟨some 65, .mov (.t 7), some (63, false)⟩,
 ⟨some 66, .lenSl (.t 65), some (63, false)⟩,
 ⟨some 67, .bin .geq (.t 64) (.t 66), some (63, false)⟩,
 ⟨some 68, .pick (.t 63) (.k (.bool true)) (.t 67), none⟩])
 (.cond (.t 68) (.seq (.reg [⟨some 69, .load 2 true (.t 3), none⟩,
 ⟨some 70, .mov (.t 1), none⟩,
 ⟨some 71, .mov (.t 2), none⟩,
 ⟨some 72, .call (.k (.func (.func 41) [] [])) [(.t 69), (.t 70), (.t 71)], none⟩,
 ⟨some 73, .bin .eql (.t 72) (.k (.int .i64 0)), none⟩,
 ⟨some 6, .mov (.t 73), none⟩])
 .ret)
 .skip))
 (.seq (.plan [⟨0, ⟨some 74, .load 2 true (.t 3), none⟩, []⟩,
 ⟨1, ⟨some 75, .mov (.t 1), none⟩, []⟩,
 ⟨2, ⟨some 76, .mov (.t 2), none⟩, []⟩,
 ⟨4, ⟨some 78, .mov (.t 7), none⟩, []⟩,
 ⟨5, ⟨some 79, .mov (.t 2), none⟩, []⟩,
 ⟨6, ⟨some 80, .indexAddr 1 false none (.t 78) (.t 79), none⟩, []⟩,
 ⟨7, ⟨some 81, .load 1 false (.t 80), none⟩, []⟩,
 ⟨3, ⟨some 77, .call (.k (.func (.func 41) [] [])) [(.t 74), (.t 75), (.t 76)], none⟩, [7]⟩,
 ⟨8, ⟨some 82, .bin .eql (.t 77) (.t 81), none⟩, []⟩,
 ⟨9, ⟨some 6, .mov (.t 82), none⟩, []⟩])
 .ret))))))))),
 [], false⟩

def a13_0 : ACode := (.seq (.seq (.reg [⟨some 47, .mov (.t 7), none⟩,
 ⟨some 48, .fieldAddr 0 1 false (.t 2), none⟩,
 ⟨some 49, .load 1 false (.t 48), none⟩,
 ⟨some 50, .lenSl (.t 49), none⟩,
 ⟨some 51, .bin .lss (.t 47) (.t 50), none⟩])
 (.cond (.t 51) .skip
 (.exit 2)))
 (.seq (.block 3 (.seq (.plan [⟨0, ⟨some 54, .load 2 true (.t 2), none⟩, []⟩,
 ⟨1, ⟨some 55, .mov (.t 7), none⟩, []⟩,
 ⟨2, ⟨some 56, .mov (.t 1), none⟩, []⟩,
 ⟨4, ⟨some 58, .load 2 true (.t 2), none⟩, []⟩,
 ⟨5, ⟨some 59, .mov (.t 1), none⟩, []⟩,
 ⟨3, ⟨some 57, .call (.k (.func (.func 41) [] [])) [(.t 54), (.t 55), (.t 56)], none⟩, [4]⟩,
 ⟨6, ⟨some 60, .call (.k (.func (.func 41) [] [])) [(.t 58), (.k (.int .i64 0)), (.t 59)], none⟩, []⟩,
 ⟨7, ⟨some 61, .bin .neq (.t 57) (.t 60), none⟩, []⟩])
 (.cond (.t 61) (.seq (.reg [⟨some 4, .mov (.k (.bool false)), none⟩])
 .ret)
 .skip)))
 (.reg [⟨some 52, .mov (.t 7), none⟩,
 ⟨some 53, .bin .add (.t 52) (.k (.int .i64 1)), none⟩,
 ⟨some 7, .mov (.t 53), none⟩])))

def a13_1 : ACode := (.seq (.seq (.reg [⟨some 31, .mov (.t 6), none⟩,
 ⟨some 32, .mov (.t 5), none⟩,
 ⟨some 33, .lenSl (.t 32), none⟩,
 ⟨some 34, .bin .lss (.t 31) (.t 33), none⟩])
 (.cond (.t 34) .skip
 (.exit 0)))
 (.seq (.block 1 (.seq (.plan [⟨0, ⟨some 37, .fieldAddr 1 1 false (.t 2), none⟩, []⟩,
 ⟨1, ⟨some 38, .load 1 false (.t 37), none⟩, []⟩,
 ⟨2, ⟨some 39, .mov (.t 5), none⟩, []⟩,
 ⟨3, ⟨some 40, .mov (.t 6), none⟩, []⟩,
 ⟨4, ⟨some 41, .indexAddr 1 false none (.t 39) (.t 40), none⟩, []⟩,
 ⟨5, ⟨some 42, .load 1 false (.t 41), none⟩, []⟩,
 ⟨6, ⟨some 43, .indexAddr 9 true none (.t 38) (.t 42), none⟩, []⟩,
 ⟨7, ⟨some 44, .fieldAddr 0 1 false (.t 43), none⟩, []⟩,
 ⟨8, ⟨some 45, .load 1 false (.t 44), none⟩, []⟩,
 ⟨9, ⟨some 46, .bin .eql (.t 45) (.k (.int .i64 3)), none⟩, []⟩])
 (.cond (.t 46) (.seq (.reg [⟨some 4, .mov (.k (.bool true)), none⟩])
 .ret)
 .skip)))
 (.reg [⟨some 35, .mov (.t 6), none⟩,
 ⟨some 36, .bin .add (.t 35) (.k (.int .i64 1)), none⟩,
 ⟨some 6, .mov (.t 36), none⟩])))

def a13 : AFunc := ⟨62, [.tmp 4],
 (.seq (.reg [⟨some 2, .box 2 (.t 0) false, none⟩,
 ⟨some 4, .mov (.k (.bool false)), none⟩])
 (.seq (.seq (.reg [⟨some 8, .call (.k (.func (.func 33) [] [])) [], none⟩,
 ⟨some 9, .un .not (.t 8), none⟩])
 (.cond (.t 9) (.seq (.reg [⟨some 4, .mov (.k (.bool false)), none⟩])
 .ret)
 .skip))
 (.seq (.seq (.reg [⟨some 10, .load 2 true (.t 2), none⟩,
 ⟨some 11, .call (.k (.func (.func 34) [] [])) [(.t 10)], none⟩,
 ⟨some 12, .mov (.t 11), none⟩,
 ⟨some 13, .load 2 true (.t 2), some (12, false)⟩,
 ⟨some 14, .call (.k (.func (.func 23) [] [])) [(.t 13)], some (12, false)⟩,
 ⟨some 15, .un .not (.t 14), some (12, false)⟩,
 ⟨some 16, .pick (.t 12) (.k (.bool true)) (.t 15), none⟩,
 ⟨some 17, .mov (.t 16), none⟩,
 ⟨some 18, .mov (.t 1), some (17, false)⟩,
 ⟨some 19, .bin .lss (.t 18) (.k (.int .i64 0)), some (17, false)⟩,
 ⟨some 20, .pick (.t 17) (.k (.bool true)) (.t 19), none⟩,
 ⟨some 21, .mov (.t 20), none⟩,
 ⟨some 22, .mov (.t 1), some (21, false)⟩,
 ⟨some 23, .fieldAddr 1 1 false (.t 2), some (21, false)⟩,
 ⟨some 24, .load 1 false (.t 23), some (21, false)⟩,
 ⟨some 25, .lenSl (.t 24), some (21, false)⟩,
 ⟨some 26, .bin .geq (.t 22) (.t 25), some (21, false)⟩,
 ⟨some 27, .pick (.t 21) (.k (.bool true)) (.t 26), none⟩])
 (.cond (.t 27) (.seq (.reg [⟨some 4, .mov (.k (.bool true)), none⟩])
 .ret)
 .skip))
 (.seq (.reg [⟨some 28, .load 2 true (.t 2), none⟩,
 ⟨some 29, .mov (.t 1), none⟩,
 ⟨some 30, .call (.k (.func (.func 43) [] [])) [(.t 28), (.t 29), (.k (.lst 1 [] .tight)), (.k (.int .i64 400))], none⟩,
 ⟨some 5, .mov (.t 30), none⟩])
 (.seq (.seq (.reg [⟨some 6, .mov (.k (.int .i64 0)), none⟩])
 (.block 0 (.loop a13_1)))
 (.seq (.seq (.reg [⟨some 7, .mov (.k (.int .i64 0)), none⟩])
 (.block 2 (.loop a13_0)))
 (.seq (.reg [⟨some 4, .mov (.k (.bool true)), none⟩])
 .ret))))))),
 [], false⟩

def a14 : AFunc := ⟨34, [.tmp 0],
 (.seq (.reg [⟨some 0, .mov (.k (.bool false)), none⟩])
 (.seq (.reg [⟨some 6, .call (.k (.func (.func 24) [] [])) [(.k (.str [104, 121, 98, 114, 105, 100, 32, 109, 40, 41, 32, 123, 32, 111, 117, 116, 32, 120, 59, 32, 125])), (.k (.bool false))], none⟩,
 ⟨some 5, .mov (.t 6), none⟩,
 ⟨some 7, .extract (.t 5) 0, none⟩,
 ⟨some 8, .extract (.t 5) 1, none⟩,
 ⟨some 9, .extract (.t 5) 2, none⟩,
 ⟨some 1, .new (.agg [(.lst 7 [] .tight), (.lst 9 [] .tight)]) true none, none⟩,
 ⟨some 3, .new (.agg [(.int .i64 0), (.int .i64 0)]) true none, none⟩,
 ⟨none, .store 2 (.t 1) (.t 7), none⟩,
 ⟨some 2, .mov (.t 8), none⟩,
 ⟨none, .store 2 (.t 3) (.t 9), none⟩])
 (.seq (.reg [⟨some 10, .load 2 true (.t 1), none⟩,
 ⟨some 11, .call (.k (.func (.func 20) [] [])) [(.t 10)], none⟩,
 ⟨some 4, .mov (.t 11), none⟩])
 (.seq (.reg [⟨some 12, .fieldAddr 0 1 false (.t 3), none⟩,
 ⟨some 13, .load 1 false (.t 12), none⟩,
 ⟨some 14, .bin .eql (.t 13) (.k (.int .i64 0)), none⟩,
 ⟨some 15, .mov (.t 14), none⟩,
 ⟨some 16, .mov (.t 4), some (15, true)⟩,
 ⟨some 17, .lenSl (.t 16), some (15, true)⟩,
 ⟨some 18, .bin .eql (.t 17) (.k (.int .i64 1)), some (15, true)⟩,
 ⟨some 19, .pick (.t 15) (.t 18) (.k (.bool false)), none⟩,
 ⟨some 20, .mov (.t 19), none⟩,
 ⟨some 21, .mov (.t 4), some (20, true)⟩,
 ⟨some 22, .indexAddr 2 true none (.t 21) (.k (.int .i64 0)), some (20, true)⟩,
 ⟨some 23, .fieldAddr 0 1 false (.t 22), some (20, true)⟩,
 ⟨some 24, .load 1 false (.t 23), some (20, true)⟩,
 ⟨some 25, .bin .eql (.t 24) (.k (.int .i64 4)), some (20, true)⟩,
 ⟨some 26, .pick (.t 20) (.t 25) (.k (.bool false)), none⟩,
 ⟨some 27, .mov (.t 26), none⟩,
 ⟨some 28, .mov (.t 4), some (27, true)⟩,
 ⟨some 29, .indexAddr 2 true none (.t 28) (.k (.int .i64 0)), some (27, true)⟩,
 ⟨some 30, .fieldAddr 1 1 false (.t 29), some (27, true)⟩,
 ⟨some 31, .load 1 false (.t 30), some (27, true)⟩,
 ⟨some 32, .bin .eql (.t 31) (.k (.int .i64 13)), some (27, true)⟩,
 ⟨some 33, .pick (.t 27) (.t 32) (.k (.bool false)), none⟩,
 ⟨some 0, .mov (.t 33), none⟩])
 .ret)))),
 [], false⟩

def a15_0 : ACode := (.seq (.seq (.reg [⟨some 8, .mov (.t 7), none⟩,
 ⟨some 9, .mov (.t 0), none⟩,
 ⟨some 10, .lenSl (.t 9), none⟩,
 ⟨some 11, .bin .lss (.t 8) (.t 10), none⟩])
 (.cond (.t 11) .skip
 (.exit 0)))
 (.seq (.block 1 (.seq (.seq (.plan [⟨0, ⟨some 14, .mov (.t 0), none⟩, []⟩,
 ⟨1, ⟨some 15, .mov (.t 7), none⟩, []⟩,
 ⟨2, ⟨some 16, .indexAddr 2 true none (.t 14) (.t 15), none⟩, []⟩,
 ⟨3, ⟨some 17, .load 2 true (.t 16), none⟩, []⟩,
 ⟨4, ⟨some 18, .load 2 true (.t 3), none⟩, []⟩,
 ⟨5, ⟨some 19, .eqAgg [0, 0] false (.t 17) (.t 18), none⟩, []⟩])
 (.cond (.t 19) (.seq (.reg [⟨some 20, .mov (.t 0), none⟩,
 ⟨some 4, .mov (.t 20), none⟩])
 .ret)
 .skip))
 (.seq (.seq (.plan [⟨0, ⟨some 21, .mov (.t 6), none⟩, []⟩,
 ⟨1, ⟨some 22, .un .not (.t 21), none⟩, []⟩,
 ⟨2, ⟨some 23, .mov (.t 22), none⟩, []⟩,
 ⟨3, ⟨some 24, .mov (.t 0), some (23, true)⟩, []⟩,
 ⟨4, ⟨some 25, .mov (.t 7), some (23, true)⟩, []⟩,
 ⟨5, ⟨some 26, .indexAddr 2 true none (.t 24) (.t 25), some (23, true)⟩, []⟩,
 ⟨6, ⟨some 27, .fieldAddr 1 1 false (.t 26), some (23, true)⟩, []⟩,
 ⟨7, ⟨some 28, .load 1 false (.t 27), some (23, true)⟩, []⟩,
 ⟨8, ⟨some 29, .fieldAddr 1 1 false (.t 3), some (23, true)⟩, []⟩,
 ⟨9, ⟨some 30, .load 1 false (.t 29), some (23, true)⟩, []⟩,
 ⟨10, ⟨some 31, .bin .gtr (.t 28) (.t 30), some (23, true)⟩, []⟩,
 ⟨11, ⟨some 32, .mov (.t 31), some (23, true)⟩, []⟩,
 ⟨12, ⟨some 33, .mov (.t 0), some (32, false)⟩, []⟩,
 ⟨13, ⟨some 34, .mov (.t 7), some (32, false)⟩, []⟩,
 ⟨14, ⟨some 35, .indexAddr 2 true none (.t 33) (.t 34), some (32, false)⟩, []⟩,
 ⟨15, ⟨some 36, .fieldAddr 1 1 false (.t 35), some (32, false)⟩, []⟩,
 ⟨16, ⟨some 37, .load 1 false (.t 36), some (32, false)⟩, []⟩,
 ⟨17, ⟨some 38, .fieldAddr 1 1 false (.t 3), some (32, false)⟩, []⟩,
 ⟨18, ⟨some 39, .load 1 false (.t 38), some (32, false)⟩, []⟩,
 ⟨19, ⟨some 40, .bin .eql (.t 37) (.t 39), some (32, false)⟩, []⟩,
 ⟨20, ⟨some 41, .mov (.t 40), some (32, false)⟩, []⟩,
 ⟨21, ⟨some 42, .mov (.t 0), some (41, true)⟩, []⟩,
 ⟨22, ⟨some 43, .mov (.t 7), some (41, true)⟩, []⟩,
 ⟨23, ⟨some 44, .indexAddr 2 true none (.t 42) (.t 43), some (41, true)⟩, []⟩,
 ⟨24, ⟨some 45, .fieldAddr 0 1 false (.t 44), some (41, true)⟩, []⟩,
 ⟨25, ⟨some 46, .load 1 false (.t 45), some (41, true)⟩, []⟩,
 ⟨26, ⟨some 47, .fieldAddr 0 1 false (.t 3), some (41, true)⟩, []⟩,
 ⟨27, ⟨some 48, .load 1 false (.t 47), some (41, true)⟩, []⟩,
 ⟨28, ⟨some 49, .bin .gtr (.t 46) (.t 48), some (41, true)⟩, []⟩,
 ⟨29, ⟨some 50, .pick (.t 41) (.t 49) (.k (.bool false)), some (32, false)⟩, []⟩,
 ⟨30, ⟨some 51, .pick (.t 32) (.k (.bool true)) (.t 50), some (23, true)⟩, []⟩,
 ⟨31, ⟨some 52, .pick (.t 23) (.t 51) (.k (.bool false)), none⟩, []⟩])
 (.cond (.t 52) (.seq (.reg [⟨some 53, .mov (.t 5), none⟩,
 ⟨some 54, .load 2 true (.t 3), none⟩,
 ⟨some 55, .mkLit 2 [(.int .i64 0), (.int .i64 0)] [(0, 2, (.t 54))] false, none⟩,
 ⟨some 56, .append 2 16 (some 27) (.t 53) (.t 55), none⟩,
 ⟨some 5, .mov (.t 56), none⟩])
 (.reg [⟨some 6, .mov (.k (.bool true)), none⟩]))
 .skip))
 (.reg [⟨some 57, .mov (.t 5), none⟩,
 ⟨some 58, .mov (.t 0), none⟩,
 ⟨some 59, .mov (.t 7), none⟩,
 ⟨some 60, .indexAddr 2 true none (.t 58) (.t 59), none⟩,
 ⟨some 61, .load 2 true (.t 60), none⟩,
 ⟨some 62, .mkLit 2 [(.int .i64 0), (.int .i64 0)] [(0, 2, (.t 61))] false, none⟩,
 ⟨some 63, .append 2 16 (some 27) (.t 57) (.t 62), none⟩,
 ⟨some 5, .mov (.t 63), none⟩]))))
 (.reg [⟨some 12, .mov (.t 7), none⟩,
 ⟨some 13, .bin .add (.t 12) (.k (.int .i64 1)), none⟩,
 ⟨some 7, .mov (.t 13), none⟩])))

def a15 : AFunc := ⟨71, [.tmp 4],
 (.seq (.reg [⟨some 3, .box 2 (.t 1) false, none⟩,
 ⟨some 4, .mov (.k (.lst 2 [] .tight)), none⟩])
 (.seq (.reg [⟨some 5, .mov (.k (.lst 2 [] .tight)), none⟩])
 (.seq (.reg [⟨some 6, .mov (.k (.bool false)), none⟩])
 (.seq (.seq (.reg [⟨some 7, .mov (.k (.int .i64 0)), none⟩])
 (.block 0 (.loop a15_0)))
 (.seq (.seq (.reg [⟨some 64, .mov (.t 6), none⟩,
 ⟨some 65, .un .not (.t 64), none⟩])
 (.cond (.t 65) (.reg [⟨some 66, .mov (.t 5), none⟩,
 ⟨some 67, .load 2 true (.t 3), none⟩,
 ⟨some 68, .mkLit 2 [(.int .i64 0), (.int .i64 0)] [(0, 2, (.t 67))] false, none⟩,
 ⟨some 69, .append 2 16 (some 27) (.t 66) (.t 68), none⟩,
 ⟨some 5, .mov (.t 69), none⟩])
 .skip))
 (.seq (.reg [⟨some 70, .mov (.t 5), none⟩,
 ⟨some 4, .mov (.t 70), none⟩])
 .ret)))))),
 [], false⟩

def a16_0 : ACode := (.seq (.seq (.reg [⟨some 11, .mov (.t 5), none⟩,
 ⟨some 12, .mov (.t 0), none⟩,
 ⟨some 13, .lenSl (.t 12), none⟩,
 ⟨some 14, .bin .lss (.t 11) (.t 13), none⟩])
 (.cond (.t 14) .skip
 (.exit 0)))
 (.seq (.block 1 (.seq (.plan [⟨0, ⟨some 17, .mov (.t 0), none⟩, []⟩,
 ⟨1, ⟨some 18, .mov (.t 5), none⟩, []⟩,
 ⟨2, ⟨some 19, .indexAddr 2 true none (.t 17) (.t 18), none⟩, []⟩,
 ⟨3, ⟨some 20, .load 2 true (.t 19), none⟩, []⟩,
 ⟨4, ⟨some 21, .mov (.t 1), none⟩, []⟩,
 ⟨5, ⟨some 22, .mov (.t 5), none⟩, []⟩,
 ⟨6, ⟨some 23, .indexAddr 2 true none (.t 21) (.t 22), none⟩, []⟩,
 ⟨7, ⟨some 24, .load 2 true (.t 23), none⟩, []⟩,
 ⟨8, ⟨some 25, .eqAgg [0, 0] true (.t 20) (.t 24), none⟩, []⟩])
 (.cond (.t 25) (.seq (.reg [⟨some 4, .mov (.k (.bool false)), none⟩])
 .ret)
 .skip)))
 (.reg [⟨some 15, .mov (.t 5), none⟩,
 ⟨some 16, .bin .add (.t 15) (.k (.int .i64 1)), none⟩,
 ⟨some 5, .mov (.t 16), none⟩])))

def a16 : AFunc := ⟨26, [.tmp 4],
 (.seq (.reg [⟨some 4, .mov (.k (.bool false)), none⟩])
 (.seq (.seq (.reg [⟨some 6, .mov (.t 0), none⟩,
 ⟨some 7, .lenSl (.t 6), none⟩,
 ⟨some 8, .mov (.t 1), none⟩,
 ⟨some 9, .lenSl (.t 8), none⟩,
 ⟨some 10, .bin .neq (.t 7) (.t 9), none⟩])
 (.cond (.t 10) (.seq (.reg [⟨some 4, .mov (.k (.bool false)), none⟩])
 .ret)
 .skip))
 (.seq (.seq (.reg [⟨some 5, .mov (.k (.int .i64 0)), none⟩])
 (.block 0 (.loop a16_0)))
 (.seq (.reg [⟨some 4, .mov (.k (.bool true)), none⟩])
 .ret)))),
 [], false⟩

def a17 : AFunc := ⟨10, [.tmp 2],
 (.seq (.reg [⟨some 2, .mov (.k (.lst 2 [] .tight)), none⟩])
 (.seq (.reg [⟨some 4, .mov (.t 0), none⟩,
 ⟨some 5, .call (.k (.func (.func 44) [] [])) [(.t 4)], none⟩,
 ⟨some 3, .mov (.t 5), none⟩])
 (.seq (.reg [⟨some 6, .mov (.t 3), none⟩,
 ⟨some 7, .call (.k (.func (.func 45) [] [])) [(.t 6), (.k (.func (.func 46) [] []))], none⟩])
 (.seq (.reg [⟨some 8, .mov (.t 3), none⟩,
 ⟨some 9, .call (.k (.func (.func 50) [] [])) [(.t 8)], none⟩,
 ⟨some 2, .mov (.t 9), none⟩])
 .ret)))),
 [], false⟩

def a18_0 : ACode := (.seq (.seq (.reg [⟨some 76, .mov (.t 6), none⟩,
 ⟨some 77, .fieldAddr 0 1 false (.t 1), none⟩,
 ⟨some 78, .load 1 false (.t 77), none⟩,
 ⟨some 79, .mov (.t 5), none⟩,
 ⟨some 80, .indexAddr 7 true none (.t 78) (.t 79), none⟩,
 ⟨some 81, .fieldAddr 3 1 false (.t 80), none⟩,
 ⟨some 82, .load 1 false (.t 81), none⟩,
 ⟨some 83, .lenSl (.t 82), none⟩,
 ⟨some 84, .bin .lss (.t 76) (.t 83), none⟩,
 ⟨some 85, .mov (.t 84), none⟩,
 ⟨some 86, .mov (.t 6), some (85, true)⟩,
 ⟨some 87, .bin .lss (.t 86) (.k (.int .i64 1000)), some (85, true)⟩,
 ⟨some 88, .pick (.t 85) (.t 87) (.k (.bool false)), none⟩])
 (.cond (.t 88) .skip
 (.exit 4)))
 (.seq (.block 5 (.reg [⟨some 91, .mov (.t 3), none⟩,
 ⟨some 92, .bin .add (.t 91) (.k (.int .i64 1)), none⟩,
 ⟨some 93, .fieldAddr 0 1 false (.t 1), none⟩,
 ⟨some 94, .load 1 false (.t 93), none⟩,
 ⟨some 95, .mov (.t 5), none⟩,
 ⟨some 96, .indexAddr 7 true none (.t 94) (.t 95), none⟩,
 ⟨some 97, .fieldAddr 3 1 false (.t 96), none⟩,
 ⟨some 98, .load 1 false (.t 97), none⟩,
 ⟨some 99, .mov (.t 6), none⟩,
 ⟨some 100, .indexAddr 9 true none (.t 98) (.t 99), none⟩,
 ⟨some 101, .fieldAddr 5 1 false (.t 100), none⟩,
 ⟨some 102, .load 1 false (.t 101), none⟩,
 ⟨some 103, .lenSl (.t 102), none⟩,
 ⟨some 104, .bin .add (.t 92) (.t 103), none⟩,
 ⟨some 3, .mov (.t 104), none⟩]))
 (.reg [⟨some 89, .mov (.t 6), none⟩,
 ⟨some 90, .bin .add (.t 89) (.k (.int .i64 1)), none⟩,
 ⟨some 6, .mov (.t 90), none⟩])))

def a18_1 : ACode := (.seq (.seq (.reg [⟨some 51, .mov (.t 5), none⟩,
 ⟨some 52, .fieldAddr 0 1 false (.t 1), none⟩,
 ⟨some 53, .load 1 false (.t 52), none⟩,
 ⟨some 54, .lenSl (.t 53), none⟩,
 ⟨some 55, .bin .lss (.t 51) (.t 54), none⟩])
 (.cond (.t 55) .skip
 (.exit 2)))
 (.seq (.block 3 (.seq (.plan [⟨0, ⟨some 58, .mov (.t 3), none⟩, []⟩,
 ⟨1, ⟨some 59, .fieldAddr 0 1 false (.t 1), none⟩, []⟩,
 ⟨2, ⟨some 60, .load 1 false (.t 59), none⟩, []⟩,
 ⟨3, ⟨some 61, .mov (.t 5), none⟩, []⟩,
 ⟨4, ⟨some 62, .indexAddr 7 true none (.t 60) (.t 61), none⟩, []⟩,
 ⟨5, ⟨some 63, .fieldAddr 2 1 false (.t 62), none⟩, []⟩,
 ⟨6, ⟨some 64, .load 1 false (.t 63), none⟩, []⟩,
 ⟨7, ⟨some 65, .lenSl (.t 64), none⟩, []⟩,
 ⟨8, ⟨some 66, .bin .add (.t 58) (.t 65), none⟩, []⟩,
 ⟨9, ⟨some 67, .fieldAddr 0 1 false (.t 1), none⟩, []⟩,
 ⟨10, ⟨some 68, .load 1 false (.t 67), none⟩, []⟩,
 ⟨11, ⟨some 69, .mov (.t 5), none⟩, []⟩,
 ⟨12, ⟨some 70, .indexAddr 7 true none (.t 68) (.t 69), none⟩, []⟩,
 ⟨13, ⟨some 71, .fieldAddr 1 1 false (.t 70), none⟩, []⟩,
 ⟨14, ⟨some 72, .load 1 false (.t 71), none⟩, []⟩,
 ⟨15, ⟨some 73, .lenStr (.t 72), none⟩, []⟩,
 ⟨16, ⟨some 74, .bin .quo (.t 73) (.k (.int .i64 100)), none⟩, []⟩,
 ⟨17, ⟨some 75, .bin .add (.t 66) (.t 74), none⟩, []⟩,
 ⟨18, ⟨some 3, .mov (.t 75), none⟩, []⟩])
 (.seq (.reg [⟨some 6, .mov (.k (.int .i64 0)), none⟩])
 (.block 4 (.loop a18_0)))))
 (.reg [⟨some 56, .mov (.t 5), none⟩,
 ⟨some 57, .bin .add (.t 56) (.k (.int .i64 1)), none⟩,
 ⟨some 5, .mov (.t 57), none⟩])))

def a18_2 : ACode := (.seq (.seq (.reg [⟨some 17, .mov (.t 4), none⟩,
 ⟨some 18, .fieldAddr 1 1 false (.t 1), none⟩,
 ⟨some 19, .load 1 false (.t 18), none⟩,
 ⟨some 20, .lenSl (.t 19), none⟩,
 ⟨some 21, .bin .lss (.t 17) (.t 20), none⟩])
 (.cond (.t 21) .skip
 (.exit 0)))
 (.seq (.block 1 (.plan [⟨0, ⟨some 24, .mov (.t 3), none⟩, []⟩,
 ⟨1, ⟨some 25, .fieldAddr 1 1 false (.t 1), none⟩, []⟩,
 ⟨2, ⟨some 26, .load 1 false (.t 25), none⟩, []⟩,
 ⟨3, ⟨some 27, .mov (.t 4), none⟩, []⟩,
 ⟨4, ⟨some 28, .indexAddr 9 true none (.t 26) (.t 27), none⟩, []⟩,
 ⟨5, ⟨some 29, .fieldAddr 7 1 false (.t 28), none⟩, []⟩,
 ⟨6, ⟨some 30, .load 1 false (.t 29), none⟩, []⟩,
 ⟨7, ⟨some 31, .lenSl (.t 30), none⟩, []⟩,
 ⟨8, ⟨some 32, .bin .add (.t 24) (.t 31), none⟩, []⟩,
 ⟨9, ⟨some 33, .fieldAddr 1 1 false (.t 1), none⟩, []⟩,
 ⟨10, ⟨some 34, .load 1 false (.t 33), none⟩, []⟩,
 ⟨11, ⟨some 35, .mov (.t 4), none⟩, []⟩,
 ⟨12, ⟨some 36, .indexAddr 9 true none (.t 34) (.t 35), none⟩, []⟩,
 ⟨13, ⟨some 37, .fieldAddr 4 1 false (.t 36), none⟩, []⟩,
 ⟨14, ⟨some 38, .load 1 false (.t 37), none⟩, []⟩,
 ⟨15, ⟨some 39, .lenStr (.t 38), none⟩, []⟩,
 ⟨16, ⟨some 40, .bin .quo (.t 39) (.k (.int .i64 100)), none⟩, []⟩,
 ⟨17, ⟨some 41, .bin .add (.t 32) (.t 40), none⟩, []⟩,
 ⟨18, ⟨some 42, .fieldAddr 1 1 false (.t 1), none⟩, []⟩,
 ⟨19, ⟨some 43, .load 1 false (.t 42), none⟩, []⟩,
 ⟨20, ⟨some 44, .mov (.t 4), none⟩, []⟩,
 ⟨21, ⟨some 45, .indexAddr 9 true none (.t 43) (.t 44), none⟩, []⟩,
 ⟨22, ⟨some 46, .fieldAddr 5 1 false (.t 45), none⟩, []⟩,
 ⟨23, ⟨some 47, .load 1 false (.t 46), none⟩, []⟩,
 ⟨24, ⟨some 48, .lenStr (.t 47), none⟩, []⟩,
 ⟨25, ⟨some 49, .bin .quo (.t 48) (.k (.int .i64 100)), none⟩, []⟩,
 ⟨26, ⟨some 50, .bin .add (.t 41) (.t 49), none⟩, []⟩,
 ⟨27, ⟨some 3, .mov (.t 50), none⟩, []⟩]))
 (.reg [⟨some 22, .mov (.t 4), none⟩,
 ⟨some 23, .bin .add (.t 22) (.k (.int .i64 1)), none⟩,
 ⟨some 4, .mov (.t 23), none⟩])))

def a18 : AFunc := ⟨107, [.tmp 2],
 (.seq (.reg [⟨some 1, .box 2 (.t 0) false, none⟩,
 ⟨some 2, .mov (.k (.bool false)), none⟩])
 (.seq (.seq (.reg [⟨some 7, .fieldAddr 1 1 false (.t 1), none⟩,
 ⟨some 8, .load 1 false (.t 7), none⟩,
 ⟨some 9, .lenSl (.t 8), none⟩,
 ⟨some 10, .bin .gtr (.t 9) (.k (.int .i64 300)), none⟩,
 ⟨some 11, .mov (.t 10), none⟩,
 ⟨some 12, .fieldAddr 0 1 false (.t 1), some (11, false)⟩,
 ⟨some 13, .load 1 false (.t 12), some (11, false)⟩,
 ⟨some 14, .lenSl (.t 13), some (11, false)⟩,
 ⟨some 15, .bin .gtr (.t 14) (.k (.int .i64 60)), some (11, false)⟩,
 ⟨some 16, .pick (.t 11) (.k (.bool true)) (.t 15), none⟩])
 (.cond (.t 16) (.seq (.reg [⟨some 2, .mov (.k (.bool true)), none⟩])
 .ret)
 .skip))
 (.seq (.reg [⟨some 3, .mov (.k (.int .i64 0)), none⟩])
 (.seq (.seq (.reg [⟨some 4, .mov (.k (.int .i64 0)), none⟩])
 (.block 0 (.loop a18_2)))
 (.seq (.seq (.reg [⟨some 5, .mov (.k (.int .i64 0)), none⟩])
 (.block 2 (.loop a18_1)))
 (.seq (.reg [⟨some 105, .mov (.t 3), none⟩,
 ⟨some 106, .bin .gtr (.t 105) (.k (.int .i64 600)), none⟩,
 ⟨some 2, .mov (.t 106), none⟩])
 .ret)))))),
 [], false⟩

def a19_0 : ACode := (.seq (.seq (.reg [⟨some 29, .mov (.t 4), none⟩,
 ⟨some 30, .fieldAddr 0 1 false (.t 1), none⟩,
 ⟨some 31, .load 1 false (.t 30), none⟩,
 ⟨some 32, .mov (.t 3), none⟩,
 ⟨some 33, .indexAddr 7 true none (.t 31) (.t 32), none⟩,
 ⟨some 34, .fieldAddr 3 1 false (.t 33), none⟩,
 ⟨some 35, .load 1 false (.t 34), none⟩,
 ⟨some 36, .lenSl (.t 35), none⟩,
 ⟨some 37, .bin .lss (.t 29) (.t 36), none⟩])
 (.cond (.t 37) .skip
 (.exit 2)))
 (.seq (.block 3 (.seq (.reg [⟨some 40, .fieldAddr 0 1 false (.t 1), none⟩,
 ⟨some 41, .load 1 false (.t 40), none⟩,
 ⟨some 42, .mov (.t 3), none⟩,
 ⟨some 43, .indexAddr 7 true none (.t 41) (.t 42), none⟩,
 ⟨some 44, .fieldAddr 3 1 false (.t 43), none⟩,
 ⟨some 45, .load 1 false (.t 44), none⟩,
 ⟨some 46, .mov (.t 4), none⟩,
 ⟨some 47, .indexAddr 9 true none (.t 45) (.t 46), none⟩,
 ⟨some 48, .load 9 true (.t 47), none⟩,
 ⟨some 5, .new (.agg [(.int .i64 0), (.str []), (.int .i64 0), (.int .i64 0), (.int .i64 0), (.lst 1 [] .tight), (.str []), (.str []), (.int .i64 0)]) true none, none⟩,
 ⟨none, .store 9 (.t 5) (.t 48), none⟩])
 (.seq (.reg [⟨some 49, .fieldAddr 0 1 false (.t 5), none⟩,
 ⟨some 50, .load 1 false (.t 49), none⟩,
 ⟨some 51, .bin .lss (.t 50) (.k (.int .i64 1)), none⟩,
 ⟨some 52, .mov (.t 51), none⟩,
 ⟨some 53, .fieldAddr 0 1 false (.t 5), some (52, false)⟩,
 ⟨some 54, .load 1 false (.t 53), some (52, false)⟩,
 ⟨some 55, .bin .gtr (.t 54) (.k (.int .i64 8)), some (52, false)⟩,
 ⟨some 56, .pick (.t 52) (.k (.bool true)) (.t 55), none⟩,
 ⟨some 57, .mov (.t 56), none⟩,
 ⟨some 58, .fieldAddr 0 1 false (.t 1), some (57, false)⟩,
 ⟨some 59, .load 1 false (.t 58), some (57, false)⟩,
 ⟨some 60, .mov (.t 3), some (57, false)⟩,
 ⟨some 61, .indexAddr 7 true none (.t 59) (.t 60), some (57, false)⟩,
 ⟨some 62, .fieldAddr 0 1 false (.t 61), some (57, false)⟩,
 ⟨some 63, .load 1 false (.t 62), some (57, false)⟩,
 ⟨some 64, .bin .lss (.t 63) (.k (.int .i64 3)), some (57, false)⟩,
 ⟨some 65, .mov (.t 64), some (57, false)⟩,
 ⟨some 66, .fieldAddr 0 1 false (.t 5), some (65, true)⟩,
 ⟨some 67, .load 1 false (.t 66), some (65, true)⟩,
 ⟨some 68, .bin .neq (.t 67) (.k (.int .i64 1)), some (65, true)⟩,
 ⟨some 69, .pick (.t 65) (.t 68) (.k (.bool false)), some (57, false)⟩,
 ⟨some 70, .pick (.t 57) (.k (.bool true)) (.t 69), none⟩,
 ⟨some 71, .mov (.t 70), none⟩,
 ⟨some 72, .fieldAddr 0 1 false (.t 5), some (71, false)⟩,
 ⟨some 73, .load 1 false (.t 72), some (71, false)⟩,
 ⟨some 74, .bin .eql (.t 73) (.k (.int .i64 6)), some (71, false)⟩,
 ⟨some 75, .mov (.t 74), some (71, false)⟩,
 ⟨some 76, .fieldAddr 5 1 false (.t 5), some (75, true)⟩,
 ⟨some 77, .load 1 false (.t 76), some (75, true)⟩,
 ⟨some 78, .lenSl (.t 77), some (75, true)⟩,
 ⟨some 79, .bin .eql (.t 78) (.k (.int .i64 0)), some (75, true)⟩,
 ⟨some 80, .pick (.t 75) (.t 79) (.k (.bool false)), some (71, false)⟩,
 ⟨some 81, .pick (.t 71) (.k (.bool true)) (.t 80), none⟩])
 (.cond (.t 81) (.seq (.reg [⟨some 2, .mov (.k (.bool false)), none⟩])
 .ret)
 .skip))))
 (.reg [⟨some 38, .mov (.t 4), none⟩,
 ⟨some 39, .bin .add (.t 38) (.k (.int .i64 1)), none⟩,
 ⟨some 4, .mov (.t 39), none⟩])))

def a19_1 : ACode := (.seq (.seq (.reg [⟨some 6, .mov (.t 3), none⟩,
 ⟨some 7, .fieldAddr 0 1 false (.t 1), none⟩,
 ⟨some 8, .load 1 false (.t 7), none⟩,
 ⟨some 9, .lenSl (.t 8), none⟩,
 ⟨some 10, .bin .lss (.t 6) (.t 9), none⟩])
 (.cond (.t 10) .skip
 (.exit 0)))
 (.seq (.block 1 (.seq (.seq (.reg [⟨some 13, .fieldAddr 0 1 false (.t 1), none⟩,
 ⟨some 14, .load 1 false (.t 13), none⟩,
 ⟨some 15, .mov (.t 3), none⟩,
 ⟨some 16, .indexAddr 7 true none (.t 14) (.t 15), none⟩,
 ⟨some 17, .fieldAddr 0 1 false (.t 16), none⟩,
 ⟨some 18, .load 1 false (.t 17), none⟩,
 ⟨some 19, .bin .lss (.t 18) (.k (.int .i64 1)), none⟩,
 ⟨some 20, .mov (.t 19), none⟩,
 ⟨some 21, .fieldAddr 0 1 false (.t 1), some (20, false)⟩,
 ⟨some 22, .load 1 false (.t 21), some (20, false)⟩,
 ⟨some 23, .mov (.t 3), some (20, false)⟩,
 ⟨some 24, .indexAddr 7 true none (.t 22) (.t 23), some (20, false)⟩,
 ⟨some 25, .fieldAddr 0 1 false (.t 24), some (20, false)⟩,
 ⟨some 26, .load 1 false (.t 25), some (20, false)⟩,
 ⟨some 27, .bin .gtr (.t 26) (.k (.int .i64 3)), some (20, false)⟩,
 ⟨some 28, .pick (.t 20) (.k (.bool true)) (.t 27), none⟩])
 (.cond (.t 28) (.seq (.reg [⟨some 2, .mov (.k (.bool false)), none⟩])
 .ret)
 .skip))
 (.seq (.reg [⟨some 4, .mov (.k (.int .i64 0)), none⟩])
 (.block 2 (.loop a19_0)))))
 (.reg [⟨some 11, .mov (.t 3), none⟩,
 ⟨some 12, .bin .add (.t 11) (.k (.int .i64 1)), none⟩,
 ⟨some 3, .mov (.t 12), none⟩])))

def a19 : AFunc := ⟨84, [.tmp 2],
 (.seq (.reg [⟨some 1, .box 2 (.t 0) false, none⟩,
 ⟨some 2, .mov (.k (.bool false)), none⟩])
 (.seq (.seq (.reg [⟨some 3, .mov (.k (.int .i64 0)), none⟩])
 (.block 0 (.loop a19_1)))
 (.seq (.reg [⟨some 82, .load 2 true (.t 1), none⟩,
 ⟨some 83, .call (.k (.func (.func 51) [] [])) [(.t 82)], none⟩,
 ⟨some 2, .mov (.t 83), none⟩])
 .ret))),
 [], false⟩

def a20 : AFunc := ⟨18, [.tmp 2],
 (.seq (.reg [⟨some 1, .box 2 (.t 0) false, none⟩,
 ⟨some 2, .mov (.k (.lst 2 [] .tight)), none⟩])
 (.seq (.seq (.reg [⟨some 5, .load 2 true (.t 1), none⟩,
 ⟨some 6, .call (.k (.func (.func 52) [] [])) [(.t 5)], none⟩,
 ⟨some 7, .un .not (.t 6), none⟩])
 (.cond (.t 7) (.seq (.reg [⟨some 2, .mov (.k (.lst 2 [] .tight)), none⟩])
 .ret)
 .skip))
 (.seq (.reg [⟨some 3, .new (.lst 2 [] .tight) true none, none⟩])
 (.seq (.seq (.reg [⟨some 8, .load 2 true (.t 1), none⟩,
 ⟨some 9, .call (.k (.func (.func 53) [] [])) [(.t 8)], none⟩])
 (.block 0 (.rangeFunc (.t 9) [10] 0)))
 (.seq (.reg [⟨some 16, .load 1 false (.t 3), none⟩,
 ⟨some 17, .call (.k (.func (.func 17) [] [])) [(.t 16)], none⟩,
 ⟨some 2, .mov (.t 17), none⟩])
 .ret))))),
 [((.reg [⟨some 4, .mov (.t 10), none⟩]), (.block 1 (.reg [⟨some 11, .load 1 false (.t 3), none⟩,
 ⟨some 12, .mov (.t 4), none⟩,
 ⟨some 13, .build [(.int .i64 0), (.int .i64 0)] [(0, 1, (.k (.int .i64 4))), (1, 1, (.t 12))], none⟩,
 ⟨some 14, .mkLit 2 [(.int .i64 0), (.int .i64 0)] [(0, 2, (.t 13))] false, none⟩,
 ⟨some 15, .append 2 16 (some 27) (.t 11) (.t 14), none⟩,
 ⟨none, .store 1 (.t 3) (.t 15), none⟩])))], false⟩

def a21 : AFunc := ⟨11, [.tmp 2],
 (.seq (.reg [⟨some 1, .box 2 (.t 0) false, none⟩,
 ⟨some 2, .mov (.k (.bool false)), none⟩])
 (.seq (.reg [⟨some 3, .load 2 true (.t 1), none⟩,
 ⟨some 4, .call (.k (.func (.func 52) [] [])) [(.t 3)], none⟩,
 ⟨some 5, .mov (.t 4), none⟩,
 ⟨some 6, .load 2 true (.t 1), some (5, true)⟩,
 ⟨some 7, .call (.k (.func (.func 20) [] [])) [(.t 6)], some (5, true)⟩,
 ⟨some 8, .lenSl (.t 7), some (5, true)⟩,
 ⟨some 9, .bin .eql (.t 8) (.k (.int .i64 0)), some (5, true)⟩,
 ⟨some 10, .pick (.t 5) (.t 9) (.k (.bool false)), none⟩,
 ⟨some 2, .mov (.t 10), none⟩])
 .ret)),
 [], false⟩

def a22_0 : ACode := (.seq (.seq (.reg [⟨some 215, .mov (.t 17), none⟩,
 ⟨some 216, .mov (.t 16), none⟩,
 ⟨some 217, .lenSl (.t 216), none⟩,
 ⟨some 218, .bin .lss (.t 215) (.t 217), none⟩])
 (.cond (.t 218) .skip
 (.exit 13)))
 (.seq (.block 14 (.seq (.seq (.reg [⟨some 221, .mov (.t 16), none⟩,
 ⟨some 222, .mov (.t 17), none⟩,
 ⟨some 223, .indexAddr 1 false none (.t 221) (.t 222), none⟩,
 ⟨some 224, .load 1 false (.t 223), none⟩,
 ⟨some 225, .un .not (.t 224), none⟩])
 (.cond (.t 225) (.exit 14)
 .skip))
 (.seq (.reg [⟨some 226, .fieldAddr 1 1 false (.t 1), none⟩,
 ⟨some 227, .load 1 false (.t 226), none⟩,
 ⟨some 228, .mov (.t 17), none⟩,
 ⟨some 229, .indexAddr 9 true none (.t 227) (.t 228), none⟩,
 ⟨some 230, .load 9 true (.t 229), none⟩,
 ⟨some 18, .new (.agg [(.int .i64 0), (.int .i64 0), (.int .i64 0), (.int .i64 0), (.str []), (.str []), (.int .i64 0), (.lst 1 [] .tight), (.int .i64 0)]) true none, none⟩,
 ⟨none, .store 9 (.t 18) (.t 230), none⟩])
 (.seq (.reg [⟨some 19, .mov (.k (.bool false)), none⟩])
 (.seq (.reg [⟨some 232, .load 7 true (.t 6), none⟩,
 ⟨some 233, .fieldAddr 4 1 false (.t 18), none⟩,
 ⟨some 234, .load 1 false (.t 233), none⟩,
 ⟨some 235, .call (.k (.func (.func 32) [] [])) [(.t 232), (.t 234)], none⟩,
 ⟨some 231, .mov (.t 235), none⟩,
 ⟨some 236, .extract (.t 231) 0, none⟩,
 ⟨some 237, .extract (.t 231) 1, none⟩,
 ⟨some 20, .new (.agg [(.str []), (.int .i64 0), (.int .i64 0), (.int .i64 0)]) true none, none⟩,
 ⟨none, .store 4 (.t 20) (.t 236), none⟩,
 ⟨some 21, .mov (.t 237), none⟩])
 (.seq (.seq (.reg [⟨some 238, .fieldAddr 0 1 false (.t 18), none⟩,
 ⟨some 239, .load 1 false (.t 238), none⟩,
 ⟨some 240, .bin .eql (.t 239) (.k (.int .i64 3)), none⟩])
 (.cond (.t 240) (.reg [⟨some 241, .mov (.t 21), none⟩,
 ⟨some 242, .un .not (.t 241), none⟩,
 ⟨some 243, .mov (.t 242), none⟩,
 ⟨some 244, .fieldAddr 1 1 false (.t 20), some (243, false)⟩,
 ⟨some 245, .load 1 false (.t 244), some (243, false)⟩,
 ⟨some 246, .bin .eql (.t 245) (.k (.int .i64 5)), some (243, false)⟩,
 ⟨some 247, .pick (.t 243) (.k (.bool true)) (.t 246), none⟩,
 ⟨some 19, .mov (.t 247), none⟩])
 .skip))
 (.seq (.seq (.reg [⟨some 248, .fieldAddr 0 1 false (.t 18), none⟩,
 ⟨some 249, .load 1 false (.t 248), none⟩,
 ⟨some 250, .bin .eql (.t 249) (.k (.int .i64 20)), none⟩])
 (.cond (.t 250) (.reg [⟨some 251, .load 7 true (.t 6), none⟩,
 ⟨some 252, .fieldAddr 4 1 false (.t 18), none⟩,
 ⟨some 253, .load 1 false (.t 252), none⟩,
 ⟨some 254, .fieldAddr 5 1 false (.t 18), none⟩,
 ⟨some 255, .load 1 false (.t 254), none⟩,
 ⟨some 256, .call (.k (.func (.func 54) [] [])) [(.t 251), (.t 253), (.t 255)], none⟩,
 ⟨some 257, .un .not (.t 256), none⟩,
 ⟨some 19, .mov (.t 257), none⟩])
 .skip))
 (.seq (.seq (.reg [⟨some 258, .fieldAddr 0 1 false (.t 18), none⟩,
 ⟨some 259, .load 1 false (.t 258), none⟩,
 ⟨some 260, .bin .eql (.t 259) (.k (.int .i64 19)), none⟩])
 (.cond (.t 260) (.seq (.reg [⟨some 261, .load 2 true (.t 1), none⟩,
 ⟨some 262, .fieldAddr 4 1 false (.t 18), none⟩,
 ⟨some 263, .load 1 false (.t 262), none⟩,
 ⟨some 264, .call (.k (.func (.func 29) [] [])) [(.t 261), (.t 263)], none⟩,
 ⟨some 22, .mov (.t 264), none⟩])
 (.plan [⟨0, ⟨some 265, .mov (.t 22), none⟩, []⟩,
 ⟨1, ⟨some 266, .bin .lss (.t 265) (.k (.int .i64 0)), none⟩, []⟩,
 ⟨2, ⟨some 267, .mov (.t 266), none⟩, []⟩,
 ⟨3, ⟨some 268, .fieldAddr 0 1 false (.t 1), some (267, false)⟩, []⟩,
 ⟨4, ⟨some 269, .load 1 false (.t 268), some (267, false)⟩, []⟩,
 ⟨5, ⟨some 270, .mov (.t 22), some (267, false)⟩, []⟩,
 ⟨6, ⟨some 271, .indexAddr 7 true none (.t 269) (.t 270), some (267, false)⟩, []⟩,
 ⟨7, ⟨some 272, .fieldAddr 0 1 false (.t 271), some (267, false)⟩, []⟩,
 ⟨8, ⟨some 273, .load 1 false (.t 272), some (267, false)⟩, []⟩,
 ⟨9, ⟨some 274, .bin .eql (.t 273) (.k (.int .i64 3)), some (267, false)⟩, []⟩,
 ⟨10, ⟨some 275, .pick (.t 267) (.k (.bool true)) (.t 274), none⟩, []⟩,
 ⟨11, ⟨some 276, .mov (.t 275), none⟩, []⟩,
 ⟨12, ⟨some 277, .fieldAddr 0 1 false (.t 1), some (276, false)⟩, []⟩,
 ⟨13, ⟨some 278, .load 1 false (.t 277), some (276, false)⟩, []⟩,
 ⟨14, ⟨some 279, .mov (.t 22), some (276, false)⟩, []⟩,
 ⟨15, ⟨some 280, .indexAddr 7 true none (.t 278) (.t 279), some (276, false)⟩, []⟩,
 ⟨16, ⟨some 281, .fieldAddr 2 1 false (.t 280), some (276, false)⟩, []⟩,
 ⟨17, ⟨some 282, .load 1 false (.t 281), some (276, false)⟩, []⟩,
 ⟨18, ⟨some 283, .lenSl (.t 282), some (276, false)⟩, []⟩,
 ⟨19, ⟨some 284, .fieldAddr 7 1 false (.t 18), some (276, false)⟩, []⟩,
 ⟨20, ⟨some 285, .load 1 false (.t 284), some (276, false)⟩, []⟩,
 ⟨21, ⟨some 286, .lenSl (.t 285), some (276, false)⟩, []⟩,
 ⟨22, ⟨some 287, .bin .neq (.t 283) (.t 286), some (276, false)⟩, []⟩,
 ⟨23, ⟨some 288, .pick (.t 276) (.k (.bool true)) (.t 287), none⟩, []⟩,
 ⟨24, ⟨some 19, .mov (.t 288), none⟩, []⟩]))
 .skip))
 (.seq (.reg [⟨some 289, .mov (.t 19), none⟩])
 (.cond (.t 289) (.reg [⟨some 290, .mov (.t 3), none⟩,
 ⟨some 291, .fieldAddr 8 1 false (.t 18), none⟩,
 ⟨some 292, .load 1 false (.t 291), none⟩,
 ⟨some 293, .build [(.int .i64 0), (.int .i64 0)] [(0, 1, (.k (.int .i64 4))), (1, 1, (.t 292))], none⟩,
 ⟨some 294, .call (.k (.func (.func 15) [] [])) [(.t 290), (.t 293)], none⟩,
 ⟨some 3, .mov (.t 294), none⟩])
 .skip))))))))))
 (.reg [⟨some 219, .mov (.t 17), none⟩,
 ⟨some 220, .bin .add (.t 219) (.k (.int .i64 1)), none⟩,
 ⟨some 17, .mov (.t 220), none⟩])))

def a22_1 : ACode := (.seq (.seq (.reg [⟨some 137, .mov (.t 15), none⟩,
 ⟨some 138, .mov (.t 14), none⟩,
 ⟨some 139, .bin .lss (.t 137) (.t 138), none⟩])
 (.cond (.t 139) .skip
 (.exit 11)))
 (.seq (.block 12 (.plan [⟨0, ⟨some 142, .mov (.t 13), none⟩, []⟩,
 ⟨1, ⟨some 143, .mov (.t 142), none⟩, []⟩,
 ⟨2, ⟨some 144, .fieldAddr 5 1 false (.t 10), some (143, false)⟩, []⟩,
 ⟨3, ⟨some 145, .load 1 false (.t 144), some (143, false)⟩, []⟩,
 ⟨4, ⟨some 146, .mov (.t 14), some (143, false)⟩, []⟩,
 ⟨5, ⟨some 147, .indexAddr 1 false none (.t 145) (.t 146), some (143, false)⟩, []⟩,
 ⟨6, ⟨some 148, .load 1 false (.t 147), some (143, false)⟩, []⟩,
 ⟨7, ⟨some 149, .fieldAddr 5 1 false (.t 10), some (143, false)⟩, []⟩,
 ⟨8, ⟨some 150, .load 1 false (.t 149), some (143, false)⟩, []⟩,
 ⟨9, ⟨some 151, .mov (.t 15), some (143, false)⟩, []⟩,
 ⟨10, ⟨some 152, .indexAddr 1 false none (.t 150) (.t 151), some (143, false)⟩, []⟩,
 ⟨11, ⟨some 153, .load 1 false (.t 152), some (143, false)⟩, []⟩,
 ⟨12, ⟨some 154, .bin .eql (.t 148) (.t 153), some (143, false)⟩, []⟩,
 ⟨13, ⟨some 155, .pick (.t 143) (.k (.bool true)) (.t 154), none⟩, []⟩,
 ⟨14, ⟨some 13, .mov (.t 155), none⟩, []⟩]))
 (.reg [⟨some 140, .mov (.t 15), none⟩,
 ⟨some 141, .bin .add (.t 140) (.k (.int .i64 1)), none⟩,
 ⟨some 15, .mov (.t 141), none⟩])))

def a22_2 : ACode := (.seq (.seq (.reg [⟨some 125, .mov (.t 14), none⟩,
 ⟨some 126, .fieldAddr 5 1 false (.t 10), none⟩,
 ⟨some 127, .load 1 false (.t 126), none⟩,
 ⟨some 128, .lenSl (.t 127), none⟩,
 ⟨some 129, .bin .lss (.t 125) (.t 128), none⟩,
 ⟨some 130, .mov (.t 129), none⟩,
 ⟨some 131, .fieldAddr 0 1 false (.t 10), some (130, true)⟩,
 ⟨some 132, .load 1 false (.t 131), some (130, true)⟩,
 ⟨some 133, .bin .eql (.t 132) (.k (.int .i64 6)), some (130, true)⟩,
 ⟨some 134, .pick (.t 130) (.t 133) (.k (.bool false)), none⟩])
 (.cond (.t 134) .skip
 (.exit 9)))
 (.seq (.block 10 (.seq (.reg [⟨some 15, .mov (.k (.int .i64 0)), none⟩])
 (.block 11 (.loop a22_1))))
 (.reg [⟨some 135, .mov (.t 14), none⟩,
 ⟨some 136, .bin .add (.t 135) (.k (.int .i64 1)), none⟩,
 ⟨some 14, .mov (.t 136), none⟩])))

def a22_3 : ACode := (.seq (.seq (.reg [⟨some 90, .mov (.t 9), none⟩,
 ⟨some 91, .fieldAddr 3 1 false (.t 6), none⟩,
 ⟨some 92, .load 1 false (.t 91), none⟩,
 ⟨some 93, .lenSl (.t 92), none⟩,
 ⟨some 94, .bin .lss (.t 90) (.t 93), none⟩])
 (.cond (.t 94) .skip
 (.exit 6)))
 (.seq (.block 7 (.seq (.reg [⟨some 97, .fieldAddr 3 1 false (.t 6), none⟩,
 ⟨some 98, .load 1 false (.t 97), none⟩,
 ⟨some 99, .mov (.t 9), none⟩,
 ⟨some 100, .indexAddr 9 true none (.t 98) (.t 99), none⟩,
 ⟨some 101, .load 9 true (.t 100), none⟩,
 ⟨some 10, .new (.agg [(.int .i64 0), (.str []), (.int .i64 0), (.int .i64 0), (.int .i64 0), (.lst 1 [] .tight), (.str []), (.str []), (.int .i64 0)]) true none, none⟩,
 ⟨none, .store 9 (.t 10) (.t 101), none⟩])
 (.seq (.reg [⟨some 103, .load 7 true (.t 6), none⟩,
 ⟨some 104, .fieldAddr 1 1 false (.t 10), none⟩,
 ⟨some 105, .load 1 false (.t 104), none⟩,
 ⟨some 106, .call (.k (.func (.func 32) [] [])) [(.t 103), (.t 105)], none⟩,
 ⟨some 102, .mov (.t 106), none⟩,
 ⟨some 107, .extract (.t 102) 0, none⟩,
 ⟨some 108, .extract (.t 102) 1, none⟩,
 ⟨some 11, .new (.agg [(.str []), (.int .i64 0), (.int .i64 0), (.int .i64 0)]) true none, none⟩,
 ⟨none, .store 4 (.t 11) (.t 107), none⟩,
 ⟨some 12, .mov (.t 108), none⟩])
 (.seq (.reg [⟨some 13, .mov (.k (.bool false)), none⟩])
 (.seq (.seq (.reg [⟨some 109, .fieldAddr 0 1 false (.t 10), none⟩,
 ⟨some 110, .load 1 false (.t 109), none⟩])
 (.block 8 (.seq (.seq (.reg [⟨some 112, .bin .eql (.t 110) (.k (.int .i64 1)), none⟩,
 ⟨some 111, .mov (.t 112), none⟩])
 (.cond (.t 111) .skip
 (.seq (.reg [⟨some 113, .bin .eql (.t 110) (.k (.int .i64 2)), none⟩,
 ⟨some 111, .mov (.t 113), none⟩])
 (.cond (.t 111) .skip
 (.seq (.reg [⟨some 114, .bin .eql (.t 110) (.k (.int .i64 4)), none⟩,
 ⟨some 111, .mov (.t 114), none⟩])
 (.cond (.t 111) .skip
 (.reg [⟨some 115, .bin .eql (.t 110) (.k (.int .i64 6)), none⟩,
 ⟨some 111, .mov (.t 115), none⟩])))))))
 (.cond (.t 111) (.seq (.reg [⟨some 116, .fieldAddr 1 1 false (.t 11), none⟩,
 ⟨some 117, .load 1 false (.t 116), none⟩,
 ⟨some 118, .bin .eql (.t 117) (.k (.int .i64 1)), none⟩,
 ⟨some 119, .mov (.t 118), none⟩,
 ⟨some 120, .fieldAddr 3 1 false (.t 11), some (119, false)⟩,
 ⟨some 121, .load 1 false (.t 120), some (119, false)⟩,
 ⟨some 122, .mov (.t 9), some (119, false)⟩,
 ⟨some 123, .bin .neq (.t 121) (.t 122), some (119, false)⟩,
 ⟨some 124, .pick (.t 119) (.k (.bool true)) (.t 123), none⟩,
 ⟨some 13, .mov (.t 124), none⟩])
 (.seq (.reg [⟨some 14, .mov (.k (.int .i64 0)), none⟩])
 (.block 9 (.loop a22_2))))
 (.seq (.reg [⟨some 157, .bin .eql (.t 110) (.k (.int .i64 3)), none⟩,
 ⟨some 156, .mov (.t 157), none⟩])
 (.cond (.t 156) (.reg [⟨some 158, .mov (.t 12), none⟩,
 ⟨some 159, .un .not (.t 158), none⟩,
 ⟨some 160, .mov (.t 159), none⟩,
 ⟨some 161, .fieldAddr 1 1 false (.t 11), some (160, false)⟩,
 ⟨some 162, .load 1 false (.t 161), some (160, false)⟩,
 ⟨some 163, .bin .neq (.t 162) (.k (.int .i64 3)), some (160, false)⟩,
 ⟨some 164, .pick (.t 160) (.k (.bool true)) (.t 163), none⟩,
 ⟨some 13, .mov (.t 164), none⟩])
 (.seq (.reg [⟨some 166, .bin .eql (.t 110) (.k (.int .i64 5)), none⟩,
 ⟨some 165, .mov (.t 166), none⟩])
 (.cond (.t 165) (.reg [⟨some 167, .mov (.t 12), none⟩,
 ⟨some 168, .un .not (.t 167), none⟩,
 ⟨some 169, .mov (.t 168), none⟩,
 ⟨some 170, .fieldAddr 1 1 false (.t 11), some (169, false)⟩,
 ⟨some 171, .load 1 false (.t 170), some (169, false)⟩,
 ⟨some 172, .bin .neq (.t 171) (.k (.int .i64 4)), some (169, false)⟩,
 ⟨some 173, .pick (.t 169) (.k (.bool true)) (.t 172), none⟩,
 ⟨some 13, .mov (.t 173), none⟩])
 (.seq (.reg [⟨some 175, .bin .eql (.t 110) (.k (.int .i64 7)), none⟩,
 ⟨some 174, .mov (.t 175), none⟩])
 (.cond (.t 174) (.reg [⟨some 176, .load 7 true (.t 6), none⟩,
 ⟨some 177, .fieldAddr 1 1 false (.t 10), none⟩,
 ⟨some 178, .load 1 false (.t 177), none⟩,
 ⟨some 179, .fieldAddr 6 1 false (.t 10), none⟩,
 ⟨some 180, .load 1 false (.t 179), none⟩,
 ⟨some 181, .call (.k (.func (.func 54) [] [])) [(.t 176), (.t 178), (.t 180)], none⟩,
 ⟨some 182, .un .not (.t 181), none⟩,
 ⟨some 183, .mov (.t 182), none⟩,
 ⟨some 184, .load 7 true (.t 6), some (183, false)⟩,
 ⟨some 185, .fieldAddr 1 1 false (.t 10), some (183, false)⟩,
 ⟨some 186, .load 1 false (.t 185), some (183, false)⟩,
 ⟨some 187, .fieldAddr 7 1 false (.t 10), some (183, false)⟩,
 ⟨some 188, .load 1 false (.t 187), some (183, false)⟩,
 ⟨some 189, .call (.k (.func (.func 54) [] [])) [(.t 184), (.t 186), (.t 188)], some (183, false)⟩,
 ⟨some 190, .un .not (.t 189), some (183, false)⟩,
 ⟨some 191, .pick (.t 183) (.k (.bool true)) (.t 190), none⟩,
 ⟨some 13, .mov (.t 191), none⟩])
 (.seq (.reg [⟨some 193, .bin .eql (.t 110) (.k (.int .i64 8)), none⟩,
 ⟨some 192, .mov (.t 193), none⟩])
 (.cond (.t 192) (.reg [⟨some 194, .mov (.t 12), none⟩,
 ⟨some 195, .un .not (.t 194), none⟩,
 ⟨some 196, .mov (.t 195), none⟩,
 ⟨some 197, .fieldAddr 1 1 false (.t 11), some (196, false)⟩,
 ⟨some 198, .load 1 false (.t 197), some (196, false)⟩,
 ⟨some 199, .bin .eql (.t 198) (.k (.int .i64 1)), some (196, false)⟩,
 ⟨some 200, .pick (.t 196) (.k (.bool true)) (.t 199), none⟩,
 ⟨some 201, .mov (.t 200), none⟩,
 ⟨some 202, .fieldAddr 1 1 false (.t 11), some (201, false)⟩,
 ⟨some 203, .load 1 false (.t 202), some (201, false)⟩,
 ⟨some 204, .bin .eql (.t 203) (.k (.int .i64 5)), some (201, false)⟩,
 ⟨some 205, .pick (.t 201) (.k (.bool true)) (.t 204), none⟩,
 ⟨some 13, .mov (.t 205), none⟩])
 .skip))))))))))))
 (.seq (.reg [⟨some 206, .mov (.t 13), none⟩])
 (.cond (.t 206) (.reg [⟨some 207, .mov (.t 3), none⟩,
 ⟨some 208, .fieldAddr 8 1 false (.t 10), none⟩,
 ⟨some 209, .load 1 false (.t 208), none⟩,
 ⟨some 210, .build [(.int .i64 0), (.int .i64 0)] [(0, 1, (.k (.int .i64 4))), (1, 1, (.t 209))], none⟩,
 ⟨some 211, .call (.k (.func (.func 15) [] [])) [(.t 207), (.t 210)], none⟩,
 ⟨some 3, .mov (.t 211), none⟩])
 .skip)))))))
 (.reg [⟨some 95, .mov (.t 9), none⟩,
 ⟨some 96, .bin .add (.t 95) (.k (.int .i64 1)), none⟩,
 ⟨some 9, .mov (.t 96), none⟩])))

def a22_4 : ACode := (.seq (.seq (.reg [⟨some 67, .mov (.t 8), none⟩,
 ⟨some 68, .mov (.t 7), none⟩,
 ⟨some 69, .bin .lss (.t 67) (.t 68), none⟩])
 (.cond (.t 69) .skip
 (.exit 4)))
 (.seq (.block 5 (.seq (.plan [⟨0, ⟨some 72, .fieldAddr 2 1 false (.t 6), none⟩, []⟩,
 ⟨1, ⟨some 73, .load 1 false (.t 72), none⟩, []⟩,
 ⟨2, ⟨some 74, .mov (.t 7), none⟩, []⟩,
 ⟨3, ⟨some 75, .indexAddr 2 true none (.t 73) (.t 74), none⟩, []⟩,
 ⟨4, ⟨some 76, .fieldAddr 0 1 false (.t 75), none⟩, []⟩,
 ⟨5, ⟨some 77, .load 1 false (.t 76), none⟩, []⟩,
 ⟨6, ⟨some 78, .fieldAddr 2 1 false (.t 6), none⟩, []⟩,
 ⟨7, ⟨some 79, .load 1 false (.t 78), none⟩, []⟩,
 ⟨8, ⟨some 80, .mov (.t 8), none⟩, []⟩,
 ⟨9, ⟨some 81, .indexAddr 2 true none (.t 79) (.t 80), none⟩, []⟩,
 ⟨10, ⟨some 82, .fieldAddr 0 1 false (.t 81), none⟩, []⟩,
 ⟨11, ⟨some 83, .load 1 false (.t 82), none⟩, []⟩,
 ⟨12, ⟨some 84, .bin .eql (.t 77) (.t 83), none⟩, []⟩])
 (.cond (.t 84) (.reg [⟨some 85, .mov (.t 3), none⟩,
 ⟨some 86, .fieldAddr 6 1 false (.t 6), none⟩,
 ⟨some 87, .load 1 false (.t 86), none⟩,
 ⟨some 88, .build [(.int .i64 0), (.int .i64 0)] [(0, 1, (.k (.int .i64 4))), (1, 1, (.t 87))], none⟩,
 ⟨some 89, .call (.k (.func (.func 15) [] [])) [(.t 85), (.t 88)], none⟩,
 ⟨some 3, .mov (.t 89), none⟩])
 .skip)))
 (.reg [⟨some 70, .mov (.t 8), none⟩,
 ⟨some 71, .bin .add (.t 70) (.k (.int .i64 1)), none⟩,
 ⟨some 8, .mov (.t 71), none⟩])))

def a22_5 : ACode := (.seq (.seq (.reg [⟨some 60, .mov (.t 7), none⟩,
 ⟨some 61, .fieldAddr 2 1 false (.t 6), none⟩,
 ⟨some 62, .load 1 false (.t 61), none⟩,
 ⟨some 63, .lenSl (.t 62), none⟩,
 ⟨some 64, .bin .lss (.t 60) (.t 63), none⟩])
 (.cond (.t 64) .skip
 (.exit 2)))
 (.seq (.block 3 (.seq (.reg [⟨some 8, .mov (.k (.int .i64 0)), none⟩])
 (.block 4 (.loop a22_4))))
 (.reg [⟨some 65, .mov (.t 7), none⟩,
 ⟨some 66, .bin .add (.t 65) (.k (.int .i64 1)), none⟩,
 ⟨some 7, .mov (.t 66), none⟩])))

def a22_6 : ACode := (.seq (.seq (.reg [⟨some 23, .mov (.t 5), none⟩,
 ⟨some 24, .fieldAddr 0 1 false (.t 1), none⟩,
 ⟨some 25, .load 1 false (.t 24), none⟩,
 ⟨some 26, .lenSl (.t 25), none⟩,
 ⟨some 27, .bin .lss (.t 23) (.t 26), none⟩])
 (.cond (.t 27) .skip
 (.exit 0)))
 (.seq (.block 1 (.seq (.reg [⟨some 30, .fieldAddr 0 1 false (.t 1), none⟩,
 ⟨some 31, .load 1 false (.t 30), none⟩,
 ⟨some 32, .mov (.t 5), none⟩,
 ⟨some 33, .indexAddr 7 true none (.t 31) (.t 32), none⟩,
 ⟨some 34, .load 7 true (.t 33), none⟩,
 ⟨some 6, .new (.agg [(.int .i64 0), (.str []), (.lst 2 [] .tight), (.lst 9 [] .tight), (.int .i64 0), (.int .i64 0), (.int .i64 0)]) true none, none⟩,
 ⟨none, .store 7 (.t 6) (.t 34), none⟩])
 (.seq (.seq (.reg [⟨some 35, .fieldAddr 0 1 false (.t 6), none⟩,
 ⟨some 36, .load 1 false (.t 35), none⟩,
 ⟨some 37, .bin .eql (.t 36) (.k (.int .i64 3)), none⟩])
 (.cond (.t 37) (.reg [⟨some 38, .mov (.t 4), none⟩,
 ⟨some 39, .bin .add (.t 38) (.k (.int .i64 1)), none⟩,
 ⟨some 4, .mov (.t 39), none⟩])
 .skip))
 (.seq (.seq (.reg [⟨some 40, .fieldAddr 0 1 false (.t 6), none⟩,
 ⟨some 41, .load 1 false (.t 40), none⟩,
 ⟨some 42, .bin .eql (.t 41) (.k (.int .i64 3)), none⟩,
 ⟨some 43, .mov (.t 42), none⟩,
 ⟨some 44, .mov (.t 4), some (43, true)⟩,
 ⟨some 45, .bin .gtr (.t 44) (.k (.int .i64 1)), some (43, true)⟩,
 ⟨some 46, .pick (.t 43) (.t 45) (.k (.bool false)), none⟩,
 ⟨some 47, .mov (.t 46), none⟩,
 ⟨some 48, .load 2 true (.t 1), some (47, false)⟩,
 ⟨some 49, .fieldAddr 1 1 false (.t 6), some (47, false)⟩,
 ⟨some 50, .load 1 false (.t 49), some (47, false)⟩,
 ⟨some 51, .call (.k (.func (.func 29) [] [])) [(.t 48), (.t 50)], some (47, false)⟩,
 ⟨some 52, .mov (.t 5), some (47, false)⟩,
 ⟨some 53, .bin .neq (.t 51) (.t 52), some (47, false)⟩,
 ⟨some 54, .pick (.t 47) (.k (.bool true)) (.t 53), none⟩])
 (.cond (.t 54) (.reg [⟨some 55, .mov (.t 3), none⟩,
 ⟨some 56, .fieldAddr 6 1 false (.t 6), none⟩,
 ⟨some 57, .load 1 false (.t 56), none⟩,
 ⟨some 58, .build [(.int .i64 0), (.int .i64 0)] [(0, 1, (.k (.int .i64 4))), (1, 1, (.t 57))], none⟩,
 ⟨some 59, .call (.k (.func (.func 15) [] [])) [(.t 55), (.t 58)], none⟩,
 ⟨some 3, .mov (.t 59), none⟩])
 .skip))
 (.seq (.seq (.reg [⟨some 7, .mov (.k (.int .i64 0)), none⟩])
 (.block 2 (.loop a22_5)))
 (.seq (.seq (.reg [⟨some 9, .mov (.k (.int .i64 0)), none⟩])
 (.block 6 (.loop a22_3)))
 (.seq (.reg [⟨some 212, .load 2 true (.t 1), none⟩,
 ⟨some 213, .load 7 true (.t 6), none⟩,
 ⟨some 214, .call (.k (.func (.func 39) [] [])) [(.t 212), (.t 213)], none⟩,
 ⟨some 16, .mov (.t 214), none⟩])
 (.seq (.reg [⟨some 17, .mov (.k (.int .i64 0)), none⟩])
 (.block 13 (.loop a22_0))))))))))
 (.reg [⟨some 28, .mov (.t 5), none⟩,
 ⟨some 29, .bin .add (.t 28) (.k (.int .i64 1)), none⟩,
 ⟨some 5, .mov (.t 29), none⟩])))

def a22 : AFunc := ⟨301, [.tmp 2],
 (.seq (.reg [⟨some 1, .box 2 (.t 0) false, none⟩,
 ⟨some 2, .mov (.k (.lst 2 [] .tight)), none⟩])
 (.seq (.reg [⟨some 3, .mov (.k (.lst 2 [] .tight)), none⟩])
 (.seq (.reg [⟨some 4, .mov (.k (.int .i64 0)), none⟩])
 (.seq (.seq (.reg [⟨some 5, .mov (.k (.int .i64 0)), none⟩])
 (.block 0 (.loop a22_6)))
 (.seq (.seq (.reg [⟨some 295, .mov (.t 4), none⟩,
 ⟨some 296, .bin .eql (.t 295) (.k (.int .i64 0)), none⟩])
 (.cond (.t 296) (.reg [⟨some 297, .mov (.t 3), none⟩,
 ⟨some 298, .build [(.int .i64 0), (.int .i64 0)] [(0, 1, (.k (.int .i64 4)))], none⟩,
 ⟨some 299, .call (.k (.func (.func 15) [] [])) [(.t 297), (.t 298)], none⟩,
 ⟨some 3, .mov (.t 299), none⟩])
 .skip))
 (.seq (.reg [⟨some 300, .mov (.t 3), none⟩,
 ⟨some 2, .mov (.t 300), none⟩])
 .ret)))))),
 [], false⟩

def a23 : AFunc := ⟨11, [.tmp 2],
 (.seq (.reg [⟨some 1, .box 2 (.t 0) false, none⟩,
 ⟨some 2, .mov (.k (.bool false)), none⟩])
 (.seq (.reg [⟨some 3, .load 2 true (.t 1), none⟩,
 ⟨some 4, .call (.k (.func (.func 19) [] [])) [(.t 3)], none⟩,
 ⟨some 5, .mov (.t 4), none⟩,
 ⟨some 6, .load 2 true (.t 1), some (5, true)⟩,
 ⟨some 7, .call (.k (.func (.func 22) [] [])) [(.t 6)], some (5, true)⟩,
 ⟨some 8, .lenSl (.t 7), some (5, true)⟩,
 ⟨some 9, .bin .eql (.t 8) (.k (.int .i64 0)), some (5, true)⟩,
 ⟨some 10, .pick (.t 5) (.t 9) (.k (.bool false)), none⟩,
 ⟨some 2, .mov (.t 10), none⟩])
 .ret)),
 [], false⟩

def a24_0 : ACode := (.seq (.seq (.plan [⟨0, ⟨some 28, .mov (.t 9), none⟩, []⟩,
 ⟨1, ⟨some 29, .nilCheck (.t 28), none⟩, []⟩,
 ⟨2, ⟨some 30, .fieldAddr 5 2 true (.t 29), none⟩, []⟩,
 ⟨3, ⟨some 31, .fieldAddr 0 1 false (.t 30), none⟩, []⟩,
 ⟨4, ⟨some 32, .load 1 false (.t 31), none⟩, []⟩,
 ⟨5, ⟨some 33, .bin .eql (.t 32) (.k (.int .i64 0)), none⟩, []⟩,
 ⟨6, ⟨some 34, .mov (.t 33), none⟩, []⟩,
 ⟨7, ⟨some 35, .mov (.t 9), some (34, true)⟩, []⟩,
 ⟨8, ⟨some 36, .nilCheck (.t 35), some (34, true)⟩, []⟩,
 ⟨9, ⟨some 37, .fieldAddr 0 1 false (.t 36), some (34, true)⟩, []⟩,
 ⟨10, ⟨some 38, .load 1 false (.t 37), some (34, true)⟩, []⟩,
 ⟨11, ⟨some 39, .mov (.t 9), some (34, true)⟩, []⟩,
 ⟨12, ⟨some 40, .nilCheck (.t 39), some (34, true)⟩, []⟩,
 ⟨13, ⟨some 41, .fieldAddr 1 1 false (.t 40), some (34, true)⟩, []⟩,
 ⟨14, ⟨some 42, .load 1 false (.t 41), some (34, true)⟩, []⟩,
 ⟨15, ⟨some 43, .indexAddr 4 true none (.t 38) (.t 42), some (34, true)⟩, []⟩,
 ⟨16, ⟨some 44, .fieldAddr 0 1 false (.t 43), some (34, true)⟩, []⟩,
 ⟨17, ⟨some 45, .load 1 false (.t 44), some (34, true)⟩, []⟩,
 ⟨18, ⟨some 46, .bin .neq (.t 45) (.k (.int .i64 5)), some (34, true)⟩, []⟩,
 ⟨19, ⟨some 47, .pick (.t 34) (.t 46) (.k (.bool false)), none⟩, []⟩])
 (.cond (.t 47) .skip
 (.exit 0)))
 (.block 1 (.seq (.reg [⟨some 48, .mov (.t 9), none⟩,
 ⟨some 49, .call (.k (.func (.func 57) [] [])) [(.t 48)], none⟩,
 ⟨some 11, .new (.agg [(.int .i64 0), (.str []), (.lst 2 [] .tight), (.lst 9 [] .tight), (.int .i64 0), (.int .i64 0), (.int .i64 0)]) true none, none⟩,
 ⟨none, .store 7 (.t 11) (.t 49), none⟩])
 (.plan [⟨0, ⟨some 50, .mov (.t 9), none⟩, []⟩,
 ⟨1, ⟨some 51, .mov (.t 9), none⟩, []⟩,
 ⟨2, ⟨some 52, .nilCheck (.t 51), none⟩, []⟩,
 ⟨3, ⟨some 53, .fieldAddr 2 2 true (.t 52), none⟩, []⟩,
 ⟨4, ⟨some 54, .fieldAddr 0 1 false (.t 53), none⟩, []⟩,
 ⟨5, ⟨some 55, .load 1 false (.t 54), none⟩, []⟩,
 ⟨6, ⟨some 56, .load 7 true (.t 11), none⟩, []⟩,
 ⟨7, ⟨some 57, .mkLit 7 [(.int .i64 0), (.str []), (.lst 2 [] .tight), (.lst 9 [] .tight), (.int .i64 0), (.int .i64 0), (.int .i64 0)] [(0, 7, (.t 56))] false, none⟩, []⟩,
 ⟨8, ⟨some 58, .append 7 96 (some 42) (.t 55) (.t 57), none⟩, []⟩,
 ⟨9, ⟨some 59, .nilCheck (.t 50), none⟩, []⟩,
 ⟨10, ⟨some 60, .fieldAddr 2 2 true (.t 59), none⟩, []⟩,
 ⟨11, ⟨some 61, .fieldAddr 0 1 false (.t 60), none⟩, []⟩,
 ⟨12, ⟨none, .store 1 (.t 61) (.t 58), none⟩, []⟩]))))

def a24 : AFunc := ⟨101, [.cell 4 2 true, .tmp 5, .cell 6 2 true],
 (.seq (.reg [⟨some 4, .new (.agg [(.lst 7 [] .tight), (.lst 9 [] .tight)]) true none, none⟩,
 ⟨some 5, .mov (.k (.int .i64 0)), none⟩,
 ⟨some 6, .new (.agg [(.int .i64 0), (.int .i64 0)]) true none, none⟩])
 (.seq (.reg [⟨some 13, .mov (.t 0), none⟩,
 ⟨some 14, .call (.k (.func (.func 55) [] [])) [(.t 13)], none⟩,
 ⟨some 12, .mov (.t 14), none⟩,
 ⟨some 15, .extract (.t 12) 0, none⟩,
 ⟨some 16, .extract (.t 12) 1, none⟩,
 ⟨some 8, .new (.agg [(.int .i64 0), (.int .i64 0)]) true none, none⟩,
 ⟨some 7, .mov (.t 15), none⟩,
 ⟨none, .store 2 (.t 8) (.t 16), none⟩])
 (.seq (.seq (.reg [⟨some 17, .fieldAddr 0 1 false (.t 8), none⟩,
 ⟨some 18, .load 1 false (.t 17), none⟩,
 ⟨some 19, .bin .neq (.t 18) (.k (.int .i64 0)), none⟩])
 (.cond (.t 19) (.seq (.plan [⟨0, ⟨some 20, .build [(.lst 7 [] .tight), (.lst 9 [] .tight)] [], none⟩, []⟩,
 ⟨1, ⟨some 21, .load 2 true (.t 8), none⟩, []⟩,
 ⟨2, ⟨none, .store 2 (.t 4) (.t 20), none⟩, [1]⟩,
 ⟨3, ⟨some 5, .mov (.k (.int .i64 0)), none⟩, []⟩,
 ⟨4, ⟨none, .store 2 (.t 6) (.t 21), none⟩, []⟩])
 .ret)
 .skip))
 (.seq (.reg [⟨some 22, .mov (.t 7), none⟩,
 ⟨some 23, .build [(.lst 4 [] .tight), (.int .i64 0), (.lst 7 [] .tight), (.lst 9 [] .tight), (.int .i64 0), (.int .i64 0), (.int .i64 0)] [(0, 1, (.t 22))], none⟩,
 ⟨some 24, .box 7 (.t 23) true, none⟩,
 ⟨some 9, .mov (.t 24), none⟩])
 (.seq (.reg [⟨some 10, .mov (.k (.int .i64 0)), none⟩])
 (.seq (.seq (.reg [⟨some 25, .mov (.t 1), none⟩])
 (.cond (.t 25) (.reg [⟨some 26, .mov (.t 9), none⟩,
 ⟨some 27, .call (.k (.func (.func 56) [] [])) [(.t 26)], none⟩,
 ⟨some 10, .mov (.t 27), none⟩])
 (.block 0 (.loop a24_0))))
 (.seq (.seq (.plan [⟨0, ⟨some 62, .mov (.t 9), none⟩, []⟩,
 ⟨1, ⟨some 63, .nilCheck (.t 62), none⟩, []⟩,
 ⟨2, ⟨some 64, .fieldAddr 5 2 true (.t 63), none⟩, []⟩,
 ⟨3, ⟨some 65, .fieldAddr 0 1 false (.t 64), none⟩, []⟩,
 ⟨4, ⟨some 66, .load 1 false (.t 65), none⟩, []⟩,
 ⟨5, ⟨some 67, .bin .eql (.t 66) (.k (.int .i64 0)), none⟩, []⟩,
 ⟨6, ⟨some 68, .mov (.t 67), none⟩, []⟩,
 ⟨7, ⟨some 69, .mov (.t 9), some (68, true)⟩, []⟩,
 ⟨8, ⟨some 70, .nilCheck (.t 69), some (68, true)⟩, []⟩,
 ⟨9, ⟨some 71, .fieldAddr 0 1 false (.t 70), some (68, true)⟩, []⟩,
 ⟨10, ⟨some 72, .load 1 false (.t 71), some (68, true)⟩, []⟩,
 ⟨11, ⟨some 73, .mov (.t 9), some (68, true)⟩, []⟩,
 ⟨12, ⟨some 74, .nilCheck (.t 73), some (68, true)⟩, []⟩,
 ⟨13, ⟨some 75, .fieldAddr 1 1 false (.t 74), some (68, true)⟩, []⟩,
 ⟨14, ⟨some 76, .load 1 false (.t 75), some (68, true)⟩, []⟩,
 ⟨15, ⟨some 77, .indexAddr 4 true none (.t 72) (.t 76), some (68, true)⟩, []⟩,
 ⟨16, ⟨some 78, .fieldAddr 0 1 false (.t 77), some (68, true)⟩, []⟩,
 ⟨17, ⟨some 79, .load 1 false (.t 78), some (68, true)⟩, []⟩,
 ⟨18, ⟨some 80, .bin .neq (.t 79) (.k (.int .i64 5)), some (68, true)⟩, []⟩,
 ⟨19, ⟨some 81, .pick (.t 68) (.t 80) (.k (.bool false)), none⟩, []⟩])
 (.cond (.t 81) (.reg [⟨some 82, .mov (.t 9), none⟩,
 ⟨some 83, .call (.k (.func (.func 58) [] [])) [(.t 82), (.k (.int .i64 2))], none⟩])
 .skip))
 (.seq (.seq (.reg [⟨some 84, .mov (.t 9), none⟩,
 ⟨some 85, .nilCheck (.t 84), none⟩,
 ⟨some 86, .fieldAddr 5 2 true (.t 85), none⟩,
 ⟨some 87, .fieldAddr 0 1 false (.t 86), none⟩,
 ⟨some 88, .load 1 false (.t 87), none⟩,
 ⟨some 89, .bin .neq (.t 88) (.k (.int .i64 0)), none⟩])
 (.cond (.t 89) (.seq (.plan [⟨0, ⟨some 90, .build [(.lst 7 [] .tight), (.lst 9 [] .tight)] [], none⟩, []⟩,
 ⟨1, ⟨some 91, .mov (.t 9), none⟩, []⟩,
 ⟨2, ⟨some 92, .nilCheck (.t 91), none⟩, []⟩,
 ⟨3, ⟨some 93, .fieldAddr 5 2 true (.t 92), none⟩, []⟩,
 ⟨4, ⟨some 94, .load 2 true (.t 93), none⟩, []⟩,
 ⟨5, ⟨none, .store 2 (.t 4) (.t 90), none⟩, [4]⟩,
 ⟨6, ⟨some 5, .mov (.k (.int .i64 0)), none⟩, []⟩,
 ⟨7, ⟨none, .store 2 (.t 6) (.t 94), none⟩, []⟩])
 .ret)
 .skip))
 (.seq (.reg [⟨some 95, .mov (.t 9), none⟩,
 ⟨some 96, .nilCheck (.t 95), none⟩,
 ⟨some 97, .fieldAddr 2 2 true (.t 96), none⟩,
 ⟨some 98, .load 2 true (.t 97), none⟩,
 ⟨some 99, .mov (.t 10), none⟩,
 ⟨some 100, .build [(.int .i64 0), (.int .i64 0)] [], none⟩,
 ⟨none, .store 2 (.t 4) (.t 98), none⟩,
 ⟨some 5, .mov (.t 99), none⟩,
 ⟨none, .store 2 (.t 6) (.t 100), none⟩])
 .ret))))))))),
 [], false⟩

def a25 : AFunc := ⟨15, [.tmp 4],
 (.seq (.reg [⟨some 2, .box 2 (.t 0) false, none⟩,
 ⟨some 4, .mov (.k (.lst 4 [] .tight)), none⟩])
 (.seq (.seq (.reg [⟨some 5, .load 2 true (.t 2), none⟩,
 ⟨some 6, .mov (.t 1), none⟩,
 ⟨some 7, .call (.k (.func (.func 59) [] [])) [(.t 5), (.t 6)], none⟩,
 ⟨some 8, .un .not (.t 7), none⟩])
 (.cond (.t 8) (.seq (.reg [⟨some 4, .mov (.k (.lst 4 [] .tight)), none⟩])
 .ret)
 .skip))
 (.seq (.reg [⟨some 9, .fieldAddr 0 1 false (.t 2), none⟩,
 ⟨some 10, .load 1 false (.t 9), none⟩,
 ⟨some 11, .mov (.t 1), none⟩,
 ⟨some 12, .indexAddr 7 true none (.t 10) (.t 11), none⟩,
 ⟨some 13, .load 7 true (.t 12), none⟩,
 ⟨some 14, .call (.k (.func (.func 60) [] [])) [(.t 13)], none⟩,
 ⟨some 4, .mov (.t 14), none⟩])
 .ret))),
 [], false⟩

def a26 : AFunc := ⟨28, [.cell 6 4 true, .tmp 7],
 (.seq (.reg [⟨some 3, .box 2 (.t 0) false, none⟩,
 ⟨some 6, .new (.agg [(.str []), (.int .i64 0), (.int .i64 0), (.int .i64 0)]) true none, none⟩,
 ⟨some 7, .mov (.k (.bool false)), none⟩])
 (.seq (.seq (.reg [⟨some 10, .load 2 true (.t 3), none⟩,
 ⟨some 11, .mov (.t 1), none⟩,
 ⟨some 12, .call (.k (.func (.func 59) [] [])) [(.t 10), (.t 11)], none⟩,
 ⟨some 13, .un .not (.t 12), none⟩])
 (.cond (.t 13) (.seq (.reg [⟨some 14, .build [(.str []), (.int .i64 0), (.int .i64 0), (.int .i64 0)] [], none⟩,
 ⟨none, .store 4 (.t 6) (.t 14), none⟩,
 ⟨some 7, .mov (.k (.bool false)), none⟩])
 .ret)
 .skip))
 (.seq (.reg [⟨some 16, .fieldAddr 0 1 false (.t 3), none⟩,
 ⟨some 17, .load 1 false (.t 16), none⟩,
 ⟨some 18, .mov (.t 1), none⟩,
 ⟨some 19, .indexAddr 7 true none (.t 17) (.t 18), none⟩,
 ⟨some 20, .load 7 true (.t 19), none⟩,
 ⟨some 21, .call (.k (.func (.func 61) [] [])) [(.t 20)], none⟩,
 ⟨some 22, .mov (.t 2), none⟩,
 ⟨some 23, .lookup 1 (.agg [(.str []), (.int .i64 0), (.int .i64 0), (.int .i64 0)]) true (.t 21) (.t 22), none⟩,
 ⟨some 15, .mov (.t 23), none⟩,
 ⟨some 24, .extract (.t 15) 0, none⟩,
 ⟨some 25, .extract (.t 15) 1, none⟩,
 ⟨some 8, .new (.agg [(.str []), (.int .i64 0), (.int .i64 0), (.int .i64 0)]) true none, none⟩,
 ⟨none, .store 4 (.t 8) (.t 24), none⟩,
 ⟨some 9, .mov (.t 25), none⟩])
 (.seq (.reg [⟨some 26, .load 4 true (.t 8), none⟩,
 ⟨some 27, .mov (.t 9), none⟩,
 ⟨none, .store 4 (.t 6) (.t 26), none⟩,
 ⟨some 7, .mov (.t 27), none⟩])
 .ret)))),
 [], false⟩

def a27 : AFunc := ⟨15, [.tmp 4],
 (.seq (.reg [⟨some 2, .box 2 (.t 0) false, none⟩,
 ⟨some 4, .mov (.k (.lst 1 [] .tight)), none⟩])
 (.seq (.seq (.reg [⟨some 5, .load 2 true (.t 2), none⟩,
 ⟨some 6, .mov (.t 1), none⟩,
 ⟨some 7, .call (.k (.func (.func 59) [] [])) [(.t 5), (.t 6)], none⟩,
 ⟨some 8, .un .not (.t 7), none⟩])
 (.cond (.t 8) (.seq (.reg [⟨some 4, .mov (.k (.lst 1 [] .tight)), none⟩])
 .ret)
 .skip))
 (.seq (.reg [⟨some 9, .fieldAddr 0 1 false (.t 2), none⟩,
 ⟨some 10, .load 1 false (.t 9), none⟩,
 ⟨some 11, .mov (.t 1), none⟩,
 ⟨some 12, .indexAddr 7 true none (.t 10) (.t 11), none⟩,
 ⟨some 13, .load 7 true (.t 12), none⟩,
 ⟨some 14, .call (.k (.func (.func 62) [] [])) [(.t 13)], none⟩,
 ⟨some 4, .mov (.t 14), none⟩])
 .ret))),
 [], false⟩

def a28 : AFunc := ⟨11, [.tmp 4],
 (.seq (.reg [⟨some 2, .box 2 (.t 0) false, none⟩,
 ⟨some 4, .mov (.k (.int .i64 0)), none⟩])
 (.seq (.seq (.reg [⟨some 5, .load 2 true (.t 2), none⟩,
 ⟨some 6, .call (.k (.func (.func 52) [] [])) [(.t 5)], none⟩,
 ⟨some 7, .un .not (.t 6), none⟩])
 (.cond (.t 7) (.seq (.reg [⟨some 4, .mov (.k (.int .i64 (-1))), none⟩])
 .ret)
 .skip))
 (.seq (.reg [⟨some 8, .load 2 true (.t 2), none⟩,
 ⟨some 9, .mov (.t 1), none⟩,
 ⟨some 10, .call (.k (.func (.func 63) [] [])) [(.t 8), (.t 9)], none⟩,
 ⟨some 4, .mov (.t 10), none⟩])
 .ret))),
 [], false⟩

def a29_0 : ACode := (.seq (.seq (.reg [⟨some 6, .mov (.t 5), none⟩,
 ⟨some 7, .fieldAddr 0 1 false (.t 2), none⟩,
 ⟨some 8, .load 1 false (.t 7), none⟩,
 ⟨some 9, .lenSl (.t 8), none⟩,
 ⟨some 10, .bin .lss (.t 6) (.t 9), none⟩])
 (.cond (.t 10) .skip
 (.exit 0)))
 (.seq (.block 1 (.seq (.reg [⟨some 13, .fieldAddr 0 1 false (.t 2), none⟩,
 ⟨some 14, .load 1 false (.t 13), none⟩,
 ⟨some 15, .mov (.t 5), none⟩,
 ⟨some 16, .indexAddr 7 true none (.t 14) (.t 15), none⟩,
 ⟨some 17, .fieldAddr 1 1 false (.t 16), none⟩,
 ⟨some 18, .load 1 false (.t 17), none⟩,
 ⟨some 19, .mov (.t 1), none⟩,
 ⟨some 20, .bin .eql (.t 18) (.t 19), none⟩])
 (.cond (.t 20) (.seq (.reg [⟨some 21, .mov (.t 5), none⟩,
 ⟨some 4, .mov (.t 21), none⟩])
 .ret)
 .skip)))
 (.reg [⟨some 11, .mov (.t 5), none⟩,
 ⟨some 12, .bin .add (.t 11) (.k (.int .i64 1)), none⟩,
 ⟨some 5, .mov (.t 12), none⟩])))

def a29 : AFunc := ⟨22, [.tmp 4],
 (.seq (.reg [⟨some 2, .box 2 (.t 0) false, none⟩,
 ⟨some 4, .mov (.k (.int .i64 0)), none⟩])
 (.seq (.seq (.reg [⟨some 5, .mov (.k (.int .i64 0)), none⟩])
 (.block 0 (.loop a29_0)))
 (.seq (.reg [⟨some 4, .mov (.k (.int .i64 (-1))), none⟩])
 .ret))),
 [], false⟩

def a30_0 : ACode := (.seq (.seq (.reg [⟨some 31, .mov (.t 5), none⟩,
 ⟨some 32, .fieldAddr 3 1 false (.t 1), none⟩,
 ⟨some 33, .load 1 false (.t 32), none⟩,
 ⟨some 34, .lenSl (.t 33), none⟩,
 ⟨some 35, .bin .lss (.t 31) (.t 34), none⟩])
 (.cond (.t 35) .skip
 (.exit 2)))
 (.seq (.block 3 (.seq (.reg [⟨some 38, .fieldAddr 3 1 false (.t 1), none⟩,
 ⟨some 39, .load 1 false (.t 38), none⟩,
 ⟨some 40, .mov (.t 5), none⟩,
 ⟨some 41, .indexAddr 9 true none (.t 39) (.t 40), none⟩,
 ⟨some 42, .load 9 true (.t 41), none⟩,
 ⟨some 6, .new (.agg [(.int .i64 0), (.str []), (.int .i64 0), (.int .i64 0), (.int .i64 0), (.lst 1 [] .tight), (.str []), (.str []), (.int .i64 0)]) true none, none⟩,
 ⟨none, .store 9 (.t 6) (.t 42), none⟩])
 (.seq (.reg [⟨some 43, .fieldAddr 0 1 false (.t 6), none⟩,
 ⟨some 44, .load 1 false (.t 43), none⟩])
 (.block 4 (.seq (.reg [⟨some 46, .bin .eql (.t 44) (.k (.int .i64 1)), none⟩,
 ⟨some 45, .mov (.t 46), none⟩])
 (.cond (.t 45) (.reg [⟨some 47, .mov (.t 3), none⟩,
 ⟨some 48, .fieldAddr 1 1 false (.t 6), none⟩,
 ⟨some 49, .load 1 false (.t 48), none⟩,
 ⟨some 50, .fieldAddr 2 1 false (.t 6), none⟩,
 ⟨some 51, .load 1 false (.t 50), none⟩,
 ⟨some 52, .mov (.t 5), none⟩,
 ⟨some 53, .build [(.str []), (.int .i64 0), (.int .i64 0), (.int .i64 0)] [(0, 1, (.t 49)), (1, 1, (.k (.int .i64 2))), (2, 1, (.t 51)), (3, 1, (.t 52))], none⟩,
 ⟨some 54, .mkLit 4 [(.str []), (.int .i64 0), (.int .i64 0), (.int .i64 0)] [(0, 4, (.t 53))] false, none⟩,
 ⟨some 55, .append 4 40 (some 47) (.t 47) (.t 54), none⟩,
 ⟨some 3, .mov (.t 55), none⟩])
 (.seq (.reg [⟨some 57, .bin .eql (.t 44) (.k (.int .i64 2)), none⟩,
 ⟨some 56, .mov (.t 57), none⟩])
 (.cond (.t 56) (.reg [⟨some 58, .mov (.t 3), none⟩,
 ⟨some 59, .fieldAddr 1 1 false (.t 6), none⟩,
 ⟨some 60, .load 1 false (.t 59), none⟩,
 ⟨some 61, .mov (.t 5), none⟩,
 ⟨some 62, .build [(.str []), (.int .i64 0), (.int .i64 0), (.int .i64 0)] [(0, 1, (.t 60)), (1, 1, (.k (.int .i64 3))), (2, 1, (.k (.int .i64 1))), (3, 1, (.t 61))], none⟩,
 ⟨some 63, .mkLit 4 [(.str []), (.int .i64 0), (.int .i64 0), (.int .i64 0)] [(0, 4, (.t 62))] false, none⟩,
 ⟨some 64, .append 4 40 (some 47) (.t 58) (.t 63), none⟩,
 ⟨some 3, .mov (.t 64), none⟩])
 (.seq (.reg [⟨some 66, .bin .eql (.t 44) (.k (.int .i64 4)), none⟩,
 ⟨some 65, .mov (.t 66), none⟩])
 (.cond (.t 65) (.reg [⟨some 67, .mov (.t 3), none⟩,
 ⟨some 68, .fieldAddr 1 1 false (.t 6), none⟩,
 ⟨some 69, .load 1 false (.t 68), none⟩,
 ⟨some 70, .fieldAddr 2 1 false (.t 6), none⟩,
 ⟨some 71, .load 1 false (.t 70), none⟩,
 ⟨some 72, .mov (.t 5), none⟩,
 ⟨some 73, .build [(.str []), (.int .i64 0), (.int .i64 0), (.int .i64 0)] [(0, 1, (.t 69)), (1, 1, (.k (.int .i64 4))), (2, 1, (.t 71)), (3, 1, (.t 72))], none⟩,
 ⟨some 74, .mkLit 4 [(.str []), (.int .i64 0), (.int .i64 0), (.int .i64 0)] [(0, 4, (.t 73))] false, none⟩,
 ⟨some 75, .append 4 40 (some 47) (.t 67) (.t 74), none⟩,
 ⟨some 3, .mov (.t 75), none⟩])
 (.seq (.reg [⟨some 77, .bin .eql (.t 44) (.k (.int .i64 6)), none⟩,
 ⟨some 76, .mov (.t 77), none⟩])
 (.cond (.t 76) (.reg [⟨some 78, .mov (.t 3), none⟩,
 ⟨some 79, .fieldAddr 1 1 false (.t 6), none⟩,
 ⟨some 80, .load 1 false (.t 79), none⟩,
 ⟨some 81, .mov (.t 5), none⟩,
 ⟨some 82, .build [(.str []), (.int .i64 0), (.int .i64 0), (.int .i64 0)] [(0, 1, (.t 80)), (1, 1, (.k (.int .i64 5))), (3, 1, (.t 81))], none⟩,
 ⟨some 83, .mkLit 4 [(.str []), (.int .i64 0), (.int .i64 0), (.int .i64 0)] [(0, 4, (.t 82))] false, none⟩,
 ⟨some 84, .append 4 40 (some 47) (.t 78) (.t 83), none⟩,
 ⟨some 3, .mov (.t 84), none⟩])
 .skip))))))))))))
 (.reg [⟨some 36, .mov (.t 5), none⟩,
 ⟨some 37, .bin .add (.t 36) (.k (.int .i64 1)), none⟩,
 ⟨some 5, .mov (.t 37), none⟩])))

def a30_1 : ACode := (.seq (.seq (.reg [⟨some 7, .mov (.t 4), none⟩,
 ⟨some 8, .fieldAddr 2 1 false (.t 1), none⟩,
 ⟨some 9, .load 1 false (.t 8), none⟩,
 ⟨some 10, .lenSl (.t 9), none⟩,
 ⟨some 11, .bin .lss (.t 7) (.t 10), none⟩])
 (.cond (.t 11) .skip
 (.exit 0)))
 (.seq (.block 1 (.plan [⟨0, ⟨some 14, .mov (.t 3), none⟩, []⟩,
 ⟨1, ⟨some 15, .fieldAddr 2 1 false (.t 1), none⟩, []⟩,
 ⟨2, ⟨some 16, .load 1 false (.t 15), none⟩, []⟩,
 ⟨3, ⟨some 17, .mov (.t 4), none⟩, []⟩,
 ⟨4, ⟨some 18, .indexAddr 2 true none (.t 16) (.t 17), none⟩, []⟩,
 ⟨5, ⟨some 19, .fieldAddr 0 1 false (.t 18), none⟩, []⟩,
 ⟨6, ⟨some 20, .load 1 false (.t 19), none⟩, []⟩,
 ⟨7, ⟨some 21, .fieldAddr 2 1 false (.t 1), none⟩, []⟩,
 ⟨8, ⟨some 22, .load 1 false (.t 21), none⟩, []⟩,
 ⟨9, ⟨some 23, .mov (.t 4), none⟩, []⟩,
 ⟨10, ⟨some 24, .indexAddr 2 true none (.t 22) (.t 23), none⟩, []⟩,
 ⟨11, ⟨some 25, .fieldAddr 1 1 false (.t 24), none⟩, []⟩,
 ⟨12, ⟨some 26, .load 1 false (.t 25), none⟩, []⟩,
 ⟨13, ⟨some 27, .mov (.t 4), none⟩, []⟩,
 ⟨14, ⟨some 28, .build [(.str []), (.int .i64 0), (.int .i64 0), (.int .i64 0)] [(0, 1, (.t 20)), (1, 1, (.k (.int .i64 1))), (2, 1, (.t 26)), (3, 1, (.t 27))], none⟩, []⟩,
 ⟨15, ⟨some 29, .mkLit 4 [(.str []), (.int .i64 0), (.int .i64 0), (.int .i64 0)] [(0, 4, (.t 28))] false, none⟩, []⟩,
 ⟨16, ⟨some 30, .append 4 40 (some 47) (.t 14) (.t 29), none⟩, []⟩,
 ⟨17, ⟨some 3, .mov (.t 30), none⟩, []⟩]))
 (.reg [⟨some 12, .mov (.t 4), none⟩,
 ⟨some 13, .bin .add (.t 12) (.k (.int .i64 1)), none⟩,
 ⟨some 4, .mov (.t 13), none⟩])))

def a30 : AFunc := ⟨86, [.tmp 2],
 (.seq (.reg [⟨some 1, .box 7 (.t 0) false, none⟩,
 ⟨some 2, .mov (.k (.lst 4 [] .tight)), none⟩])
 (.seq (.reg [⟨some 3, .mov (.k (.lst 4 [] .tight)), none⟩])
 (.seq (.seq (.reg [⟨some 4, .mov (.k (.int .i64 0)), none⟩])
 (.block 0 (.loop a30_1)))
 (.seq (.seq (.reg [⟨some 5, .mov (.k (.int .i64 0)), none⟩])
 (.block 2 (.loop a30_0)))
 (.seq (.reg [⟨some 85, .mov (.t 3), none⟩,
 ⟨some 2, .mov (.t 85), none⟩])
 .ret))))),
 [], false⟩

def a31_0 : ACode := (.seq (.seq (.reg [⟨some 7, .mov (.t 4), none⟩,
 ⟨some 8, .fieldAddr 3 1 false (.t 1), none⟩,
 ⟨some 9, .load 1 false (.t 8), none⟩,
 ⟨some 10, .lenSl (.t 9), none⟩,
 ⟨some 11, .bin .lss (.t 7) (.t 10), none⟩])
 (.cond (.t 11) .skip
 (.exit 0)))
 (.seq (.block 1 (.seq (.reg [⟨some 15, .fieldAddr 3 1 false (.t 1), none⟩,
 ⟨some 16, .load 1 false (.t 15), none⟩,
 ⟨some 17, .mov (.t 4), none⟩,
 ⟨some 18, .indexAddr 9 true none (.t 16) (.t 17), none⟩,
 ⟨some 19, .fieldAddr 0 1 false (.t 18), none⟩,
 ⟨some 20, .load 1 false (.t 19), none⟩,
 ⟨some 21, .call (.k (.func (.func 64) [] [])) [(.t 20)], none⟩,
 ⟨some 14, .mov (.t 21), none⟩,
 ⟨some 22, .extract (.t 14) 0, none⟩,
 ⟨some 23, .extract (.t 14) 1, none⟩,
 ⟨some 5, .mov (.t 22), none⟩,
 ⟨some 6, .mov (.t 23), none⟩])
 (.seq (.seq (.reg [⟨some 24, .mov (.t 5), none⟩])
 (.cond (.t 24) (.reg [⟨some 25, .mov (.t 3), none⟩,
 ⟨some 26, .fieldAddr 3 1 false (.t 1), none⟩,
 ⟨some 27, .load 1 false (.t 26), none⟩,
 ⟨some 28, .mov (.t 4), none⟩,
 ⟨some 29, .indexAddr 9 true none (.t 27) (.t 28), none⟩,
 ⟨some 30, .fieldAddr 3 1 false (.t 29), none⟩,
 ⟨some 31, .load 1 false (.t 30), none⟩,
 ⟨some 32, .mkLit 1 [(.int .i64 0)] [(0, 1, (.t 31))] false, none⟩,
 ⟨some 33, .append 1 8 (some 3) (.t 25) (.t 32), none⟩,
 ⟨some 3, .mov (.t 33), none⟩])
 .skip))
 (.seq (.reg [⟨some 34, .mov (.t 6), none⟩])
 (.cond (.t 34) (.reg [⟨some 35, .mov (.t 3), none⟩,
 ⟨some 36, .fieldAddr 3 1 false (.t 1), none⟩,
 ⟨some 37, .load 1 false (.t 36), none⟩,
 ⟨some 38, .mov (.t 4), none⟩,
 ⟨some 39, .indexAddr 9 true none (.t 37) (.t 38), none⟩,
 ⟨some 40, .fieldAddr 4 1 false (.t 39), none⟩,
 ⟨some 41, .load 1 false (.t 40), none⟩,
 ⟨some 42, .mkLit 1 [(.int .i64 0)] [(0, 1, (.t 41))] false, none⟩,
 ⟨some 43, .append 1 8 (some 3) (.t 35) (.t 42), none⟩,
 ⟨some 3, .mov (.t 43), none⟩])
 .skip)))))
 (.reg [⟨some 12, .mov (.t 4), none⟩,
 ⟨some 13, .bin .add (.t 12) (.k (.int .i64 1)), none⟩,
 ⟨some 4, .mov (.t 13), none⟩])))

def a31 : AFunc := ⟨53, [.tmp 2],
 (.seq (.reg [⟨some 1, .box 7 (.t 0) false, none⟩,
 ⟨some 2, .mov (.k (.lst 1 [] .tight)), none⟩])
 (.seq (.reg [⟨some 3, .mov (.k (.lst 1 [] .tight)), none⟩])
 (.seq (.seq (.reg [⟨some 4, .mov (.k (.int .i64 0)), none⟩])
 (.block 0 (.loop a31_0)))
 (.seq (.seq (.reg [⟨some 44, .fieldAddr 0 1 false (.t 1), none⟩,
 ⟨some 45, .load 1 false (.t 44), none⟩,
 ⟨some 46, .bin .lss (.t 45) (.k (.int .i64 3)), none⟩])
 (.cond (.t 46) (.reg [⟨some 47, .mov (.t 3), none⟩,
 ⟨some 48, .fieldAddr 5 1 false (.t 1), none⟩,
 ⟨some 49, .load 1 false (.t 48), none⟩,
 ⟨some 50, .mkLit 1 [(.int .i64 0)] [(0, 1, (.t 49))] false, none⟩,
 ⟨some 51, .append 1 8 (some 3) (.t 47) (.t 50), none⟩,
 ⟨some 3, .mov (.t 51), none⟩])
 .skip))
 (.seq (.reg [⟨some 52, .mov (.t 3), none⟩,
 ⟨some 2, .mov (.t 52), none⟩])
 .ret))))),
 [], false⟩

def a32_0 : ACode := (.seq (.seq (.reg [⟨some 10, .mov (.t 7), none⟩,
 ⟨some 11, .mov (.t 6), none⟩,
 ⟨some 12, .lenSl (.t 11), none⟩,
 ⟨some 13, .bin .lss (.t 10) (.t 12), none⟩])
 (.cond (.t 13) .skip
 (.exit 0)))
 (.seq (.block 1 (.seq (.reg [⟨some 16, .mov (.t 6), none⟩,
 ⟨some 17, .mov (.t 7), none⟩,
 ⟨some 18, .indexAddr 4 true none (.t 16) (.t 17), none⟩,
 ⟨some 19, .fieldAddr 0 1 false (.t 18), none⟩,
 ⟨some 20, .load 1 false (.t 19), none⟩,
 ⟨some 21, .mov (.t 1), none⟩,
 ⟨some 22, .bin .eql (.t 20) (.t 21), none⟩])
 (.cond (.t 22) (.seq (.reg [⟨some 23, .mov (.t 6), none⟩,
 ⟨some 24, .mov (.t 7), none⟩,
 ⟨some 25, .indexAddr 4 true none (.t 23) (.t 24), none⟩,
 ⟨some 26, .load 4 true (.t 25), none⟩,
 ⟨none, .store 4 (.t 4) (.t 26), none⟩,
 ⟨some 5, .mov (.k (.bool true)), none⟩])
 .ret)
 .skip)))
 (.reg [⟨some 14, .mov (.t 7), none⟩,
 ⟨some 15, .bin .add (.t 14) (.k (.int .i64 1)), none⟩,
 ⟨some 7, .mov (.t 15), none⟩])))

def a32 : AFunc := ⟨28, [.cell 4 4 true, .tmp 5],
 (.seq (.reg [⟨some 2, .box 7 (.t 0) false, none⟩,
 ⟨some 4, .new (.agg [(.str []), (.int .i64 0), (.int .i64 0), (.int .i64 0)]) true none, none⟩,
 ⟨some 5, .mov (.k (.bool false)), none⟩])
 (.seq (.reg [⟨some 8, .load 7 true (.t 2), none⟩,
 ⟨some 9, .call (.k (.func (.func 30) [] [])) [(.t 8)], none⟩,
 ⟨some 6, .mov (.t 9), none⟩])
 (.seq (.seq (.reg [⟨some 7, .mov (.k (.int .i64 0)), none⟩])
 (.block 0 (.loop a32_0)))
 (.seq (.reg [⟨some 27, .build [(.str []), (.int .i64 0), (.int .i64 0), (.int .i64 0)] [], none⟩,
 ⟨none, .store 4 (.t 4) (.t 27), none⟩,
 ⟨some 5, .mov (.k (.bool false)), none⟩])
 .ret)))),
 [], false⟩

def a33 : AFunc := ⟨34, [.tmp 0],
 (.seq (.reg [⟨some 0, .mov (.k (.bool false)), none⟩])
 (.seq (.reg [⟨some 6, .call (.k (.func (.func 24) [] [])) [(.k (.str [104, 121, 98, 114, 105, 100, 32, 109, 40, 41, 32, 123, 32, 108, 101, 116, 32, 120, 58, 32, 98, 111, 111, 108, 32, 61, 32, 49, 32, 97, 110, 100, 32, 116, 114, 117, 101, 59, 32, 125])), (.k (.bool false))], none⟩,
 ⟨some 5, .mov (.t 6), none⟩,
 ⟨some 7, .extract (.t 5) 0, none⟩,
 ⟨some 8, .extract (.t 5) 1, none⟩,
 ⟨some 9, .extract (.t 5) 2, none⟩,
 ⟨some 1, .new (.agg [(.lst 7 [] .tight), (.lst 9 [] .tight)]) true none, none⟩,
 ⟨some 3, .new (.agg [(.int .i64 0), (.int .i64 0)]) true none, none⟩,
 ⟨none, .store 2 (.t 1) (.t 7), none⟩,
 ⟨some 2, .mov (.t 8), none⟩,
 ⟨none, .store 2 (.t 3) (.t 9), none⟩])
 (.seq (.reg [⟨some 10, .load 2 true (.t 1), none⟩,
 ⟨some 11, .call (.k (.func (.func 35) [] [])) [(.t 10)], none⟩,
 ⟨some 4, .mov (.t 11), none⟩])
 (.seq (.reg [⟨some 12, .fieldAddr 0 1 false (.t 3), none⟩,
 ⟨some 13, .load 1 false (.t 12), none⟩,
 ⟨some 14, .bin .eql (.t 13) (.k (.int .i64 0)), none⟩,
 ⟨some 15, .mov (.t 14), none⟩,
 ⟨some 16, .mov (.t 4), some (15, true)⟩,
 ⟨some 17, .lenSl (.t 16), some (15, true)⟩,
 ⟨some 18, .bin .eql (.t 17) (.k (.int .i64 1)), some (15, true)⟩,
 ⟨some 19, .pick (.t 15) (.t 18) (.k (.bool false)), none⟩,
 ⟨some 20, .mov (.t 19), none⟩,
 ⟨some 21, .mov (.t 4), some (20, true)⟩,
 ⟨some 22, .indexAddr 2 true none (.t 21) (.k (.int .i64 0)), some (20, true)⟩,
 ⟨some 23, .fieldAddr 0 1 false (.t 22), some (20, true)⟩,
 ⟨some 24, .load 1 false (.t 23), some (20, true)⟩,
 ⟨some 25, .bin .eql (.t 24) (.k (.int .i64 5)), some (20, true)⟩,
 ⟨some 26, .pick (.t 20) (.t 25) (.k (.bool false)), none⟩,
 ⟨some 27, .mov (.t 26), none⟩,
 ⟨some 28, .mov (.t 4), some (27, true)⟩,
 ⟨some 29, .indexAddr 2 true none (.t 28) (.k (.int .i64 0)), some (27, true)⟩,
 ⟨some 30, .fieldAddr 1 1 false (.t 29), some (27, true)⟩,
 ⟨some 31, .load 1 false (.t 30), some (27, true)⟩,
 ⟨some 32, .bin .eql (.t 31) (.k (.int .i64 27)), some (27, true)⟩,
 ⟨some 33, .pick (.t 27) (.t 32) (.k (.bool false)), none⟩,
 ⟨some 0, .mov (.t 33), none⟩])
 .ret)))),
 [], false⟩

def a34_0 : ACode := (.seq (.seq (.reg [⟨some 9, .mov (.t 3), none⟩,
 ⟨some 10, .fieldAddr 1 1 false (.t 1), none⟩,
 ⟨some 11, .load 1 false (.t 10), none⟩,
 ⟨some 12, .lenSl (.t 11), none⟩,
 ⟨some 13, .bin .lss (.t 9) (.t 12), none⟩])
 (.cond (.t 13) .skip
 (.exit 0)))
 (.seq (.block 1 (.seq (.reg [⟨some 16, .load 2 true (.t 1), none⟩,
 ⟨some 17, .mov (.t 3), none⟩,
 ⟨some 18, .call (.k (.func (.func 43) [] [])) [(.t 16), (.t 17), (.k (.lst 1 [] .tight)), (.k (.int .i64 400))], none⟩,
 ⟨some 19, .lenSl (.t 18), none⟩,
 ⟨some 20, .bin .geq (.t 19) (.k (.int .i64 400)), none⟩])
 (.cond (.t 20) (.seq (.reg [⟨some 2, .mov (.k (.bool true)), none⟩])
 .ret)
 .skip)))
 (.reg [⟨some 14, .mov (.t 3), none⟩,
 ⟨some 15, .bin .add (.t 14) (.k (.int .i64 1)), none⟩,
 ⟨some 3, .mov (.t 15), none⟩])))

def a34 : AFunc := ⟨21, [.tmp 2],
 (.seq (.reg [⟨some 1, .box 2 (.t 0) false, none⟩,
 ⟨some 2, .mov (.k (.bool false)), none⟩])
 (.seq (.seq (.reg [⟨some 4, .load 2 true (.t 1), none⟩,
 ⟨some 5, .call (.k (.func (.func 18) [] [])) [(.t 4)], none⟩])
 (.cond (.t 5) (.seq (.reg [⟨some 2, .mov (.k (.bool true)), none⟩])
 .ret)
 .skip))
 (.seq (.seq (.reg [⟨some 6, .load 2 true (.t 1), none⟩,
 ⟨some 7, .call (.k (.func (.func 51) [] [])) [(.t 6)], none⟩,
 ⟨some 8, .un .not (.t 7), none⟩])
 (.cond (.t 8) (.seq (.reg [⟨some 2, .mov (.k (.bool false)), none⟩])
 .ret)
 .skip))
 (.seq (.seq (.reg [⟨some 3, .mov (.k (.int .i64 0)), none⟩])
 (.block 0 (.loop a34_0)))
 (.seq (.reg [⟨some 2, .mov (.k (.bool false)), none⟩])
 .ret))))),
 [], false⟩

def a35 : AFunc := ⟨11, [.tmp 2],
 (.seq (.reg [⟨some 1, .box 2 (.t 0) false, none⟩,
 ⟨some 2, .mov (.k (.lst 2 [] .tight)), none⟩])
 (.seq (.reg [⟨some 6, .load 2 true (.t 1), none⟩,
 ⟨some 7, .call (.k (.func (.func 65) [] [])) [(.t 6)], none⟩,
 ⟨some 5, .mov (.t 7), none⟩,
 ⟨some 8, .extract (.t 5) 0, none⟩,
 ⟨some 9, .extract (.t 5) 1, none⟩,
 ⟨some 3, .mov (.t 8), none⟩,
 ⟨some 4, .mov (.t 9), none⟩])
 (.seq (.reg [⟨some 10, .mov (.t 3), none⟩,
 ⟨some 2, .mov (.t 10), none⟩])
 .ret))),
 [], false⟩

def a36_0 : ACode := (.seq (.seq (.reg [⟨some 96, .mov (.t 14), none⟩,
 ⟨some 97, .mov (.t 13), none⟩,
 ⟨some 98, .lenSl (.t 97), none⟩,
 ⟨some 99, .bin .lss (.t 96) (.t 98), none⟩])
 (.cond (.t 99) .skip
 (.exit 4)))
 (.seq (.block 5 (.seq (.reg [⟨some 102, .mov (.t 13), none⟩,
 ⟨some 103, .mov (.t 14), none⟩,
 ⟨some 104, .indexAddr 1 false none (.t 102) (.t 103), none⟩,
 ⟨some 105, .load 1 false (.t 104), none⟩])
 (.cond (.t 105) (.plan [⟨0, ⟨some 106, .mov (.t 3), none⟩, []⟩,
 ⟨1, ⟨some 107, .load 2 true (.t 1), none⟩, []⟩,
 ⟨2, ⟨some 108, .mov (.t 4), none⟩, []⟩,
 ⟨3, ⟨some 109, .fieldAddr 1 1 false (.t 1), none⟩, []⟩,
 ⟨4, ⟨some 110, .load 1 false (.t 109), none⟩, []⟩,
 ⟨5, ⟨some 111, .mov (.t 14), none⟩, []⟩,
 ⟨6, ⟨some 112, .indexAddr 9 true none (.t 110) (.t 111), none⟩, []⟩,
 ⟨7, ⟨some 113, .load 9 true (.t 112), none⟩, []⟩,
 ⟨8, ⟨some 114, .call (.k (.func (.func 67) [] [])) [(.t 106), (.t 107), (.t 108), (.t 113)], none⟩, []⟩,
 ⟨9, ⟨some 3, .mov (.t 114), none⟩, []⟩])
 .skip)))
 (.reg [⟨some 100, .mov (.t 14), none⟩,
 ⟨some 101, .bin .add (.t 100) (.k (.int .i64 1)), none⟩,
 ⟨some 14, .mov (.t 101), none⟩])))

def a36_1 : ACode := (.seq (.seq (.reg [⟨some 27, .mov (.t 6), none⟩,
 ⟨some 28, .fieldAddr 3 1 false (.t 5), none⟩,
 ⟨some 29, .load 1 false (.t 28), none⟩,
 ⟨some 30, .lenSl (.t 29), none⟩,
 ⟨some 31, .bin .lss (.t 27) (.t 30), none⟩])
 (.cond (.t 31) .skip
 (.exit 2)))
 (.seq (.block 3 (.seq (.reg [⟨some 34, .fieldAddr 3 1 false (.t 5), none⟩,
 ⟨some 35, .load 1 false (.t 34), none⟩,
 ⟨some 36, .mov (.t 6), none⟩,
 ⟨some 37, .indexAddr 9 true none (.t 35) (.t 36), none⟩,
 ⟨some 38, .load 9 true (.t 37), none⟩,
 ⟨some 7, .new (.agg [(.int .i64 0), (.str []), (.int .i64 0), (.int .i64 0), (.int .i64 0), (.lst 1 [] .tight), (.str []), (.str []), (.int .i64 0)]) true none, none⟩,
 ⟨none, .store 9 (.t 7) (.t 38), none⟩])
 (.seq (.reg [⟨some 40, .fieldAddr 0 1 false (.t 7), none⟩,
 ⟨some 41, .load 1 false (.t 40), none⟩,
 ⟨some 42, .call (.k (.func (.func 64) [] [])) [(.t 41)], none⟩,
 ⟨some 39, .mov (.t 42), none⟩,
 ⟨some 43, .extract (.t 39) 0, none⟩,
 ⟨some 44, .extract (.t 39) 1, none⟩,
 ⟨some 8, .mov (.t 43), none⟩,
 ⟨some 9, .mov (.t 44), none⟩])
 (.seq (.reg [⟨some 10, .mov (.k (.int .i64 1)), none⟩])
 (.seq (.seq (.reg [⟨some 45, .fieldAddr 0 1 false (.t 7), none⟩,
 ⟨some 46, .load 1 false (.t 45), none⟩,
 ⟨some 47, .bin .eql (.t 46) (.k (.int .i64 1)), none⟩,
 ⟨some 48, .mov (.t 47), none⟩,
 ⟨some 49, .fieldAddr 0 1 false (.t 7), some (48, false)⟩,
 ⟨some 50, .load 1 false (.t 49), some (48, false)⟩,
 ⟨some 51, .bin .eql (.t 50) (.k (.int .i64 4)), some (48, false)⟩,
 ⟨some 52, .pick (.t 48) (.k (.bool true)) (.t 51), none⟩])
 (.cond (.t 52) (.reg [⟨some 53, .fieldAddr 2 1 false (.t 7), none⟩,
 ⟨some 54, .load 1 false (.t 53), none⟩,
 ⟨some 10, .mov (.t 54), none⟩])
 .skip))
 (.seq (.seq (.reg [⟨some 55, .fieldAddr 0 1 false (.t 7), none⟩,
 ⟨some 56, .load 1 false (.t 55), none⟩,
 ⟨some 57, .bin .eql (.t 56) (.k (.int .i64 5)), none⟩])
 (.cond (.t 57) (.seq (.reg [⟨some 59, .load 7 true (.t 5), none⟩,
 ⟨some 60, .fieldAddr 1 1 false (.t 7), none⟩,
 ⟨some 61, .load 1 false (.t 60), none⟩,
 ⟨some 62, .call (.k (.func (.func 32) [] [])) [(.t 59), (.t 61)], none⟩,
 ⟨some 58, .mov (.t 62), none⟩,
 ⟨some 63, .extract (.t 58) 0, none⟩,
 ⟨some 64, .extract (.t 58) 1, none⟩,
 ⟨some 11, .new (.agg [(.str []), (.int .i64 0), (.int .i64 0), (.int .i64 0)]) true none, none⟩,
 ⟨none, .store 4 (.t 11) (.t 63), none⟩,
 ⟨some 12, .mov (.t 64), none⟩])
 (.reg [⟨some 65, .fieldAddr 2 1 false (.t 11), none⟩,
 ⟨some 66, .load 1 false (.t 65), none⟩,
 ⟨some 10, .mov (.t 66), none⟩]))
 .skip))
 (.seq (.seq (.reg [⟨some 67, .mov (.t 8), none⟩])
 (.cond (.t 67) (.reg [⟨some 68, .mov (.t 3), none⟩,
 ⟨some 69, .load 2 true (.t 1), none⟩,
 ⟨some 70, .mov (.t 4), none⟩,
 ⟨some 71, .fieldAddr 3 1 false (.t 7), none⟩,
 ⟨some 72, .load 1 false (.t 71), none⟩,
 ⟨some 73, .mov (.t 10), none⟩,
 ⟨some 74, .call (.k (.func (.func 66) [] [])) [(.t 68), (.t 69), (.t 70), (.t 72), (.t 73)], none⟩,
 ⟨some 3, .mov (.t 74), none⟩])
 .skip))
 (.seq (.reg [⟨some 75, .mov (.t 9), none⟩])
 (.cond (.t 75) (.reg [⟨some 76, .mov (.t 3), none⟩,
 ⟨some 77, .load 2 true (.t 1), none⟩,
 ⟨some 78, .mov (.t 4), none⟩,
 ⟨some 79, .fieldAddr 4 1 false (.t 7), none⟩,
 ⟨some 80, .load 1 false (.t 79), none⟩,
 ⟨some 81, .call (.k (.func (.func 66) [] [])) [(.t 76), (.t 77), (.t 78), (.t 80), (.k (.int .i64 1))], none⟩,
 ⟨some 3, .mov (.t 81), none⟩])
 .skip)))))))))
 (.reg [⟨some 32, .mov (.t 6), none⟩,
 ⟨some 33, .bin .add (.t 32) (.k (.int .i64 1)), none⟩,
 ⟨some 6, .mov (.t 33), none⟩])))

def a36_2 : ACode := (.seq (.seq (.reg [⟨some 15, .mov (.t 4), none⟩,
 ⟨some 16, .fieldAddr 0 1 false (.t 1), none⟩,
 ⟨some 17, .load 1 false (.t 16), none⟩,
 ⟨some 18, .lenSl (.t 17), none⟩,
 ⟨some 19, .bin .lss (.t 15) (.t 18), none⟩])
 (.cond (.t 19) .skip
 (.exit 0)))
 (.seq (.block 1 (.seq (.reg [⟨some 22, .fieldAddr 0 1 false (.t 1), none⟩,
 ⟨some 23, .load 1 false (.t 22), none⟩,
 ⟨some 24, .mov (.t 4), none⟩,
 ⟨some 25, .indexAddr 7 true none (.t 23) (.t 24), none⟩,
 ⟨some 26, .load 7 true (.t 25), none⟩,
 ⟨some 5, .new (.agg [(.int .i64 0), (.str []), (.lst 2 [] .tight), (.lst 9 [] .tight), (.int .i64 0), (.int .i64 0), (.int .i64 0)]) true none, none⟩,
 ⟨none, .store 7 (.t 5) (.t 26), none⟩])
 (.seq (.seq (.reg [⟨some 6, .mov (.k (.int .i64 0)), none⟩])
 (.block 2 (.loop a36_1)))
 (.seq (.seq (.reg [⟨some 82, .fieldAddr 0 1 false (.t 5), none⟩,
 ⟨some 83, .load 1 false (.t 82), none⟩,
 ⟨some 84, .bin .lss (.t 83) (.k (.int .i64 3)), none⟩])
 (.cond (.t 84) (.reg [⟨some 85, .mov (.t 3), none⟩,
 ⟨some 86, .load 2 true (.t 1), none⟩,
 ⟨some 87, .mov (.t 4), none⟩,
 ⟨some 88, .fieldAddr 5 1 false (.t 5), none⟩,
 ⟨some 89, .load 1 false (.t 88), none⟩,
 ⟨some 90, .fieldAddr 4 1 false (.t 5), none⟩,
 ⟨some 91, .load 1 false (.t 90), none⟩,
 ⟨some 92, .call (.k (.func (.func 66) [] [])) [(.t 85), (.t 86), (.t 87), (.t 89), (.t 91)], none⟩,
 ⟨some 3, .mov (.t 92), none⟩])
 .skip))
 (.seq (.reg [⟨some 93, .load 2 true (.t 1), none⟩,
 ⟨some 94, .load 7 true (.t 5), none⟩,
 ⟨some 95, .call (.k (.func (.func 39) [] [])) [(.t 93), (.t 94)], none⟩,
 ⟨some 13, .mov (.t 95), none⟩])
 (.seq (.reg [⟨some 14, .mov (.k (.int .i64 0)), none⟩])
 (.block 4 (.loop a36_0))))))))
 (.reg [⟨some 20, .mov (.t 4), none⟩,
 ⟨some 21, .bin .add (.t 20) (.k (.int .i64 1)), none⟩,
 ⟨some 4, .mov (.t 21), none⟩])))

def a36 : AFunc := ⟨116, [.tmp 2],
 (.seq (.reg [⟨some 1, .box 2 (.t 0) false, none⟩,
 ⟨some 2, .mov (.k (.lst 2 [] .tight)), none⟩])
 (.seq (.reg [⟨some 3, .mov (.k (.lst 2 [] .tight)), none⟩])
 (.seq (.seq (.reg [⟨some 4, .mov (.k (.int .i64 0)), none⟩])
 (.block 0 (.loop a36_2)))
 (.seq (.reg [⟨some 115, .mov (.t 3), none⟩,
 ⟨some 2, .mov (.t 115), none⟩])
 .ret)))),
 [], false⟩

def a37 : AFunc := ⟨16, [.tmp 2],
 (.seq (.reg [⟨some 1, .box 2 (.t 0) false, none⟩,
 ⟨some 2, .mov (.k (.bool false)), none⟩])
 (.seq (.reg [⟨some 6, .load 2 true (.t 1), none⟩,
 ⟨some 7, .call (.k (.func (.func 65) [] [])) [(.t 6)], none⟩,
 ⟨some 5, .mov (.t 7), none⟩,
 ⟨some 8, .extract (.t 5) 0, none⟩,
 ⟨some 9, .extract (.t 5) 1, none⟩,
 ⟨some 3, .mov (.t 8), none⟩,
 ⟨some 4, .mov (.t 9), none⟩])
 (.seq (.reg [⟨some 10, .mov (.t 4), none⟩,
 ⟨some 11, .mov (.t 10), none⟩,
 ⟨some 12, .mov (.t 3), some (11, true)⟩,
 ⟨some 13, .lenSl (.t 12), some (11, true)⟩,
 ⟨some 14, .bin .eql (.t 13) (.k (.int .i64 0)), some (11, true)⟩,
 ⟨some 15, .pick (.t 11) (.t 14) (.k (.bool false)), none⟩,
 ⟨some 2, .mov (.t 15), none⟩])
 .ret))),
 [], false⟩

def a38 : AFunc := ⟨11, [.tmp 2],
 (.seq (.reg [⟨some 1, .box 2 (.t 0) false, none⟩,
 ⟨some 2, .mov (.k (.bool false)), none⟩])
 (.seq (.reg [⟨some 3, .load 2 true (.t 1), none⟩,
 ⟨some 4, .call (.k (.func (.func 23) [] [])) [(.t 3)], none⟩,
 ⟨some 5, .mov (.t 4), none⟩,
 ⟨some 6, .load 2 true (.t 1), some (5, true)⟩,
 ⟨some 7, .call (.k (.func (.func 36) [] [])) [(.t 6)], some (5, true)⟩,
 ⟨some 8, .lenSl (.t 7), some (5, true)⟩,
 ⟨some 9, .bin .eql (.t 8) (.k (.int .i64 0)), some (5, true)⟩,
 ⟨some 10, .pick (.t 5) (.t 9) (.k (.bool false)), none⟩,
 ⟨some 2, .mov (.t 10), none⟩])
 .ret)),
 [], false⟩

def a39_0 : ACode := (.seq (.seq (.reg [⟨some 43, .mov (.t 10), none⟩,
 ⟨some 44, .mov (.t 9), none⟩,
 ⟨some 45, .lenSl (.t 44), none⟩,
 ⟨some 46, .bin .lss (.t 43) (.t 45), none⟩,
 ⟨some 47, .mov (.t 46), none⟩,
 ⟨some 48, .mov (.t 5), some (47, true)⟩,
 ⟨some 49, .mov (.t 8), some (47, true)⟩,
 ⟨some 50, .indexAddr 1 false none (.t 48) (.t 49), some (47, true)⟩,
 ⟨some 51, .load 1 false (.t 50), some (47, true)⟩,
 ⟨some 52, .pick (.t 47) (.t 51) (.k (.bool false)), none⟩])
 (.cond (.t 52) .skip
 (.exit 4)))
 (.seq (.block 5 (.reg [⟨some 55, .mov (.t 5), none⟩,
 ⟨some 56, .mov (.t 9), none⟩,
 ⟨some 57, .mov (.t 10), none⟩,
 ⟨some 58, .indexAddr 1 false none (.t 56) (.t 57), none⟩,
 ⟨some 59, .load 1 false (.t 58), none⟩,
 ⟨some 60, .indexAddr 1 false none (.t 55) (.t 59), none⟩,
 ⟨none, .store 1 (.t 60) (.k (.bool true)), none⟩]))
 (.reg [⟨some 53, .mov (.t 10), none⟩,
 ⟨some 54, .bin .add (.t 53) (.k (.int .i64 1)), none⟩,
 ⟨some 10, .mov (.t 54), none⟩])))

def a39_1 : ACode := (.seq (.seq (.reg [⟨some 33, .mov (.t 8), none⟩,
 ⟨some 34, .bin .geq (.t 33) (.k (.int .i64 0)), none⟩])
 (.cond (.t 34) .skip
 (.exit 2)))
 (.seq (.block 3 (.seq (.reg [⟨some 37, .fieldAddr 1 1 false (.t 2), none⟩,
 ⟨some 38, .load 1 false (.t 37), none⟩,
 ⟨some 39, .mov (.t 8), none⟩,
 ⟨some 40, .indexAddr 9 true none (.t 38) (.t 39), none⟩,
 ⟨some 41, .load 9 true (.t 40), none⟩,
 ⟨some 42, .call (.k (.func (.func 68) [] [])) [(.t 41)], none⟩,
 ⟨some 9, .mov (.t 42), none⟩])
 (.seq (.reg [⟨some 10, .mov (.k (.int .i64 0)), none⟩])
 (.block 4 (.loop a39_0)))))
 (.reg [⟨some 35, .mov (.t 8), none⟩,
 ⟨some 36, .bin .sub (.t 35) (.k (.int .i64 1)), none⟩,
 ⟨some 8, .mov (.t 36), none⟩])))

def a39_2 : ACode := (.seq (.seq (.reg [⟨some 17, .mov (.t 7), none⟩,
 ⟨some 18, .mov (.t 6), none⟩,
 ⟨some 19, .lenSl (.t 18), none⟩,
 ⟨some 20, .bin .lss (.t 17) (.t 19), none⟩])
 (.cond (.t 20) .skip
 (.exit 0)))
 (.seq (.block 1 (.reg [⟨some 23, .mov (.t 5), none⟩,
 ⟨some 24, .mov (.t 6), none⟩,
 ⟨some 25, .mov (.t 7), none⟩,
 ⟨some 26, .indexAddr 1 false none (.t 24) (.t 25), none⟩,
 ⟨some 27, .load 1 false (.t 26), none⟩,
 ⟨some 28, .indexAddr 1 false none (.t 23) (.t 27), none⟩,
 ⟨none, .store 1 (.t 28) (.k (.bool true)), none⟩]))
 (.reg [⟨some 21, .mov (.t 7), none⟩,
 ⟨some 22, .bin .add (.t 21) (.k (.int .i64 1)), none⟩,
 ⟨some 7, .mov (.t 22), none⟩])))

def a39 : AFunc := ⟨62, [.tmp 4],
 (.seq (.reg [⟨some 2, .box 2 (.t 0) false, none⟩,
 ⟨some 3, .box 7 (.t 1) false, none⟩,
 ⟨some 4, .mov (.k (.lst 1 [] .tight)), none⟩])
 (.seq (.reg [⟨some 11, .fieldAddr 1 1 false (.t 2), none⟩,
 ⟨some 12, .load 1 false (.t 11), none⟩,
 ⟨some 13, .lenSl (.t 12), none⟩,
 ⟨some 14, .mkSlice 1 1 [(.bool false)] (.t 13) (.t 13) false, none⟩,
 ⟨some 5, .mov (.t 14), none⟩])
 (.seq (.reg [⟨some 15, .load 7 true (.t 3), none⟩,
 ⟨some 16, .call (.k (.func (.func 31) [] [])) [(.t 15)], none⟩,
 ⟨some 6, .mov (.t 16), none⟩])
 (.seq (.seq (.reg [⟨some 7, .mov (.k (.int .i64 0)), none⟩])
 (.block 0 (.loop a39_2)))
 (.seq (.seq (.reg [⟨some 29, .fieldAddr 1 1 false (.t 2), none⟩,
 ⟨some 30, .load 1 false (.t 29), none⟩,
 ⟨some 31, .lenSl (.t 30), none⟩,
 ⟨some 32, .bin .sub (.t 31) (.k (.int .i64 1)), none⟩,
 ⟨some 8, .mov (.t 32), none⟩])
 (.block 2 (.loop a39_1)))
 (.seq (.reg [⟨some 61, .mov (.t 5), none⟩,
 ⟨some 4, .mov (.t 61), none⟩])
 .ret)))))),
 [], false⟩

def a40 : AFunc := ⟨22, [.tmp 4],
 (.seq (.reg [⟨some 2, .box 2 (.t 0) false, none⟩,
 ⟨some 4, .mov (.k (.lst 1 [] .tight)), none⟩])
 (.seq (.seq (.reg [⟨some 5, .load 2 true (.t 2), none⟩,
 ⟨some 6, .call (.k (.func (.func 21) [] [])) [(.t 5)], none⟩,
 ⟨some 7, .un .not (.t 6), none⟩,
 ⟨some 8, .mov (.t 7), none⟩,
 ⟨some 9, .mov (.t 1), some (8, false)⟩,
 ⟨some 10, .bin .lss (.t 9) (.k (.int .i64 0)), some (8, false)⟩,
 ⟨some 11, .pick (.t 8) (.k (.bool true)) (.t 10), none⟩,
 ⟨some 12, .mov (.t 11), none⟩,
 ⟨some 13, .mov (.t 1), some (12, false)⟩,
 ⟨some 14, .fieldAddr 0 1 false (.t 2), some (12, false)⟩,
 ⟨some 15, .load 1 false (.t 14), some (12, false)⟩,
 ⟨some 16, .lenSl (.t 15), some (12, false)⟩,
 ⟨some 17, .bin .geq (.t 13) (.t 16), some (12, false)⟩,
 ⟨some 18, .pick (.t 12) (.k (.bool true)) (.t 17), none⟩])
 (.cond (.t 18) (.seq (.reg [⟨some 4, .mov (.k (.lst 1 [] .tight)), none⟩])
 .ret)
 .skip))
 (.seq (.reg [⟨some 19, .load 2 true (.t 2), none⟩,
 ⟨some 20, .mov (.t 1), none⟩,
 ⟨some 21, .call (.k (.func (.func 69) [] [])) [(.t 19), (.t 20)], none⟩,
 ⟨some 4, .mov (.t 21), none⟩])
 .ret))),
 [], false⟩

def a41 : AFunc := ⟨23, [.tmp 6],
 (.seq (.reg [⟨some 3, .box 2 (.t 0) false, none⟩,
 ⟨some 6, .mov (.k (.int .i64 0)), none⟩])
 (.seq (.seq (.reg [⟨some 8, .load 2 true (.t 3), none⟩,
 ⟨some 9, .mov (.t 1), none⟩,
 ⟨some 10, .call (.k (.func (.func 40) [] [])) [(.t 8), (.t 9)], none⟩,
 ⟨some 7, .mov (.t 10), none⟩])
 (.seq (.reg [⟨some 11, .mov (.t 2), none⟩,
 ⟨some 12, .bin .geq (.t 11) (.k (.int .i64 0)), none⟩,
 ⟨some 13, .mov (.t 12), none⟩,
 ⟨some 14, .mov (.t 2), some (13, true)⟩,
 ⟨some 15, .mov (.t 7), some (13, true)⟩,
 ⟨some 16, .lenSl (.t 15), some (13, true)⟩,
 ⟨some 17, .bin .lss (.t 14) (.t 16), some (13, true)⟩,
 ⟨some 18, .pick (.t 13) (.t 17) (.k (.bool false)), none⟩])
 (.cond (.t 18) (.seq (.reg [⟨some 19, .mov (.t 7), none⟩,
 ⟨some 20, .mov (.t 2), none⟩,
 ⟨some 21, .indexAddr 1 false none (.t 19) (.t 20), none⟩,
 ⟨some 22, .load 1 false (.t 21), none⟩,
 ⟨some 6, .mov (.t 22), none⟩])
 .ret)
 .skip)))
 (.seq (.reg [⟨some 6, .mov (.k (.int .i64 0)), none⟩])
 .ret))),
 [], false⟩

def a42_0 : ACode := (.seq (.seq (.reg [⟨some 35, .mov (.t 10), none⟩,
 ⟨some 36, .mov (.t 8), none⟩,
 ⟨some 37, .lenSl (.t 36), none⟩,
 ⟨some 38, .bin .lss (.t 35) (.t 37), none⟩])
 (.cond (.t 38) .skip
 (.exit 1)))
 (.seq (.block 2 (.seq (.plan [⟨0, ⟨some 41, .mov (.t 8), none⟩, []⟩,
 ⟨1, ⟨some 42, .mov (.t 10), none⟩, []⟩,
 ⟨2, ⟨some 43, .indexAddr 4 true none (.t 41) (.t 42), none⟩, []⟩,
 ⟨3, ⟨some 44, .fieldAddr 0 1 false (.t 43), none⟩, []⟩,
 ⟨4, ⟨some 45, .load 1 false (.t 44), none⟩, []⟩,
 ⟨5, ⟨some 46, .fieldAddr 4 1 false (.t 7), none⟩, []⟩,
 ⟨6, ⟨some 47, .load 1 false (.t 46), none⟩, []⟩,
 ⟨7, ⟨some 48, .bin .eql (.t 45) (.t 47), none⟩, []⟩])
 (.cond (.t 48) (.reg [⟨some 49, .mov (.t 8), none⟩,
 ⟨some 50, .mov (.t 10), none⟩,
 ⟨some 51, .indexAddr 4 true none (.t 49) (.t 50), none⟩,
 ⟨some 52, .fieldAddr 2 1 false (.t 51), none⟩,
 ⟨some 53, .load 1 false (.t 52), none⟩,
 ⟨some 9, .mov (.t 53), none⟩])
 .skip)))
 (.reg [⟨some 39, .mov (.t 10), none⟩,
 ⟨some 40, .bin .add (.t 39) (.k (.int .i64 1)), none⟩,
 ⟨some 10, .mov (.t 40), none⟩])))

def a42 : AFunc := ⟨85, [.tmp 6],
 (.seq (.reg [⟨some 3, .box 2 (.t 0) false, none⟩,
 ⟨some 6, .mov (.k (.int .i64 0)), none⟩])
 (.seq (.reg [⟨some 12, .fieldAddr 1 1 false (.t 3), none⟩,
 ⟨some 13, .load 1 false (.t 12), none⟩,
 ⟨some 14, .mov (.t 2), none⟩,
 ⟨some 15, .indexAddr 9 true none (.t 13) (.t 14), none⟩,
 ⟨some 16, .load 9 true (.t 15), none⟩,
 ⟨some 7, .new (.agg [(.int .i64 0), (.int .i64 0), (.int .i64 0), (.int .i64 0), (.str []), (.str []), (.int .i64 0), (.lst 1 [] .tight), (.int .i64 0)]) true none, none⟩,
 ⟨none, .store 9 (.t 7) (.t 16), none⟩])
 (.seq (.seq (.reg [⟨some 17, .fieldAddr 0 1 false (.t 7), none⟩,
 ⟨some 18, .load 1 false (.t 17), none⟩])
 (.block 0 (.seq (.seq (.reg [⟨some 20, .bin .eql (.t 18) (.k (.int .i64 1)), none⟩,
 ⟨some 19, .mov (.t 20), none⟩])
 (.cond (.t 19) .skip
 (.seq (.reg [⟨some 21, .bin .eql (.t 18) (.k (.int .i64 4)), none⟩,
 ⟨some 19, .mov (.t 21), none⟩])
 (.cond (.t 19) .skip
 (.seq (.reg [⟨some 22, .bin .eql (.t 18) (.k (.int .i64 6)), none⟩,
 ⟨some 19, .mov (.t 22), none⟩])
 (.cond (.t 19) .skip
 (.seq (.reg [⟨some 23, .bin .eql (.t 18) (.k (.int .i64 7)), none⟩,
 ⟨some 19, .mov (.t 23), none⟩])
 (.cond (.t 19) .skip
 (.seq (.reg [⟨some 24, .bin .eql (.t 18) (.k (.int .i64 8)), none⟩,
 ⟨some 19, .mov (.t 24), none⟩])
 (.cond (.t 19) .skip
 (.seq (.reg [⟨some 25, .bin .eql (.t 18) (.k (.int .i64 9)), none⟩,
 ⟨some 19, .mov (.t 25), none⟩])
 (.cond (.t 19) .skip
 (.reg [⟨some 26, .bin .eql (.t 18) (.k (.int .i64 21)), none⟩,
 ⟨some 19, .mov (.t 26), none⟩])))))))))))))
 (.cond (.t 19) (.seq (.reg [⟨some 6, .mov (.k (.int .i64 1)), none⟩])
 .ret)
 (.seq (.reg [⟨some 28, .bin .eql (.t 18) (.k (.int .i64 3)), none⟩,
 ⟨some 27, .mov (.t 28), none⟩])
 (.cond (.t 27) (.seq (.reg [⟨some 29, .fieldAddr 0 1 false (.t 3), none⟩,
 ⟨some 30, .load 1 false (.t 29), none⟩,
 ⟨some 31, .mov (.t 1), none⟩,
 ⟨some 32, .indexAddr 7 true none (.t 30) (.t 31), none⟩,
 ⟨some 33, .load 7 true (.t 32), none⟩,
 ⟨some 34, .call (.k (.func (.func 30) [] [])) [(.t 33)], none⟩,
 ⟨some 8, .mov (.t 34), none⟩])
 (.seq (.reg [⟨some 9, .mov (.k (.int .i64 0)), none⟩])
 (.seq (.seq (.reg [⟨some 10, .mov (.k (.int .i64 0)), none⟩])
 (.block 1 (.loop a42_0)))
 (.seq (.reg [⟨some 54, .mov (.t 9), none⟩,
 ⟨some 6, .mov (.t 54), none⟩])
 .ret))))
 (.seq (.reg [⟨some 56, .bin .eql (.t 18) (.k (.int .i64 15)), none⟩,
 ⟨some 55, .mov (.t 56), none⟩])
 (.cond (.t 55) (.seq (.reg [⟨some 57, .load 2 true (.t 3), none⟩,
 ⟨some 58, .mov (.t 1), none⟩,
 ⟨some 59, .fieldAddr 2 1 false (.t 7), none⟩,
 ⟨some 60, .load 1 false (.t 59), none⟩,
 ⟨some 61, .call (.k (.func (.func 42) [] [])) [(.t 57), (.t 58), (.t 60)], none⟩,
 ⟨some 6, .mov (.t 61), none⟩])
 .ret)
 (.seq (.seq (.reg [⟨some 63, .bin .eql (.t 18) (.k (.int .i64 16)), none⟩,
 ⟨some 62, .mov (.t 63), none⟩])
 (.cond (.t 62) .skip
 (.seq (.reg [⟨some 64, .bin .eql (.t 18) (.k (.int .i64 17)), none⟩,
 ⟨some 62, .mov (.t 64), none⟩])
 (.cond (.t 62) .skip
 (.reg [⟨some 65, .bin .eql (.t 18) (.k (.int .i64 18)), none⟩,
 ⟨some 62, .mov (.t 65), none⟩])))))
 (.cond (.t 62) (.seq (.reg [⟨some 66, .load 2 true (.t 3), none⟩,
 ⟨some 67, .mov (.t 1), none⟩,
 ⟨some 68, .fieldAddr 1 1 false (.t 7), none⟩,
 ⟨some 69, .load 1 false (.t 68), none⟩,
 ⟨some 70, .call (.k (.func (.func 42) [] [])) [(.t 66), (.t 67), (.t 69)], none⟩,
 ⟨some 6, .mov (.t 70), none⟩])
 .ret)
 (.seq (.reg [⟨some 72, .bin .eql (.t 18) (.k (.int .i64 19)), none⟩,
 ⟨some 71, .mov (.t 72), none⟩])
 (.cond (.t 71) (.seq (.reg [⟨some 73, .load 2 true (.t 3), none⟩,
 ⟨some 74, .fieldAddr 4 1 false (.t 7), none⟩,
 ⟨some 75, .load 1 false (.t 74), none⟩,
 ⟨some 76, .call (.k (.func (.func 29) [] [])) [(.t 73), (.t 75)], none⟩,
 ⟨some 11, .mov (.t 76), none⟩])
 (.seq (.seq (.reg [⟨some 77, .mov (.t 11), none⟩,
 ⟨some 78, .bin .lss (.t 77) (.k (.int .i64 0)), none⟩])
 (.cond (.t 78) (.seq (.reg [⟨some 6, .mov (.k (.int .i64 0)), none⟩])
 .ret)
 .skip))
 (.seq (.reg [⟨some 79, .fieldAddr 0 1 false (.t 3), none⟩,
 ⟨some 80, .load 1 false (.t 79), none⟩,
 ⟨some 81, .mov (.t 11), none⟩,
 ⟨some 82, .indexAddr 7 true none (.t 80) (.t 81), none⟩,
 ⟨some 83, .fieldAddr 4 1 false (.t 82), none⟩,
 ⟨some 84, .load 1 false (.t 83), none⟩,
 ⟨some 6, .mov (.t 84), none⟩])
 .ret)))
 .skip))))))))))))
 (.seq (.reg [⟨some 6, .mov (.k (.int .i64 2)), none⟩])
 .ret)))),
 [], false⟩

def a43_0 : ACode := (.seq (.seq (.reg [⟨some 26, .mov (.t 10), none⟩,
 ⟨some 27, .mov (.t 9), none⟩,
 ⟨some 28, .lenSl (.t 27), none⟩,
 ⟨some 29, .bin .lss (.t 26) (.t 28), none⟩])
 (.cond (.t 29) .skip
 (.exit 0)))
 (.seq (.block 1 (.plan [⟨0, ⟨some 32, .load 2 true (.t 4), none⟩, []⟩,
 ⟨1, ⟨some 33, .mov (.t 9), none⟩, []⟩,
 ⟨2, ⟨some 34, .mov (.t 10), none⟩, []⟩,
 ⟨3, ⟨some 35, .indexAddr 1 false none (.t 33) (.t 34), none⟩, []⟩,
 ⟨4, ⟨some 36, .load 1 false (.t 35), none⟩, []⟩,
 ⟨5, ⟨some 37, .mov (.t 2), none⟩, []⟩,
 ⟨6, ⟨some 38, .mov (.t 3), none⟩, []⟩,
 ⟨7, ⟨some 39, .call (.k (.func (.func 43) [] [])) [(.t 32), (.t 36), (.t 37), (.t 38)], none⟩, []⟩,
 ⟨8, ⟨some 2, .mov (.t 39), none⟩, []⟩]))
 (.reg [⟨some 30, .mov (.t 10), none⟩,
 ⟨some 31, .bin .add (.t 30) (.k (.int .i64 1)), none⟩,
 ⟨some 10, .mov (.t 31), none⟩])))

def a43 : AFunc := ⟨41, [.tmp 8],
 (.seq (.reg [⟨some 4, .box 2 (.t 0) false, none⟩,
 ⟨some 8, .mov (.k (.lst 1 [] .tight)), none⟩])
 (.seq (.seq (.reg [⟨some 11, .mov (.t 2), none⟩,
 ⟨some 12, .lenSl (.t 11), none⟩,
 ⟨some 13, .mov (.t 3), none⟩,
 ⟨some 14, .bin .geq (.t 12) (.t 13), none⟩])
 (.cond (.t 14) (.seq (.reg [⟨some 15, .mov (.t 2), none⟩,
 ⟨some 8, .mov (.t 15), none⟩])
 .ret)
 .skip))
 (.seq (.reg [⟨some 16, .mov (.t 2), none⟩,
 ⟨some 17, .mov (.t 1), none⟩,
 ⟨some 18, .mkLit 1 [(.int .i64 0)] [(0, 1, (.t 17))] false, none⟩,
 ⟨some 19, .append 1 8 (some 3) (.t 16) (.t 18), none⟩,
 ⟨some 2, .mov (.t 19), none⟩])
 (.seq (.reg [⟨some 20, .fieldAddr 1 1 false (.t 4), none⟩,
 ⟨some 21, .load 1 false (.t 20), none⟩,
 ⟨some 22, .mov (.t 1), none⟩,
 ⟨some 23, .indexAddr 9 true none (.t 21) (.t 22), none⟩,
 ⟨some 24, .load 9 true (.t 23), none⟩,
 ⟨some 25, .call (.k (.func (.func 68) [] [])) [(.t 24)], none⟩,
 ⟨some 9, .mov (.t 25), none⟩])
 (.seq (.seq (.reg [⟨some 10, .mov (.k (.int .i64 0)), none⟩])
 (.block 0 (.loop a43_0)))
 (.seq (.reg [⟨some 40, .mov (.t 2), none⟩,
 ⟨some 8, .mov (.t 40), none⟩])
 .ret)))))),
 [], false⟩

def a46 : AFunc := ⟨17, [.tmp 4],
 (.seq (.reg [⟨some 2, .box 2 (.t 0) false, none⟩,
 ⟨some 3, .box 2 (.t 1) false, none⟩,
 ⟨some 4, .mov (.k (.int .i64 0)), none⟩])
 (.seq (.plan [⟨0, ⟨some 5, .fieldAddr 1 1 false (.t 2), none⟩, []⟩,
 ⟨1, ⟨some 6, .load 1 false (.t 5), none⟩, []⟩,
 ⟨2, ⟨some 7, .fieldAddr 1 1 false (.t 3), none⟩, []⟩,
 ⟨3, ⟨some 8, .load 1 false (.t 7), none⟩, []⟩,
 ⟨5, ⟨some 10, .fieldAddr 0 1 false (.t 2), none⟩, []⟩,
 ⟨6, ⟨some 11, .load 1 false (.t 10), none⟩, []⟩,
 ⟨7, ⟨some 12, .fieldAddr 0 1 false (.t 3), none⟩, []⟩,
 ⟨8, ⟨some 13, .load 1 false (.t 12), none⟩, []⟩,
 ⟨4, ⟨some 9, .call (.k (.func (.func 48) [] [])) [(.t 6), (.t 8)], none⟩, [6, 8]⟩,
 ⟨9, ⟨some 14, .call (.k (.func (.func 49) [] [])) [(.t 11), (.t 13)], none⟩, []⟩,
 ⟨10, ⟨some 15, .mkLit 1 [(.int .i64 0), (.int .i64 0)] [(0, 1, (.t 9)), (1, 1, (.t 14))] false, none⟩, []⟩,
 ⟨11, ⟨some 16, .call (.k (.func (.func 47) [] [])) [(.t 15)], none⟩, []⟩,
 ⟨12, ⟨some 4, .mov (.t 16), none⟩, []⟩])
 .ret)),
 [], false⟩

def a47_0 : ACode := (.seq (.reg [⟨some 9, .bin .lss (.t 8) (.t 7), none⟩])
 (.seq (.cond (.t 9) .skip
 (.exit 0))
 (.seq (.block 1 (.seq (.reg [⟨some 10, .indexAddr 1 false none (.t 6) (.t 8), none⟩,
 ⟨some 11, .load 1 false (.t 10), none⟩,
 ⟨some 5, .mov (.t 11), none⟩])
 (.seq (.reg [⟨some 12, .mov (.t 5), none⟩,
 ⟨some 13, .mov (.t 3), none⟩,
 ⟨some 14, .bin .neq (.t 12) (.t 13), none⟩])
 (.cond (.t 14) (.seq (.reg [⟨some 15, .mov (.t 5), none⟩,
 ⟨some 2, .mov (.t 15), none⟩])
 .ret)
 .skip))))
 (.reg [⟨some 16, .bin .add (.t 8) (.k (.int .i64 1)), none⟩,
 ⟨some 8, .mov (.t 16), none⟩]))))

def a47 : AFunc := ⟨18, [.tmp 2],
 (.seq (.reg [⟨some 2, .mov (.k (.int .i64 0)), none⟩])
 (.seq (.reg [⟨some 3, .mov (.k (.int .i64 0)), none⟩])
 (.seq (.seq (.reg [⟨some 6, .mov (.t 0), none⟩,
 ⟨some 7, .lenSl (.t 6), none⟩,
 ⟨some 8, .mov (.k (.int .i64 0)), none⟩])
 (.block 0 (.loop a47_0)))
 (.seq (.reg [⟨some 17, .mov (.t 3), none⟩,
 ⟨some 2, .mov (.t 17), none⟩])
 .ret)))),
 [], false⟩

def a48 : AFunc := ⟨20, [.tmp 4],
 (.seq (.reg [⟨some 4, .mov (.k (.int .i64 0)), none⟩])
 (.seq (.reg [⟨some 7, .mov (.t 0), none⟩,
 ⟨some 8, .call (.k (.func (.func 72) [] [])) [(.t 7)], none⟩,
 ⟨some 5, .mov (.t 8), none⟩])
 (.seq (.reg [⟨some 9, .mov (.t 1), none⟩,
 ⟨some 10, .call (.k (.func (.func 72) [] [])) [(.t 9)], none⟩,
 ⟨some 6, .mov (.t 10), none⟩])
 (.seq (.seq (.reg [⟨some 11, .mov (.t 5), none⟩])
 (.cond (.t 11) (.seq (.seq (.reg [⟨some 12, .mov (.t 6), none⟩])
 (.cond (.t 12) (.seq (.reg [⟨some 4, .mov (.k (.int .i64 0)), none⟩])
 .ret)
 .skip))
 (.seq (.reg [⟨some 4, .mov (.k (.int .i64 (-1))), none⟩])
 .ret))
 .skip))
 (.seq (.seq (.reg [⟨some 13, .mov (.t 6), none⟩])
 (.cond (.t 13) (.seq (.reg [⟨some 4, .mov (.k (.int .i64 1)), none⟩])
 .ret)
 .skip))
 (.seq (.seq (.reg [⟨some 14, .mov (.t 0), none⟩,
 ⟨some 15, .mov (.t 1), none⟩,
 ⟨some 16, .bin .lss (.t 14) (.t 15), none⟩])
 (.cond (.t 16) (.seq (.reg [⟨some 4, .mov (.k (.int .i64 (-1))), none⟩])
 .ret)
 .skip))
 (.seq (.seq (.reg [⟨some 17, .mov (.t 0), none⟩,
 ⟨some 18, .mov (.t 1), none⟩,
 ⟨some 19, .bin .gtr (.t 17) (.t 18), none⟩])
 (.cond (.t 19) (.seq (.reg [⟨some 4, .mov (.k (.int .i64 1)), none⟩])
 .ret)
 .skip))
 (.seq (.reg [⟨some 4, .mov (.k (.int .i64 0)), none⟩])
 .ret)))))))),
 [], false⟩

def a49 : AFunc := ⟨20, [.tmp 4],
 (.seq (.reg [⟨some 4, .mov (.k (.int .i64 0)), none⟩])
 (.seq (.reg [⟨some 7, .mov (.t 0), none⟩,
 ⟨some 8, .call (.k (.func (.func 73) [] [])) [(.t 7)], none⟩,
 ⟨some 5, .mov (.t 8), none⟩])
 (.seq (.reg [⟨some 9, .mov (.t 1), none⟩,
 ⟨some 10, .call (.k (.func (.func 73) [] [])) [(.t 9)], none⟩,
 ⟨some 6, .mov (.t 10), none⟩])
 (.seq (.seq (.reg [⟨some 11, .mov (.t 5), none⟩])
 (.cond (.t 11) (.seq (.seq (.reg [⟨some 12, .mov (.t 6), none⟩])
 (.cond (.t 12) (.seq (.reg [⟨some 4, .mov (.k (.int .i64 0)), none⟩])
 .ret)
 .skip))
 (.seq (.reg [⟨some 4, .mov (.k (.int .i64 (-1))), none⟩])
 .ret))
 .skip))
 (.seq (.seq (.reg [⟨some 13, .mov (.t 6), none⟩])
 (.cond (.t 13) (.seq (.reg [⟨some 4, .mov (.k (.int .i64 1)), none⟩])
 .ret)
 .skip))
 (.seq (.seq (.reg [⟨some 14, .mov (.t 0), none⟩,
 ⟨some 15, .mov (.t 1), none⟩,
 ⟨some 16, .bin .lss (.t 14) (.t 15), none⟩])
 (.cond (.t 16) (.seq (.reg [⟨some 4, .mov (.k (.int .i64 (-1))), none⟩])
 .ret)
 .skip))
 (.seq (.seq (.reg [⟨some 17, .mov (.t 0), none⟩,
 ⟨some 18, .mov (.t 1), none⟩,
 ⟨some 19, .bin .gtr (.t 17) (.t 18), none⟩])
 (.cond (.t 19) (.seq (.reg [⟨some 4, .mov (.k (.int .i64 1)), none⟩])
 .ret)
 .skip))
 (.seq (.reg [⟨some 4, .mov (.k (.int .i64 0)), none⟩])
 .ret)))))))),
 [], false⟩

def a50_0 : ACode := (.seq (.seq (.reg [⟨some 29, .mov (.t 5), none⟩,
 ⟨some 30, .mov (.t 4), none⟩,
 ⟨some 31, .lenSl (.t 30), none⟩,
 ⟨some 32, .bin .lss (.t 29) (.t 31), none⟩])
 (.cond (.t 32) .skip
 (.exit 2)))
 (.seq (.block 3 (.seq (.plan [⟨0, ⟨some 35, .mov (.t 4), none⟩, []⟩,
 ⟨1, ⟨some 36, .mov (.t 5), none⟩, []⟩,
 ⟨2, ⟨some 37, .indexAddr 2 true none (.t 35) (.t 36), none⟩, []⟩,
 ⟨3, ⟨some 38, .load 2 true (.t 37), none⟩, []⟩,
 ⟨4, ⟨some 39, .mov (.t 4), none⟩, []⟩,
 ⟨5, ⟨some 40, .mov (.t 5), none⟩, []⟩,
 ⟨6, ⟨some 41, .bin .sub (.t 40) (.k (.int .i64 1)), none⟩, []⟩,
 ⟨7, ⟨some 42, .indexAddr 2 true none (.t 39) (.t 41), none⟩, []⟩,
 ⟨8, ⟨some 43, .load 2 true (.t 42), none⟩, []⟩,
 ⟨9, ⟨some 44, .eqAgg [0, 0] true (.t 38) (.t 43), none⟩, []⟩])
 (.cond (.t 44) (.seq (.reg [⟨some 45, .mov (.t 0), none⟩,
 ⟨some 46, .mov (.t 3), none⟩,
 ⟨some 47, .mov (.t 4), none⟩,
 ⟨some 48, .mov (.t 5), none⟩,
 ⟨some 49, .indexAddr 2 true none (.t 47) (.t 48), none⟩,
 ⟨some 50, .load 2 true (.t 49), none⟩,
 ⟨some 51, .indexAddr 2 true none (.t 45) (.t 46), none⟩,
 ⟨none, .store 2 (.t 51) (.t 50), none⟩])
 (.reg [⟨some 52, .mov (.t 3), none⟩,
 ⟨some 53, .bin .add (.t 52) (.k (.int .i64 1)), none⟩,
 ⟨some 3, .mov (.t 53), none⟩]))
 .skip)))
 (.reg [⟨some 33, .mov (.t 5), none⟩,
 ⟨some 34, .bin .add (.t 33) (.k (.int .i64 1)), none⟩,
 ⟨some 5, .mov (.t 34), none⟩])))

def a50_1 : ACode := (.seq (.seq (.reg [⟨some 10, .mov (.t 3), none⟩,
 ⟨some 11, .mov (.t 0), none⟩,
 ⟨some 12, .lenSl (.t 11), none⟩,
 ⟨some 13, .bin .lss (.t 10) (.t 12), none⟩])
 (.cond (.t 13) .skip
 (.exit 0)))
 (.seq (.block 1 (.seq (.plan [⟨0, ⟨some 16, .mov (.t 0), none⟩, []⟩,
 ⟨1, ⟨some 17, .mov (.t 3), none⟩, []⟩,
 ⟨2, ⟨some 18, .indexAddr 2 true none (.t 16) (.t 17), none⟩, []⟩,
 ⟨3, ⟨some 19, .load 2 true (.t 18), none⟩, []⟩,
 ⟨4, ⟨some 20, .mov (.t 0), none⟩, []⟩,
 ⟨5, ⟨some 21, .mov (.t 3), none⟩, []⟩,
 ⟨6, ⟨some 22, .bin .sub (.t 21) (.k (.int .i64 1)), none⟩, []⟩,
 ⟨7, ⟨some 23, .indexAddr 2 true none (.t 20) (.t 22), none⟩, []⟩,
 ⟨8, ⟨some 24, .load 2 true (.t 23), none⟩, []⟩,
 ⟨9, ⟨some 25, .eqAgg [0, 0] false (.t 19) (.t 24), none⟩, []⟩])
 (.cond (.t 25) (.seq (.reg [⟨some 26, .mov (.t 0), none⟩,
 ⟨some 27, .mov (.t 3), none⟩,
 ⟨some 28, .sliceLst 2 (.t 26) (some (.t 27)) none none, none⟩,
 ⟨some 4, .mov (.t 28), none⟩])
 (.seq (.seq (.reg [⟨some 5, .mov (.k (.int .i64 1)), none⟩])
 (.block 2 (.loop a50_0)))
 (.seq (.reg [⟨some 54, .mov (.t 0), none⟩,
 ⟨some 55, .mov (.t 3), none⟩,
 ⟨some 56, .sliceLst 2 (.t 54) (some (.t 55)) none none, none⟩,
 ⟨none, .clearSl 2 [(.int .i64 0), (.int .i64 0)] (.t 56), none⟩])
 (.seq (.reg [⟨some 57, .mov (.t 0), none⟩,
 ⟨some 58, .mov (.t 3), none⟩,
 ⟨some 59, .sliceLst 2 (.t 57) none (some (.t 58)) none, none⟩,
 ⟨some 2, .mov (.t 59), none⟩])
 .ret))))
 .skip)))
 (.reg [⟨some 14, .mov (.t 3), none⟩,
 ⟨some 15, .bin .add (.t 14) (.k (.int .i64 1)), none⟩,
 ⟨some 3, .mov (.t 15), none⟩])))

def a50 : AFunc := ⟨61, [.tmp 2],
 (.seq (.reg [⟨some 2, .mov (.k (.lst 2 [] .tight)), none⟩])
 (.seq (.seq (.reg [⟨some 6, .mov (.t 0), none⟩,
 ⟨some 7, .lenSl (.t 6), none⟩,
 ⟨some 8, .bin .lss (.t 7) (.k (.int .i64 2)), none⟩])
 (.cond (.t 8) (.seq (.reg [⟨some 9, .mov (.t 0), none⟩,
 ⟨some 2, .mov (.t 9), none⟩])
 .ret)
 .skip))
 (.seq (.seq (.reg [⟨some 3, .mov (.k (.int .i64 1)), none⟩])
 (.block 0 (.loop a50_1)))
 (.seq (.reg [⟨some 60, .mov (.t 0), none⟩,
 ⟨some 2, .mov (.t 60), none⟩])
 .ret)))),
 [], false⟩

def a51_0 : ACode := (.seq (.seq (.reg [⟨some 49, .mov (.t 6), none⟩,
 ⟨some 50, .fieldAddr 3 1 false (.t 5), none⟩,
 ⟨some 51, .load 1 false (.t 50), none⟩,
 ⟨some 52, .lenSl (.t 51), none⟩,
 ⟨some 53, .bin .lss (.t 49) (.t 52), none⟩])
 (.cond (.t 53) .skip
 (.exit 4)))
 (.seq (.block 5 (.seq (.reg [⟨some 57, .fieldAddr 3 1 false (.t 5), none⟩,
 ⟨some 58, .load 1 false (.t 57), none⟩,
 ⟨some 59, .mov (.t 6), none⟩,
 ⟨some 60, .indexAddr 9 true none (.t 58) (.t 59), none⟩,
 ⟨some 61, .fieldAddr 0 1 false (.t 60), none⟩,
 ⟨some 62, .load 1 false (.t 61), none⟩,
 ⟨some 63, .call (.k (.func (.func 64) [] [])) [(.t 62)], none⟩,
 ⟨some 56, .mov (.t 63), none⟩,
 ⟨some 64, .extract (.t 56) 0, none⟩,
 ⟨some 65, .extract (.t 56) 1, none⟩,
 ⟨some 7, .mov (.t 64), none⟩,
 ⟨some 8, .mov (.t 65), none⟩])
 (.seq (.plan [⟨0, ⟨some 66, .load 2 true (.t 1), none⟩, []⟩,
 ⟨1, ⟨some 67, .fieldAddr 3 1 false (.t 5), none⟩, []⟩,
 ⟨2, ⟨some 68, .load 1 false (.t 67), none⟩, []⟩,
 ⟨3, ⟨some 69, .mov (.t 6), none⟩, []⟩,
 ⟨4, ⟨some 70, .indexAddr 9 true none (.t 68) (.t 69), none⟩, []⟩,
 ⟨5, ⟨some 71, .fieldAddr 3 1 false (.t 70), none⟩, []⟩,
 ⟨6, ⟨some 72, .load 1 false (.t 71), none⟩, []⟩,
 ⟨7, ⟨some 73, .mov (.t 7), none⟩, []⟩,
 ⟨8, ⟨some 74, .call (.k (.func (.func 75) [] [])) [(.t 66), (.t 72), (.t 73)], none⟩, []⟩,
 ⟨9, ⟨some 75, .un .not (.t 74), none⟩, []⟩,
 ⟨10, ⟨some 76, .mov (.t 75), none⟩, []⟩,
 ⟨11, ⟨some 77, .load 2 true (.t 1), some (76, false)⟩, []⟩,
 ⟨12, ⟨some 78, .fieldAddr 3 1 false (.t 5), some (76, false)⟩, []⟩,
 ⟨13, ⟨some 79, .load 1 false (.t 78), some (76, false)⟩, []⟩,
 ⟨14, ⟨some 80, .mov (.t 6), some (76, false)⟩, []⟩,
 ⟨15, ⟨some 81, .indexAddr 9 true none (.t 79) (.t 80), some (76, false)⟩, []⟩,
 ⟨16, ⟨some 82, .fieldAddr 4 1 false (.t 81), some (76, false)⟩, []⟩,
 ⟨17, ⟨some 83, .load 1 false (.t 82), some (76, false)⟩, []⟩,
 ⟨18, ⟨some 84, .mov (.t 8), some (76, false)⟩, []⟩,
 ⟨19, ⟨some 85, .call (.k (.func (.func 75) [] [])) [(.t 77), (.t 83), (.t 84)], some (76, false)⟩, []⟩,
 ⟨20, ⟨some 86, .un .not (.t 85), some (76, false)⟩, []⟩,
 ⟨21, ⟨some 87, .pick (.t 76) (.k (.bool true)) (.t 86), none⟩, []⟩])
 (.cond (.t 87) (.seq (.reg [⟨some 2, .mov (.k (.bool false)), none⟩])
 .ret)
 .skip))))
 (.reg [⟨some 54, .mov (.t 6), none⟩,
 ⟨some 55, .bin .add (.t 54) (.k (.int .i64 1)), none⟩,
 ⟨some 6, .mov (.t 55), none⟩])))

def a51_1 : ACode := (.seq (.seq (.reg [⟨some 24, .mov (.t 4), none⟩,
 ⟨some 25, .fieldAddr 0 1 false (.t 1), none⟩,
 ⟨some 26, .load 1 false (.t 25), none⟩,
 ⟨some 27, .lenSl (.t 26), none⟩,
 ⟨some 28, .bin .lss (.t 24) (.t 27), none⟩])
 (.cond (.t 28) .skip
 (.exit 2)))
 (.seq (.block 3 (.seq (.reg [⟨some 31, .fieldAddr 0 1 false (.t 1), none⟩,
 ⟨some 32, .load 1 false (.t 31), none⟩,
 ⟨some 33, .mov (.t 4), none⟩,
 ⟨some 34, .indexAddr 7 true none (.t 32) (.t 33), none⟩,
 ⟨some 35, .load 7 true (.t 34), none⟩,
 ⟨some 5, .new (.agg [(.int .i64 0), (.str []), (.lst 2 [] .tight), (.lst 9 [] .tight), (.int .i64 0), (.int .i64 0), (.int .i64 0)]) true none, none⟩,
 ⟨none, .store 7 (.t 5) (.t 35), none⟩])
 (.seq (.seq (.reg [⟨some 36, .load 2 true (.t 1), none⟩,
 ⟨some 37, .fieldAddr 5 1 false (.t 5), none⟩,
 ⟨some 38, .load 1 false (.t 37), none⟩,
 ⟨some 39, .fieldAddr 0 1 false (.t 5), none⟩,
 ⟨some 40, .load 1 false (.t 39), none⟩,
 ⟨some 41, .bin .eql (.t 40) (.k (.int .i64 1)), none⟩,
 ⟨some 42, .mov (.t 41), none⟩,
 ⟨some 43, .fieldAddr 0 1 false (.t 5), some (42, false)⟩,
 ⟨some 44, .load 1 false (.t 43), some (42, false)⟩,
 ⟨some 45, .bin .eql (.t 44) (.k (.int .i64 2)), some (42, false)⟩,
 ⟨some 46, .pick (.t 42) (.k (.bool true)) (.t 45), none⟩,
 ⟨some 47, .call (.k (.func (.func 75) [] [])) [(.t 36), (.t 38), (.t 46)], none⟩,
 ⟨some 48, .un .not (.t 47), none⟩])
 (.cond (.t 48) (.seq (.reg [⟨some 2, .mov (.k (.bool false)), none⟩])
 .ret)
 .skip))
 (.seq (.reg [⟨some 6, .mov (.k (.int .i64 0)), none⟩])
 (.block 4 (.loop a51_0))))))
 (.reg [⟨some 29, .mov (.t 4), none⟩,
 ⟨some 30, .bin .add (.t 29) (.k (.int .i64 1)), none⟩,
 ⟨some 4, .mov (.t 30), none⟩])))

def a51_2 : ACode := (.seq (.seq (.reg [⟨some 9, .mov (.t 3), none⟩,
 ⟨some 10, .fieldAddr 1 1 false (.t 1), none⟩,
 ⟨some 11, .load 1 false (.t 10), none⟩,
 ⟨some 12, .lenSl (.t 11), none⟩,
 ⟨some 13, .bin .lss (.t 9) (.t 12), none⟩])
 (.cond (.t 13) .skip
 (.exit 0)))
 (.seq (.block 1 (.seq (.reg [⟨some 16, .fieldAddr 1 1 false (.t 1), none⟩,
 ⟨some 17, .load 1 false (.t 16), none⟩,
 ⟨some 18, .mov (.t 3), none⟩,
 ⟨some 19, .indexAddr 9 true none (.t 17) (.t 18), none⟩,
 ⟨some 20, .load 9 true (.t 19), none⟩,
 ⟨some 21, .mov (.t 3), none⟩,
 ⟨some 22, .call (.k (.func (.func 74) [] [])) [(.t 20), (.t 21)], none⟩,
 ⟨some 23, .un .not (.t 22), none⟩])
 (.cond (.t 23) (.seq (.reg [⟨some 2, .mov (.k (.bool false)), none⟩])
 .ret)
 .skip)))
 (.reg [⟨some 14, .mov (.t 3), none⟩,
 ⟨some 15, .bin .add (.t 14) (.k (.int .i64 1)), none⟩,
 ⟨some 3, .mov (.t 15), none⟩])))

def a51 : AFunc := ⟨88, [.tmp 2],
 (.seq (.reg [⟨some 1, .box 2 (.t 0) false, none⟩,
 ⟨some 2, .mov (.k (.bool false)), none⟩])
 (.seq (.seq (.reg [⟨some 3, .mov (.k (.int .i64 0)), none⟩])
 (.block 0 (.loop a51_2)))
 (.seq (.seq (.reg [⟨some 4, .mov (.k (.int .i64 0)), none⟩])
 (.block 2 (.loop a51_1)))
 (.seq (.reg [⟨some 2, .mov (.k (.bool true)), none⟩])
 .ret)))),
 [], false⟩

def a52 : AFunc := ⟨16, [.tmp 2],
 (.seq (.reg [⟨some 1, .box 2 (.t 0) false, none⟩,
 ⟨some 2, .mov (.k (.bool false)), none⟩])
 (.seq (.reg [⟨some 3, .new .nilFunc true none, none⟩,
 ⟨none, .store 1 (.t 3) (.k (.func (.func 76) [] [])), none⟩])
 (.seq (.reg [⟨some 4, .new .nilFunc true none, none⟩,
 ⟨none, .store 1 (.t 4) (.k (.func (.func 77) [] [])), none⟩])
 (.seq (.reg [⟨some 6, .mkFunc 78 [] [(.t 3), (.t 4)], none⟩,
 ⟨some 5, .mov (.t 6), none⟩])
 (.seq (.reg [⟨some 7, .load 2 true (.t 1), none⟩,
 ⟨some 8, .call (.k (.func (.func 80) [] [])) [(.t 7)], none⟩,
 ⟨some 9, .mov (.t 8), none⟩,
 ⟨some 10, .fieldAddr 0 1 false (.t 1), some (9, true)⟩,
 ⟨some 11, .load 1 false (.t 10), some (9, true)⟩,
 ⟨some 12, .mov (.t 5), some (9, true)⟩,
 ⟨some 13, .call (.k (.func (.func 81) [] [])) [(.t 11), (.t 12)], some (9, true)⟩,
 ⟨some 14, .un .not (.t 13), some (9, true)⟩,
 ⟨some 15, .pick (.t 9) (.t 14) (.k (.bool false)), none⟩,
 ⟨some 2, .mov (.t 15), none⟩])
 .ret))))),
 [], false⟩

def a53 : AFunc := ⟨4, [.tmp 2],
 (.seq (.reg [⟨some 1, .box 2 (.t 0) false, none⟩,
 ⟨some 2, .mov (.k .nilFunc), none⟩])
 (.seq (.reg [⟨some 3, .mkFunc 82 [] [(.t 1)], none⟩,
 ⟨some 2, .mov (.t 3), none⟩])
 .ret)),
 [], false⟩

def a54_0 : ACode := (.seq (.seq (.reg [⟨some 31, .mov (.t 10), none⟩,
 ⟨some 32, .mov (.t 9), none⟩,
 ⟨some 33, .lenSl (.t 32), none⟩,
 ⟨some 34, .bin .lss (.t 31) (.t 33), none⟩])
 (.cond (.t 34) .skip
 (.exit 0)))
 (.seq (.block 1 (.seq (.reg [⟨some 37, .mov (.t 9), none⟩,
 ⟨some 38, .mov (.t 10), none⟩,
 ⟨some 39, .indexAddr 1 false none (.t 37) (.t 38), none⟩,
 ⟨some 40, .load 1 false (.t 39), none⟩,
 ⟨some 41, .mov (.t 2), none⟩,
 ⟨some 42, .bin .eql (.t 40) (.t 41), none⟩])
 (.cond (.t 42) (.seq (.reg [⟨some 6, .mov (.k (.bool true)), none⟩])
 .ret)
 .skip)))
 (.reg [⟨some 35, .mov (.t 10), none⟩,
 ⟨some 36, .bin .add (.t 35) (.k (.int .i64 1)), none⟩,
 ⟨some 10, .mov (.t 36), none⟩])))

def a54 : AFunc := ⟨43, [.tmp 6],
 (.seq (.reg [⟨some 3, .box 7 (.t 0) false, none⟩,
 ⟨some 6, .mov (.k (.bool false)), none⟩])
 (.seq (.reg [⟨some 12, .load 7 true (.t 3), none⟩,
 ⟨some 13, .mov (.t 1), none⟩,
 ⟨some 14, .call (.k (.func (.func 32) [] [])) [(.t 12), (.t 13)], none⟩,
 ⟨some 11, .mov (.t 14), none⟩,
 ⟨some 15, .extract (.t 11) 0, none⟩,
 ⟨some 16, .extract (.t 11) 1, none⟩,
 ⟨some 7, .new (.agg [(.str []), (.int .i64 0), (.int .i64 0), (.int .i64 0)]) true none, none⟩,
 ⟨none, .store 4 (.t 7) (.t 15), none⟩,
 ⟨some 8, .mov (.t 16), none⟩])
 (.seq (.seq (.reg [⟨some 17, .mov (.t 8), none⟩,
 ⟨some 18, .un .not (.t 17), none⟩,
 ⟨some 19, .mov (.t 18), none⟩,
 ⟨some 20, .fieldAddr 1 1 false (.t 7), some (19, false)⟩,
 ⟨some 21, .load 1 false (.t 20), some (19, false)⟩,
 ⟨some 22, .bin .neq (.t 21) (.k (.int .i64 5)), some (19, false)⟩,
 ⟨some 23, .pick (.t 19) (.k (.bool true)) (.t 22), none⟩])
 (.cond (.t 23) (.seq (.reg [⟨some 6, .mov (.k (.bool false)), none⟩])
 .ret)
 .skip))
 (.seq (.reg [⟨some 24, .fieldAddr 3 1 false (.t 3), none⟩,
 ⟨some 25, .load 1 false (.t 24), none⟩,
 ⟨some 26, .fieldAddr 3 1 false (.t 7), none⟩,
 ⟨some 27, .load 1 false (.t 26), none⟩,
 ⟨some 28, .indexAddr 9 true none (.t 25) (.t 27), none⟩,
 ⟨some 29, .fieldAddr 5 1 false (.t 28), none⟩,
 ⟨some 30, .load 1 false (.t 29), none⟩,
 ⟨some 9, .mov (.t 30), none⟩])
 (.seq (.seq (.reg [⟨some 10, .mov (.k (.int .i64 0)), none⟩])
 (.block 0 (.loop a54_0)))
 (.seq (.reg [⟨some 6, .mov (.k (.bool false)), none⟩])
 .ret)))))),
 [], false⟩

def a55_0 : ACode := (.seq (.seq (.reg [⟨some 14, .mov (.t 5), none⟩,
 ⟨some 15, .mov (.t 0), none⟩,
 ⟨some 16, .lenStr (.t 15), none⟩,
 ⟨some 17, .bin .lss (.t 14) (.t 16), none⟩])
 (.cond (.t 17) .skip
 (.exit 0)))
 (.block 1 (.seq (.reg [⟨some 19, .mov (.t 0), none⟩,
 ⟨some 20, .mov (.t 5), none⟩,
 ⟨some 21, .call (.k (.func (.func 86) [] [])) [(.t 19), (.t 20)], none⟩,
 ⟨some 18, .mov (.t 21), none⟩,
 ⟨some 22, .extract (.t 18) 0, none⟩,
 ⟨some 23, .extract (.t 18) 1, none⟩,
 ⟨some 6, .new (.agg [(.int .i64 0), (.str []), (.int .i64 0), (.int .i64 0)]) true none, none⟩,
 ⟨none, .store 4 (.t 6) (.t 22), none⟩,
 ⟨some 7, .mov (.t 23), none⟩])
 (.seq (.seq (.reg [⟨some 24, .mov (.t 7), none⟩,
 ⟨some 25, .un .not (.t 24), none⟩])
 (.cond (.t 25) (.seq (.reg [⟨some 26, .mov (.t 5), none⟩,
 ⟨some 27, .build [(.int .i64 0), (.int .i64 0)] [(0, 1, (.k (.int .i64 1))), (1, 1, (.t 26))], none⟩,
 ⟨some 2, .mov (.k (.lst 4 [] .tight)), none⟩,
 ⟨none, .store 2 (.t 3) (.t 27), none⟩])
 .ret)
 .skip))
 (.seq (.reg [⟨some 28, .mov (.t 4), none⟩,
 ⟨some 29, .load 4 true (.t 6), none⟩,
 ⟨some 30, .mkLit 4 [(.int .i64 0), (.str []), (.int .i64 0), (.int .i64 0)] [(0, 4, (.t 29))] false, none⟩,
 ⟨some 31, .append 4 40 (some 87) (.t 28) (.t 30), none⟩,
 ⟨some 4, .mov (.t 31), none⟩])
 (.reg [⟨some 32, .mov (.t 0), none⟩,
 ⟨some 33, .mov (.t 5), none⟩,
 ⟨some 34, .fieldAddr 1 1 false (.t 6), none⟩,
 ⟨some 35, .load 1 false (.t 34), none⟩,
 ⟨some 36, .lenStr (.t 35), none⟩,
 ⟨some 37, .bin .add (.t 33) (.t 36), none⟩,
 ⟨some 38, .call (.k (.func (.func 85) [] [])) [(.t 32), (.t 37)], none⟩,
 ⟨some 5, .mov (.t 38), none⟩]))))))

def a55 : AFunc := ⟨46, [.tmp 2, .cell 3 2 true],
 (.seq (.reg [⟨some 2, .mov (.k (.lst 4 [] .tight)), none⟩,
 ⟨some 3, .new (.agg [(.int .i64 0), (.int .i64 0)]) true none, none⟩])
 (.seq (.seq (.reg [⟨some 8, .mov (.t 0), none⟩,
 ⟨some 9, .lenStr (.t 8), none⟩,
 ⟨some 10, .bin .gtr (.t 9) (.k (.int .i64 20000)), none⟩])
 (.cond (.t 10) (.seq (.reg [⟨some 11, .build [(.int .i64 0), (.int .i64 0)] [(0, 1, (.k (.int .i64 10)))], none⟩,
 ⟨some 2, .mov (.k (.lst 4 [] .tight)), none⟩,
 ⟨none, .store 2 (.t 3) (.t 11), none⟩])
 .ret)
 .skip))
 (.seq (.reg [⟨some 4, .mov (.k (.lst 4 [] .tight)), none⟩])
 (.seq (.reg [⟨some 12, .mov (.t 0), none⟩,
 ⟨some 13, .call (.k (.func (.func 85) [] [])) [(.t 12), (.k (.int .i64 0))], none⟩,
 ⟨some 5, .mov (.t 13), none⟩])
 (.seq (.block 0 (.loop a55_0))
 (.seq (.reg [⟨some 39, .mov (.t 4), none⟩,
 ⟨some 40, .mov (.t 0), none⟩,
 ⟨some 41, .lenStr (.t 40), none⟩,
 ⟨some 42, .build [(.int .i64 0), (.str []), (.int .i64 0), (.int .i64 0)] [(0, 1, (.k (.int .i64 5))), (3, 1, (.t 41))], none⟩,
 ⟨some 43, .mkLit 4 [(.int .i64 0), (.str []), (.int .i64 0), (.int .i64 0)] [(0, 4, (.t 42))] false, none⟩,
 ⟨some 44, .append 4 40 (some 87) (.t 39) (.t 43), none⟩,
 ⟨some 45, .build [(.int .i64 0), (.int .i64 0)] [], none⟩,
 ⟨some 2, .mov (.t 44), none⟩,
 ⟨none, .store 2 (.t 3) (.t 45), none⟩])
 .ret)))))),
 [], false⟩

def a56 : AFunc := ⟨80, [.tmp 2],
 (.seq (.reg [⟨some 2, .mov (.k (.int .i64 0)), none⟩])
 (.seq (.reg [⟨some 3, .mov (.k (.int .i64 0)), none⟩])
 (.seq (.seq (.reg [⟨some 10, .mov (.t 0), none⟩,
 ⟨some 11, .call (.k (.func (.func 87) [] [])) [(.t 10)], none⟩])
 (.cond (.t 11) (.seq (.plan [⟨0, ⟨some 12, .mov (.t 0), none⟩, []⟩,
 ⟨1, ⟨some 13, .nilCheck (.t 12), none⟩, []⟩,
 ⟨2, ⟨some 14, .fieldAddr 0 1 false (.t 13), none⟩, []⟩,
 ⟨3, ⟨some 15, .load 1 false (.t 14), none⟩, []⟩,
 ⟨4, ⟨some 16, .mov (.t 0), none⟩, []⟩,
 ⟨5, ⟨some 17, .nilCheck (.t 16), none⟩, []⟩,
 ⟨6, ⟨some 18, .fieldAddr 1 1 false (.t 17), none⟩, []⟩,
 ⟨7, ⟨some 19, .load 1 false (.t 18), none⟩, []⟩,
 ⟨8, ⟨some 20, .indexAddr 4 true none (.t 15) (.t 19), none⟩, []⟩,
 ⟨9, ⟨some 21, .fieldAddr 3 1 false (.t 20), none⟩, []⟩,
 ⟨10, ⟨some 22, .load 1 false (.t 21), none⟩, []⟩,
 ⟨11, ⟨some 4, .mov (.t 22), none⟩, []⟩])
 (.seq (.reg [⟨some 23, .mov (.t 0), none⟩,
 ⟨some 24, .call (.k (.func (.func 88) [] [])) [(.t 23), (.k (.str [105, 102]))], none⟩])
 (.cond (.t 24) (.seq (.reg [⟨some 25, .mov (.t 0), none⟩,
 ⟨some 26, .call (.k (.func (.func 56) [] [])) [(.t 25)], none⟩,
 ⟨some 5, .mov (.t 26), none⟩])
 (.seq (.reg [⟨some 27, .mov (.t 0), none⟩,
 ⟨some 28, .call (.k (.func (.func 89) [] [])) [(.t 27), (.k (.str [116, 104, 101, 110]))], none⟩])
 (.seq (.reg [⟨some 29, .mov (.t 0), none⟩,
 ⟨some 30, .call (.k (.func (.func 56) [] [])) [(.t 29)], none⟩,
 ⟨some 6, .mov (.t 30), none⟩])
 (.seq (.reg [⟨some 31, .mov (.t 0), none⟩,
 ⟨some 32, .call (.k (.func (.func 89) [] [])) [(.t 31), (.k (.str [101, 108, 115, 101]))], none⟩])
 (.seq (.reg [⟨some 33, .mov (.t 0), none⟩,
 ⟨some 34, .call (.k (.func (.func 56) [] [])) [(.t 33)], none⟩,
 ⟨some 7, .mov (.t 34), none⟩])
 (.reg [⟨some 35, .mov (.t 0), none⟩,
 ⟨some 36, .mov (.t 5), none⟩,
 ⟨some 37, .mov (.t 6), none⟩,
 ⟨some 38, .mov (.t 7), none⟩,
 ⟨some 39, .mov (.t 4), none⟩,
 ⟨some 40, .build [(.int .i64 0), (.int .i64 0), (.int .i64 0), (.int .i64 0), (.str []), (.str []), (.int .i64 0), (.lst 1 [] .tight), (.int .i64 0)] [(0, 1, (.k (.int .i64 15))), (1, 1, (.t 36)), (2, 1, (.t 37)), (3, 1, (.t 38)), (8, 1, (.t 39))], none⟩,
 ⟨some 41, .call (.k (.func (.func 90) [] [])) [(.t 35), (.t 40)], none⟩,
 ⟨some 3, .mov (.t 41), none⟩]))))))
 (.seq (.reg [⟨some 42, .mov (.t 0), none⟩,
 ⟨some 43, .call (.k (.func (.func 91) [] [])) [(.t 42), (.k (.int .i64 1))], none⟩,
 ⟨some 3, .mov (.t 43), none⟩])
 (.seq (.plan [⟨0, ⟨some 44, .mov (.t 0), none⟩, []⟩,
 ⟨1, ⟨some 45, .nilCheck (.t 44), none⟩, []⟩,
 ⟨2, ⟨some 46, .fieldAddr 0 1 false (.t 45), none⟩, []⟩,
 ⟨3, ⟨some 47, .load 1 false (.t 46), none⟩, []⟩,
 ⟨4, ⟨some 48, .mov (.t 0), none⟩, []⟩,
 ⟨5, ⟨some 49, .nilCheck (.t 48), none⟩, []⟩,
 ⟨6, ⟨some 50, .fieldAddr 1 1 false (.t 49), none⟩, []⟩,
 ⟨7, ⟨some 51, .load 1 false (.t 50), none⟩, []⟩,
 ⟨8, ⟨some 52, .indexAddr 4 true none (.t 47) (.t 51), none⟩, []⟩,
 ⟨9, ⟨some 53, .fieldAddr 3 1 false (.t 52), none⟩, []⟩,
 ⟨10, ⟨some 54, .load 1 false (.t 53), none⟩, []⟩,
 ⟨11, ⟨some 4, .mov (.t 54), none⟩, []⟩])
 (.seq (.reg [⟨some 8, .mov (.k (.int .i64 17)), none⟩])
 (.seq (.seq (.reg [⟨some 55, .mov (.t 0), none⟩,
 ⟨some 56, .call (.k (.func (.func 92) [] [])) [(.t 55), (.k (.str [102, 98, 121]))], none⟩])
 (.cond (.t 56) (.reg [⟨some 8, .mov (.k (.int .i64 18)), none⟩])
 .skip))
 (.seq (.reg [⟨some 57, .mov (.t 0), none⟩,
 ⟨some 58, .call (.k (.func (.func 88) [] [])) [(.t 57), (.k (.str [45, 62]))], none⟩,
 ⟨some 59, .mov (.t 58), none⟩,
 ⟨some 60, .mov (.t 0), some (59, false)⟩,
 ⟨some 61, .call (.k (.func (.func 88) [] [])) [(.t 60), (.k (.str [102, 98, 121]))], some (59, false)⟩,
 ⟨some 62, .pick (.t 59) (.k (.bool true)) (.t 61), none⟩])
 (.cond (.t 62) (.seq (.reg [⟨some 63, .mov (.t 0), none⟩,
 ⟨some 64, .call (.k (.func (.func 56) [] [])) [(.t 63)], none⟩,
 ⟨some 9, .mov (.t 64), none⟩])
 (.reg [⟨some 65, .mov (.t 0), none⟩,
 ⟨some 66, .mov (.t 8), none⟩,
 ⟨some 67, .mov (.t 3), none⟩,
 ⟨some 68, .mov (.t 9), none⟩,
 ⟨some 69, .mov (.t 4), none⟩,
 ⟨some 70, .build [(.int .i64 0), (.int .i64 0), (.int .i64 0), (.int .i64 0), (.str []), (.str []), (.int .i64 0), (.lst 1 [] .tight), (.int .i64 0)] [(0, 1, (.t 66)), (1, 1, (.t 67)), (2, 1, (.t 68)), (8, 1, (.t 69))], none⟩,
 ⟨some 71, .call (.k (.func (.func 90) [] [])) [(.t 65), (.t 70)], none⟩,
 ⟨some 3, .mov (.t 71), none⟩]))
 .skip)))))))))
 .skip))
 (.seq (.reg [⟨some 72, .mov (.t 0), none⟩,
 ⟨some 73, .nilCheck (.t 72), none⟩,
 ⟨some 74, .fieldAddr 4 1 false (.t 73), none⟩,
 ⟨some 75, .load 1 false (.t 74), none⟩,
 ⟨some 76, .bin .sub (.t 75) (.k (.int .i64 1)), none⟩,
 ⟨some 77, .nilCheck (.t 72), none⟩,
 ⟨some 78, .fieldAddr 4 1 false (.t 77), none⟩,
 ⟨none, .store 1 (.t 78) (.t 76), none⟩])
 (.seq (.reg [⟨some 79, .mov (.t 3), none⟩,
 ⟨some 2, .mov (.t 79), none⟩])
 .ret))))),
 [], true⟩

def a57 : AFunc := ⟨73, [.cell 2 7 true],
 (.seq (.reg [⟨some 2, .new (.agg [(.int .i64 0), (.str []), (.lst 2 [] .tight), (.lst 9 [] .tight), (.int .i64 0), (.int .i64 0), (.int .i64 0)]) true none, none⟩])
 (.seq (.reg [⟨some 3, .new (.agg [(.int .i64 0), (.str []), (.lst 2 [] .tight), (.lst 9 [] .tight), (.int .i64 0), (.int .i64 0), (.int .i64 0)]) true none, none⟩])
 (.seq (.plan [⟨0, ⟨some 4, .mov (.t 0), none⟩, []⟩,
 ⟨1, ⟨some 5, .nilCheck (.t 4), none⟩, []⟩,
 ⟨2, ⟨some 6, .fieldAddr 0 1 false (.t 5), none⟩, []⟩,
 ⟨3, ⟨some 7, .load 1 false (.t 6), none⟩, []⟩,
 ⟨4, ⟨some 8, .mov (.t 0), none⟩, []⟩,
 ⟨5, ⟨some 9, .nilCheck (.t 8), none⟩, []⟩,
 ⟨6, ⟨some 10, .fieldAddr 1 1 false (.t 9), none⟩, []⟩,
 ⟨7, ⟨some 11, .load 1 false (.t 10), none⟩, []⟩,
 ⟨8, ⟨some 12, .indexAddr 4 true none (.t 7) (.t 11), none⟩, []⟩,
 ⟨9, ⟨some 13, .fieldAddr 3 1 false (.t 12), none⟩, []⟩,
 ⟨10, ⟨some 14, .load 1 false (.t 13), none⟩, []⟩,
 ⟨11, ⟨some 15, .fieldAddr 6 1 false (.t 3), none⟩, []⟩,
 ⟨12, ⟨none, .store 1 (.t 15) (.t 14), none⟩, []⟩])
 (.seq (.seq (.reg [⟨some 16, .mov (.t 0), none⟩,
 ⟨some 17, .call (.k (.func (.func 88) [] [])) [(.t 16), (.k (.str [102, 117, 110]))], none⟩])
 (.cond (.t 17) (.reg [⟨some 18, .fieldAddr 0 1 false (.t 3), none⟩,
 ⟨none, .store 1 (.t 18) (.k (.int .i64 1)), none⟩])
 (.seq (.reg [⟨some 19, .mov (.t 0), none⟩,
 ⟨some 20, .call (.k (.func (.func 88) [] [])) [(.t 19), (.k (.str [110, 111, 100, 101]))], none⟩])
 (.cond (.t 20) (.reg [⟨some 21, .fieldAddr 0 1 false (.t 3), none⟩,
 ⟨none, .store 1 (.t 21) (.k (.int .i64 2)), none⟩])
 (.seq (.reg [⟨some 22, .fieldAddr 0 1 false (.t 3), none⟩,
 ⟨none, .store 1 (.t 22) (.k (.int .i64 3)), none⟩])
 (.reg [⟨some 23, .mov (.t 0), none⟩,
 ⟨some 24, .call (.k (.func (.func 89) [] [])) [(.t 23), (.k (.str [104, 121, 98, 114, 105, 100]))], none⟩]))))))
 (.seq (.reg [⟨some 25, .mov (.t 0), none⟩,
 ⟨some 26, .call (.k (.func (.func 93) [] [])) [(.t 25)], none⟩,
 ⟨some 27, .fieldAddr 1 1 false (.t 3), none⟩,
 ⟨none, .store 1 (.t 27) (.t 26), none⟩])
 (.seq (.reg [⟨some 28, .mov (.t 0), none⟩,
 ⟨some 29, .call (.k (.func (.func 94) [] [])) [(.t 28)], none⟩,
 ⟨some 30, .fieldAddr 2 1 false (.t 3), none⟩,
 ⟨none, .store 1 (.t 30) (.t 29), none⟩])
 (.seq (.seq (.reg [⟨some 31, .fieldAddr 0 1 false (.t 3), none⟩,
 ⟨some 32, .load 1 false (.t 31), none⟩,
 ⟨some 33, .bin .eql (.t 32) (.k (.int .i64 3)), none⟩])
 (.cond (.t 33) (.seq (.reg [⟨some 34, .mov (.t 0), none⟩,
 ⟨some 35, .call (.k (.func (.func 89) [] [])) [(.t 34), (.k (.str [123]))], none⟩])
 (.seq (.reg [⟨some 36, .mov (.t 0), none⟩,
 ⟨some 37, .call (.k (.func (.func 95) [] [])) [(.t 36), (.k (.bool true))], none⟩,
 ⟨some 38, .fieldAddr 3 1 false (.t 3), none⟩,
 ⟨none, .store 1 (.t 38) (.t 37), none⟩])
 (.seq (.reg [⟨some 39, .mov (.t 0), none⟩,
 ⟨some 40, .call (.k (.func (.func 89) [] [])) [(.t 39), (.k (.str [125]))], none⟩])
 (.seq (.reg [⟨some 41, .load 7 true (.t 3), none⟩,
 ⟨none, .store 7 (.t 2) (.t 41), none⟩])
 .ret))))
 .skip))
 (.seq (.reg [⟨some 42, .mov (.t 0), none⟩,
 ⟨some 43, .call (.k (.func (.func 89) [] [])) [(.t 42), (.k (.str [58]))], none⟩])
 (.seq (.reg [⟨some 44, .mov (.t 0), none⟩,
 ⟨some 45, .call (.k (.func (.func 96) [] [])) [(.t 44)], none⟩,
 ⟨some 46, .fieldAddr 4 1 false (.t 3), none⟩,
 ⟨none, .store 1 (.t 46) (.t 45), none⟩])
 (.seq (.seq (.reg [⟨some 47, .fieldAddr 0 1 false (.t 3), none⟩,
 ⟨some 48, .load 1 false (.t 47), none⟩,
 ⟨some 49, .bin .eql (.t 48) (.k (.int .i64 1)), none⟩])
 (.cond (.t 49) (.seq (.reg [⟨some 50, .mov (.t 0), none⟩,
 ⟨some 51, .call (.k (.func (.func 89) [] [])) [(.t 50), (.k (.str [61]))], none⟩])
 (.seq (.reg [⟨some 52, .mov (.t 0), none⟩,
 ⟨some 53, .call (.k (.func (.func 56) [] [])) [(.t 52)], none⟩,
 ⟨some 54, .fieldAddr 5 1 false (.t 3), none⟩,
 ⟨none, .store 1 (.t 54) (.t 53), none⟩])
 (.seq (.reg [⟨some 55, .mov (.t 0), none⟩,
 ⟨some 56, .call (.k (.func (.func 89) [] [])) [(.t 55), (.k (.str [59]))], none⟩])
 (.seq (.reg [⟨some 57, .load 7 true (.t 3), none⟩,
 ⟨none, .store 7 (.t 2) (.t 57), none⟩])
 .ret))))
 .skip))
 (.seq (.reg [⟨some 58, .mov (.t 0), none⟩,
 ⟨some 59, .call (.k (.func (.func 89) [] [])) [(.t 58), (.k (.str [123]))], none⟩])
 (.seq (.reg [⟨some 60, .mov (.t 0), none⟩,
 ⟨some 61, .call (.k (.func (.func 95) [] [])) [(.t 60), (.k (.bool false))], none⟩,
 ⟨some 62, .fieldAddr 3 1 false (.t 3), none⟩,
 ⟨none, .store 1 (.t 62) (.t 61), none⟩])
 (.seq (.reg [⟨some 63, .mov (.t 0), none⟩,
 ⟨some 64, .call (.k (.func (.func 89) [] [])) [(.t 63), (.k (.str [114, 101, 116, 117, 114, 110]))], none⟩])
 (.seq (.reg [⟨some 65, .mov (.t 0), none⟩,
 ⟨some 66, .call (.k (.func (.func 56) [] [])) [(.t 65)], none⟩,
 ⟨some 67, .fieldAddr 5 1 false (.t 3), none⟩,
 ⟨none, .store 1 (.t 67) (.t 66), none⟩])
 (.seq (.reg [⟨some 68, .mov (.t 0), none⟩,
 ⟨some 69, .call (.k (.func (.func 89) [] [])) [(.t 68), (.k (.str [59]))], none⟩])
 (.seq (.reg [⟨some 70, .mov (.t 0), none⟩,
 ⟨some 71, .call (.k (.func (.func 89) [] [])) [(.t 70), (.k (.str [125]))], none⟩])
 (.seq (.reg [⟨some 72, .load 7 true (.t 3), none⟩,
 ⟨none, .store 7 (.t 2) (.t 72), none⟩])
 .ret))))))))))))))))),
 [], true⟩

def a58 : AFunc := ⟨26, [],
 (.seq (.reg [⟨some 4, .mov (.t 0), none⟩,
 ⟨some 5, .nilCheck (.t 4), none⟩,
 ⟨some 6, .fieldAddr 5 2 true (.t 5), none⟩,
 ⟨some 7, .fieldAddr 0 1 false (.t 6), none⟩,
 ⟨some 8, .load 1 false (.t 7), none⟩,
 ⟨some 9, .bin .eql (.t 8) (.k (.int .i64 0)), none⟩])
 (.cond (.t 9) (.plan [⟨0, ⟨some 10, .mov (.t 0), none⟩, []⟩,
 ⟨1, ⟨some 11, .mov (.t 1), none⟩, []⟩,
 ⟨2, ⟨some 12, .mov (.t 0), none⟩, []⟩,
 ⟨3, ⟨some 13, .nilCheck (.t 12), none⟩, []⟩,
 ⟨4, ⟨some 14, .fieldAddr 0 1 false (.t 13), none⟩, []⟩,
 ⟨5, ⟨some 15, .load 1 false (.t 14), none⟩, []⟩,
 ⟨6, ⟨some 16, .mov (.t 0), none⟩, []⟩,
 ⟨7, ⟨some 17, .nilCheck (.t 16), none⟩, []⟩,
 ⟨8, ⟨some 18, .fieldAddr 1 1 false (.t 17), none⟩, []⟩,
 ⟨9, ⟨some 19, .load 1 false (.t 18), none⟩, []⟩,
 ⟨10, ⟨some 20, .indexAddr 4 true none (.t 15) (.t 19), none⟩, []⟩,
 ⟨11, ⟨some 21, .fieldAddr 3 1 false (.t 20), none⟩, []⟩,
 ⟨12, ⟨some 22, .load 1 false (.t 21), none⟩, []⟩,
 ⟨13, ⟨some 23, .build [(.int .i64 0), (.int .i64 0)] [(0, 1, (.t 11)), (1, 1, (.t 22))], none⟩, []⟩,
 ⟨14, ⟨some 24, .nilCheck (.t 10), none⟩, []⟩,
 ⟨15, ⟨some 25, .fieldAddr 5 2 true (.t 24), none⟩, []⟩,
 ⟨16, ⟨none, .store 2 (.t 25) (.t 23), none⟩, []⟩])
 .skip)),
 [], true⟩

def a59 : AFunc := ⟨18, [.tmp 4],
 (.seq (.reg [⟨some 2, .box 2 (.t 0) false, none⟩,
 ⟨some 4, .mov (.k (.bool false)), none⟩])
 (.seq (.reg [⟨some 5, .mov (.t 1), none⟩,
 ⟨some 6, .bin .geq (.t 5) (.k (.int .i64 0)), none⟩,
 ⟨some 7, .mov (.t 6), none⟩,
 ⟨some 8, .mov (.t 1), some (7, true)⟩,
 ⟨some 9, .fieldAddr 0 1 false (.t 2), some (7, true)⟩,
 ⟨some 10, .load 1 false (.t 9), some (7, true)⟩,
 ⟨some 11, .lenSl (.t 10), some (7, true)⟩,
 ⟨some 12, .bin .lss (.t 8) (.t 11), some (7, true)⟩,
 ⟨some 13, .pick (.t 7) (.t 12) (.k (.bool false)), none⟩,
 ⟨some 14, .mov (.t 13), none⟩,
 ⟨some 15, .load 2 true (.t 2), some (14, true)⟩,
 ⟨some 16, .call (.k (.func (.func 52) [] [])) [(.t 15)], some (14, true)⟩,
 ⟨some 17, .pick (.t 14) (.t 16) (.k (.bool false)), none⟩,
 ⟨some 4, .mov (.t 17), none⟩])
 .ret)),
 [], false⟩

def a60_0 : ACode := (.seq (.reg [⟨some 32, .bin .lss (.t 31) (.t 30), none⟩])
 (.seq (.cond (.t 32) .skip
 (.exit 2))
 (.seq (.block 3 (.seq (.reg [⟨some 33, .mov (.t 31), none⟩,
 ⟨some 34, .indexAddr 9 true none (.t 29) (.t 31), none⟩,
 ⟨some 35, .load 9 true (.t 34), none⟩,
 ⟨some 7, .new (.agg [(.int .i64 0), (.str []), (.int .i64 0), (.int .i64 0), (.int .i64 0), (.lst 1 [] .tight), (.str []), (.str []), (.int .i64 0)]) true none, none⟩,
 ⟨some 6, .mov (.t 33), none⟩,
 ⟨none, .store 9 (.t 7) (.t 35), none⟩])
 (.seq (.reg [⟨some 37, .load 9 true (.t 7), none⟩,
 ⟨some 38, .call (.k (.func (.func 97) [] [])) [(.t 37)], none⟩,
 ⟨some 36, .mov (.t 38), none⟩,
 ⟨some 39, .extract (.t 36) 0, none⟩,
 ⟨some 40, .extract (.t 36) 1, none⟩,
 ⟨some 8, .new (.agg [(.str []), (.int .i64 0), (.int .i64 0), (.int .i64 0)]) true none, none⟩,
 ⟨none, .store 4 (.t 8) (.t 39), none⟩,
 ⟨some 9, .mov (.t 40), none⟩])
 (.seq (.reg [⟨some 41, .mov (.t 9), none⟩])
 (.cond (.t 41) (.seq (.reg [⟨some 42, .mov (.t 6), none⟩,
 ⟨some 43, .fieldAddr 3 1 false (.t 8), none⟩,
 ⟨none, .store 1 (.t 43) (.t 42), none⟩])
 (.reg [⟨some 44, .mov (.t 3), none⟩,
 ⟨some 45, .load 4 true (.t 8), none⟩,
 ⟨some 46, .mkLit 4 [(.str []), (.int .i64 0), (.int .i64 0), (.int .i64 0)] [(0, 4, (.t 45))] false, none⟩,
 ⟨some 47, .append 4 40 (some 47) (.t 44) (.t 46), none⟩,
 ⟨some 3, .mov (.t 47), none⟩]))
 .skip)))))
 (.reg [⟨some 48, .bin .add (.t 31) (.k (.int .i64 1)), none⟩,
 ⟨some 31, .mov (.t 48), none⟩]))))

def a60_1 : ACode := (.seq (.reg [⟨some 14, .bin .lss (.t 13) (.t 12), none⟩])
 (.seq (.cond (.t 14) .skip
 (.exit 0))
 (.seq (.block 1 (.seq (.reg [⟨some 15, .mov (.t 13), none⟩,
 ⟨some 16, .indexAddr 2 true none (.t 11) (.t 13), none⟩,
 ⟨some 17, .load 2 true (.t 16), none⟩,
 ⟨some 5, .new (.agg [(.str []), (.int .i64 0)]) true none, none⟩,
 ⟨some 4, .mov (.t 15), none⟩,
 ⟨none, .store 2 (.t 5) (.t 17), none⟩])
 (.reg [⟨some 18, .mov (.t 3), none⟩,
 ⟨some 19, .fieldAddr 0 1 false (.t 5), none⟩,
 ⟨some 20, .load 1 false (.t 19), none⟩,
 ⟨some 21, .fieldAddr 1 1 false (.t 5), none⟩,
 ⟨some 22, .load 1 false (.t 21), none⟩,
 ⟨some 23, .mov (.t 4), none⟩,
 ⟨some 24, .build [(.str []), (.int .i64 0), (.int .i64 0), (.int .i64 0)] [(0, 1, (.t 20)), (1, 1, (.k (.int .i64 1))), (2, 1, (.t 22)), (3, 1, (.t 23))], none⟩,
 ⟨some 25, .mkLit 4 [(.str []), (.int .i64 0), (.int .i64 0), (.int .i64 0)] [(0, 4, (.t 24))] false, none⟩,
 ⟨some 26, .append 4 40 (some 47) (.t 18) (.t 25), none⟩,
 ⟨some 3, .mov (.t 26), none⟩])))
 (.reg [⟨some 27, .bin .add (.t 13) (.k (.int .i64 1)), none⟩,
 ⟨some 13, .mov (.t 27), none⟩]))))

def a60 : AFunc := ⟨50, [.tmp 2],
 (.seq (.reg [⟨some 1, .box 7 (.t 0) false, none⟩,
 ⟨some 2, .mov (.k (.lst 4 [] .tight)), none⟩])
 (.seq (.reg [⟨some 3, .mov (.k (.lst 4 [] .tight)), none⟩])
 (.seq (.seq (.reg [⟨some 10, .fieldAddr 2 1 false (.t 1), none⟩,
 ⟨some 11, .load 1 false (.t 10), none⟩,
 ⟨some 12, .lenSl (.t 11), none⟩,
 ⟨some 13, .mov (.k (.int .i64 0)), none⟩])
 (.block 0 (.loop a60_1)))
 (.seq (.seq (.reg [⟨some 28, .fieldAddr 3 1 false (.t 1), none⟩,
 ⟨some 29, .load 1 false (.t 28), none⟩,
 ⟨some 30, .lenSl (.t 29), none⟩,
 ⟨some 31, .mov (.k (.int .i64 0)), none⟩])
 (.block 2 (.loop a60_0)))
 (.seq (.reg [⟨some 49, .mov (.t 3), none⟩,
 ⟨some 2, .mov (.t 49), none⟩])
 .ret))))),
 [], false⟩

def a61 : AFunc := ⟨17, [.tmp 2],
 (.seq (.reg [⟨some 1, .box 7 (.t 0) false, none⟩,
 ⟨some 2, .mov (.k .nilMap), none⟩])
 (.seq (.reg [⟨some 6, .mkMap, none⟩,
 ⟨some 3, .new .nilMap true none, none⟩,
 ⟨none, .store 1 (.t 3) (.t 6), none⟩])
 (.seq (.seq (.reg [⟨some 7, .load 7 true (.t 1), none⟩,
 ⟨some 8, .call (.k (.func (.func 60) [] [])) [(.t 7)], none⟩,
 ⟨some 9, .call (.k (.func (.func 98) [] [])) [(.t 8)], none⟩])
 (.block 0 (.rangeFunc (.t 9) [10, 11] 0)))
 (.seq (.reg [⟨some 16, .load 1 false (.t 3), none⟩,
 ⟨some 2, .mov (.t 16), none⟩])
 .ret)))),
 [((.reg [⟨some 5, .new (.agg [(.str []), (.int .i64 0), (.int .i64 0), (.int .i64 0)]) true none, none⟩,
 ⟨none, .store 4 (.t 5) (.t 11), none⟩]), (.block 1 (.reg [⟨some 12, .load 1 false (.t 3), none⟩,
 ⟨some 13, .fieldAddr 0 1 false (.t 5), none⟩,
 ⟨some 14, .load 1 false (.t 13), none⟩,
 ⟨some 15, .load 4 true (.t 5), none⟩,
 ⟨none, .mapUpdate 1 (.t 12) (.t 14) (.t 15), none⟩])))], true⟩

def a62_0 : ACode := (.seq (.reg [⟨some 10, .bin .lss (.t 9) (.t 8), none⟩])
 (.seq (.cond (.t 10) .skip
 (.exit 0))
 (.seq (.block 1 (.seq (.reg [⟨some 11, .indexAddr 9 true none (.t 7) (.t 9), none⟩,
 ⟨some 12, .load 9 true (.t 11), none⟩,
 ⟨some 5, .new (.agg [(.int .i64 0), (.str []), (.int .i64 0), (.int .i64 0), (.int .i64 0), (.lst 1 [] .tight), (.str []), (.str []), (.int .i64 0)]) true none, none⟩,
 ⟨none, .store 9 (.t 5) (.t 12), none⟩])
 (.seq (.seq (.reg [⟨some 13, .fieldAddr 0 1 false (.t 5), none⟩,
 ⟨some 14, .load 1 false (.t 13), none⟩,
 ⟨some 15, .bin .leq (.t 14) (.k (.int .i64 5)), none⟩])
 (.cond (.t 15) (.reg [⟨some 16, .mov (.t 3), none⟩,
 ⟨some 17, .fieldAddr 3 1 false (.t 5), none⟩,
 ⟨some 18, .load 1 false (.t 17), none⟩,
 ⟨some 19, .mkLit 1 [(.int .i64 0)] [(0, 1, (.t 18))] false, none⟩,
 ⟨some 20, .append 1 8 (some 3) (.t 16) (.t 19), none⟩,
 ⟨some 3, .mov (.t 20), none⟩])
 .skip))
 (.seq (.reg [⟨some 21, .fieldAddr 0 1 false (.t 5), none⟩,
 ⟨some 22, .load 1 false (.t 21), none⟩,
 ⟨some 23, .bin .eql (.t 22) (.k (.int .i64 2)), none⟩,
 ⟨some 24, .mov (.t 23), none⟩,
 ⟨some 25, .fieldAddr 0 1 false (.t 5), some (24, false)⟩,
 ⟨some 26, .load 1 false (.t 25), some (24, false)⟩,
 ⟨some 27, .bin .eql (.t 26) (.k (.int .i64 3)), some (24, false)⟩,
 ⟨some 28, .pick (.t 24) (.k (.bool true)) (.t 27), none⟩,
 ⟨some 29, .mov (.t 28), none⟩,
 ⟨some 30, .fieldAddr 0 1 false (.t 5), some (29, false)⟩,
 ⟨some 31, .load 1 false (.t 30), some (29, false)⟩,
 ⟨some 32, .bin .eql (.t 31) (.k (.int .i64 5)), some (29, false)⟩,
 ⟨some 33, .pick (.t 29) (.k (.bool true)) (.t 32), none⟩,
 ⟨some 34, .mov (.t 33), none⟩,
 ⟨some 35, .fieldAddr 0 1 false (.t 5), some (34, false)⟩,
 ⟨some 36, .load 1 false (.t 35), some (34, false)⟩,
 ⟨some 37, .bin .eql (.t 36) (.k (.int .i64 7)), some (34, false)⟩,
 ⟨some 38, .pick (.t 34) (.k (.bool true)) (.t 37), none⟩])
 (.cond (.t 38) (.reg [⟨some 39, .mov (.t 3), none⟩,
 ⟨some 40, .fieldAddr 4 1 false (.t 5), none⟩,
 ⟨some 41, .load 1 false (.t 40), none⟩,
 ⟨some 42, .mkLit 1 [(.int .i64 0)] [(0, 1, (.t 41))] false, none⟩,
 ⟨some 43, .append 1 8 (some 3) (.t 39) (.t 42), none⟩,
 ⟨some 3, .mov (.t 43), none⟩])
 .skip)))))
 (.reg [⟨some 44, .bin .add (.t 9) (.k (.int .i64 1)), none⟩,
 ⟨some 9, .mov (.t 44), none⟩]))))

def a62 : AFunc := ⟨54, [.tmp 2],
 (.seq (.reg [⟨some 1, .box 7 (.t 0) false, none⟩,
 ⟨some 2, .mov (.k (.lst 1 [] .tight)), none⟩])
 (.seq (.reg [⟨some 3, .mov (.k (.lst 1 [] .tight)), none⟩])
 (.seq (.seq (.reg [⟨some 6, .fieldAddr 3 1 false (.t 1), none⟩,
 ⟨some 7, .load 1 false (.t 6), none⟩,
 ⟨some 8, .lenSl (.t 7), none⟩,
 ⟨some 9, .mov (.k (.int .i64 0)), none⟩])
 (.block 0 (.loop a62_0)))
 (.seq (.seq (.reg [⟨some 45, .fieldAddr 0 1 false (.t 1), none⟩,
 ⟨some 46, .load 1 false (.t 45), none⟩,
 ⟨some 47, .bin .neq (.t 46) (.k (.int .i64 3)), none⟩])
 (.cond (.t 47) (.reg [⟨some 48, .mov (.t 3), none⟩,
 ⟨some 49, .fieldAddr 5 1 false (.t 1), none⟩,
 ⟨some 50, .load 1 false (.t 49), none⟩,
 ⟨some 51, .mkLit 1 [(.int .i64 0)] [(0, 1, (.t 50))] false, none⟩,
 ⟨some 52, .append 1 8 (some 3) (.t 48) (.t 51), none⟩,
 ⟨some 3, .mov (.t 52), none⟩])
 .skip))
 (.seq (.reg [⟨some 53, .mov (.t 3), none⟩,
 ⟨some 2, .mov (.t 53), none⟩])
 .ret))))),
 [], false⟩

def a63 : AFunc := ⟨9, [.tmp 4],
 (.seq (.reg [⟨some 2, .box 2 (.t 0) false, none⟩,
 ⟨some 3, .box 1 (.t 1) false, none⟩,
 ⟨some 4, .mov (.k (.int .i64 0)), none⟩])
 (.seq (.reg [⟨some 5, .fieldAddr 0 1 false (.t 2), none⟩,
 ⟨some 6, .load 1 false (.t 5), none⟩,
 ⟨some 7, .mkFunc 100 [] [(.t 3)], none⟩,
 ⟨some 8, .call (.k (.func (.func 99) [] [])) [(.t 6), (.t 7)], none⟩,
 ⟨some 4, .mov (.t 8), none⟩])
 .ret)),
 [], false⟩

def a64 : AFunc := ⟨24, [.tmp 2, .tmp 3],
 (.seq (.reg [⟨some 2, .mov (.k (.bool false)), none⟩,
 ⟨some 3, .mov (.k (.bool false)), none⟩])
 (.seq (.reg [⟨some 4, .mov (.t 0), none⟩,
 ⟨some 5, .bin .geq (.t 4) (.k (.int .i64 1)), none⟩,
 ⟨some 6, .mov (.t 5), none⟩,
 ⟨some 7, .mov (.t 0), some (6, true)⟩,
 ⟨some 8, .bin .leq (.t 7) (.k (.int .i64 5)), some (6, true)⟩,
 ⟨some 9, .pick (.t 6) (.t 8) (.k (.bool false)), none⟩,
 ⟨some 10, .mov (.t 0), none⟩,
 ⟨some 11, .bin .eql (.t 10) (.k (.int .i64 2)), none⟩,
 ⟨some 12, .mov (.t 11), none⟩,
 ⟨some 13, .mov (.t 0), some (12, false)⟩,
 ⟨some 14, .bin .eql (.t 13) (.k (.int .i64 3)), some (12, false)⟩,
 ⟨some 15, .pick (.t 12) (.k (.bool true)) (.t 14), none⟩,
 ⟨some 16, .mov (.t 15), none⟩,
 ⟨some 17, .mov (.t 0), some (16, false)⟩,
 ⟨some 18, .bin .eql (.t 17) (.k (.int .i64 5)), some (16, false)⟩,
 ⟨some 19, .pick (.t 16) (.k (.bool true)) (.t 18), none⟩,
 ⟨some 20, .mov (.t 19), none⟩,
 ⟨some 21, .mov (.t 0), some (20, false)⟩,
 ⟨some 22, .bin .eql (.t 21) (.k (.int .i64 7)), some (20, false)⟩,
 ⟨some 23, .pick (.t 20) (.k (.bool true)) (.t 22), none⟩,
 ⟨some 2, .mov (.t 9), none⟩,
 ⟨some 3, .mov (.t 23), none⟩])
 .ret)),
 [], false⟩

def a65_0 : ACode := (.seq (.reg [⟨some 34, .bin .lss (.t 33) (.t 32), none⟩])
 (.seq (.cond (.t 34) .skip
 (.exit 2))
 (.seq (.block 3 (.seq (.reg [⟨some 35, .mov (.t 33), none⟩,
 ⟨some 36, .indexAddr 1 false none (.t 31) (.t 33), none⟩,
 ⟨some 37, .load 1 false (.t 36), none⟩,
 ⟨some 8, .mov (.t 35), none⟩,
 ⟨some 9, .mov (.t 37), none⟩])
 (.seq (.seq (.reg [⟨some 38, .mov (.t 9), none⟩,
 ⟨some 39, .un .not (.t 38), none⟩])
 (.cond (.t 39) (.exit 3)
 .skip))
 (.seq (.plan [⟨0, ⟨some 40, .load 2 true (.t 1), none⟩, []⟩,
 ⟨1, ⟨some 41, .load 1 false (.t 6), none⟩, []⟩,
 ⟨2, ⟨some 42, .fieldAddr 1 1 false (.t 1), none⟩, []⟩,
 ⟨3, ⟨some 43, .load 1 false (.t 42), none⟩, []⟩,
 ⟨4, ⟨some 44, .mov (.t 8), none⟩, []⟩,
 ⟨5, ⟨some 45, .indexAddr 9 true none (.t 43) (.t 44), none⟩, []⟩,
 ⟨6, ⟨some 46, .load 9 true (.t 45), none⟩, []⟩,
 ⟨7, ⟨some 47, .call (.k (.func (.func 104) [] [])) [(.t 40), (.t 41), (.t 46)], none⟩, []⟩])
 (.block 4 (.rangeFunc (.t 47) [48, 49] 0))))))
 (.reg [⟨some 54, .bin .add (.t 33) (.k (.int .i64 1)), none⟩,
 ⟨some 33, .mov (.t 54), none⟩]))))

def a65_1 : ACode := (.seq (.reg [⟨some 19, .bin .lss (.t 18) (.t 17), none⟩])
 (.seq (.cond (.t 19) .skip
 (.exit 0))
 (.seq (.block 1 (.seq (.reg [⟨some 20, .mov (.t 18), none⟩,
 ⟨some 5, .mov (.t 20), none⟩])
 (.seq (.reg [⟨some 21, .load 2 true (.t 1), none⟩,
 ⟨some 22, .mov (.t 5), none⟩,
 ⟨some 23, .call (.k (.func (.func 69) [] [])) [(.t 21), (.t 22)], none⟩,
 ⟨some 6, .new (.lst 1 [] .tight) true none, none⟩,
 ⟨none, .store 1 (.t 6) (.t 23), none⟩])
 (.seq (.reg [⟨some 24, .mkFunc 101 [] [(.t 6), (.t 4), (.t 1)], none⟩,
 ⟨some 7, .new .nilFunc true none, none⟩,
 ⟨none, .store 1 (.t 7) (.t 24), none⟩])
 (.seq (.reg [⟨some 25, .load 2 true (.t 1), none⟩,
 ⟨some 26, .mov (.t 5), none⟩,
 ⟨some 27, .load 1 false (.t 7), none⟩,
 ⟨some 28, .call (.k (.func (.func 102) [] [])) [(.t 25), (.t 26), (.t 27)], none⟩])
 (.seq (.reg [⟨some 29, .load 2 true (.t 1), none⟩,
 ⟨some 30, .mov (.t 5), none⟩,
 ⟨some 31, .call (.k (.func (.func 103) [] [])) [(.t 29), (.t 30)], none⟩,
 ⟨some 32, .lenSl (.t 31), none⟩,
 ⟨some 33, .mov (.k (.int .i64 0)), none⟩])
 (.block 2 (.loop a65_0))))))))
 (.reg [⟨some 55, .bin .add (.t 18) (.k (.int .i64 1)), none⟩,
 ⟨some 18, .mov (.t 55), none⟩]))))

def a65 : AFunc := ⟨58, [.tmp 2, .tmp 3],
 (.seq (.reg [⟨some 1, .box 2 (.t 0) false, none⟩,
 ⟨some 2, .mov (.k (.lst 2 [] .tight)), none⟩,
 ⟨some 3, .mov (.k (.bool false)), none⟩])
 (.seq (.seq (.reg [⟨some 12, .load 2 true (.t 1), none⟩,
 ⟨some 13, .call (.k (.func (.func 21) [] [])) [(.t 12)], none⟩,
 ⟨some 14, .un .not (.t 13), none⟩])
 (.cond (.t 14) (.seq (.reg [⟨some 2, .mov (.k (.lst 2 [] .tight)), none⟩,
 ⟨some 3, .mov (.k (.bool false)), none⟩])
 .ret)
 .skip))
 (.seq (.reg [⟨some 4, .new (.lst 2 [] .tight) true none, none⟩])
 (.seq (.seq (.reg [⟨some 15, .fieldAddr 0 1 false (.t 1), none⟩,
 ⟨some 16, .load 1 false (.t 15), none⟩,
 ⟨some 17, .lenSl (.t 16), none⟩,
 ⟨some 18, .mov (.k (.int .i64 0)), none⟩])
 (.block 0 (.loop a65_1)))
 (.seq (.reg [⟨some 56, .load 1 false (.t 4), none⟩,
 ⟨some 57, .call (.k (.func (.func 17) [] [])) [(.t 56)], none⟩,
 ⟨some 2, .mov (.t 57), none⟩,
 ⟨some 3, .mov (.k (.bool true)), none⟩])
 .ret))))),
 [((.seq (.reg [⟨some 10, .mov (.t 48), none⟩])
 (.reg [⟨some 11, .mov (.t 49), none⟩])), (.block 5 (.reg [⟨some 50, .load 1 false (.t 7), none⟩,
 ⟨some 51, .mov (.t 10), none⟩,
 ⟨some 52, .mov (.t 11), none⟩,
 ⟨some 53, .call (.t 50) [(.t 51), (.t 52)], none⟩])))], false⟩

def a66 : AFunc := ⟨27, [.tmp 10],
 (.seq (.reg [⟨some 6, .box 2 (.t 1) false, none⟩,
 ⟨some 10, .mov (.k (.lst 2 [] .tight)), none⟩])
 (.seq (.seq (.reg [⟨some 11, .load 2 true (.t 6), none⟩,
 ⟨some 12, .mov (.t 2), none⟩,
 ⟨some 13, .mov (.t 3), none⟩,
 ⟨some 14, .call (.k (.func (.func 42) [] [])) [(.t 11), (.t 12), (.t 13)], none⟩,
 ⟨some 15, .mov (.t 4), none⟩,
 ⟨some 16, .bin .eql (.t 14) (.t 15), none⟩])
 (.cond (.t 16) (.seq (.reg [⟨some 17, .mov (.t 0), none⟩,
 ⟨some 10, .mov (.t 17), none⟩])
 .ret)
 .skip))
 (.seq (.reg [⟨some 18, .mov (.t 0), none⟩,
 ⟨some 19, .fieldAddr 1 1 false (.t 6), none⟩,
 ⟨some 20, .load 1 false (.t 19), none⟩,
 ⟨some 21, .mov (.t 3), none⟩,
 ⟨some 22, .indexAddr 9 true none (.t 20) (.t 21), none⟩,
 ⟨some 23, .fieldAddr 8 1 false (.t 22), none⟩,
 ⟨some 24, .load 1 false (.t 23), none⟩,
 ⟨some 25, .build [(.int .i64 0), (.int .i64 0)] [(0, 1, (.k (.int .i64 5))), (1, 1, (.t 24))], none⟩,
 ⟨some 26, .call (.k (.func (.func 15) [] [])) [(.t 18), (.t 25)], none⟩,
 ⟨some 10, .mov (.t 26), none⟩])
 .ret))),
 [], false⟩

end Go.Proofs.YtefildelnccljaaGreat

