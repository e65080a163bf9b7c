/- Part Jb. No condition. -/
import Derived.Test.YtefildelnccljaaGreatEf
import Derived.Test.YtefildelnccljaaGreatEg
import Derived.Shelf.SlicesE.Clone
import Derived.Shelf.SlSortCmp.NoneTotal
import Derived.Test.YtefildelnccljaaGreatEd
import Derived.Test.YtefildelnccljaaGreatJl
import Derived.Test.YtefildelnccljaaGreatChecked
import Derived.KernelRfl
set_option linter.unusedVariables false
set_option linter.unusedSimpArgs false
namespace Go.Proofs.YtefildelnccljaaGreat.Ai
open Go Go.Shelf Go.RowKit Go.Lib Go.Sort
/-- slices.Clone: an object of its own; of no elements: none. -/
def cloneA (m bytes : Nat) : List AV → St → Option (AOut × St)
  | [v], st => match v.asLst m with
    | .lst m' es _ => if m' = m ∧ es.length ≤ great ∧ bytes ≤ 256 then
        (if es = [] then some (.ret (.lst m [] .no), st) else some (.ret (.sl st.length m 0 es.length none), st ++ [.cells none (flat es)])) else none
    | _ => none
  | _, _ => none
set_option maxHeartbeats 2000000 in
set_option maxRecDepth 100000 in
/-- Of no elements, whatever the address. -/
theorem clone_zero {P : Program} {ρ : Ren} (L : SlLaysE0.n41 P ρ) (i0 : TypeInfo) (z : Value) (size bytes : Nat) (hi : P.info? (ρ.t 23) = some i0) (hz0 : i0.zero = some z) (hz1 : i0.size = size) (hz2 : i0.bytes = bytes) (hzs : z.cells.size = size) (hsz : 0 < size)
    (z23 : ∀ w, (Go.sizeOf (ρ.t 23)).run P w = .ok size w) (a : Addr) (c : Nat) (w : World) :
    Calls P (ρ.f 41) #[.slice (some a) 0 c] w fun e w' => ∃ v', e = .returned v' ∧ w'.ownsRow w.heap.size (ρ.t 23) size v' 0 [] ∧ Below w.heap.size w w' := by
  have mixed := L.mixed; have t4 := L.t4; have a4 := L.a4; have z4 := L.z4; have v4 := L.v4; have t22 := L.t22; have a22 := L.a22; have z22 := L.z22; have v22 := L.v22
  have q22 : ∀ (w : World) (a : Option Addr) (n c n' c' : Nat), (binOp .eql (ρ.t 22) (.slice a n c) (.slice none n' c')).run P w = .ok (.bool a.isNone) w := fun w a n c n' c' => Lib.run_eql_slice_nil w _ _ a n c n' c' L.t22
  have u22 : ∀ w, Sem.run P (underlying (ρ.t 22)) w = .ok (TypeDesc.slice (ρ.t 23)) w := run_underlying t22
  obtain ⟨_, _, FG⟩ := L.f41
  go_enter FG, SlBodyN.n41_ntmps ρ
  go_wp2_with (at_builtin; refine wpList_append_own _ rfl _ _ (ρ.t 22) rfl w.heap.size (ρ.t 23) i0 z size bytes t22 hi hz0 hz1 hz2 hzs hsz _ _ _ rfl (World.ownsRow_made w #[] 0 (Nat.le_refl _) (Nat.zero_le _) (by simp)) a 0 c [] rfl (by simp) (by intro j u hj; simp at hj) (by intro u hu; cases hu) (by unfold maxLen; omega) (by omega) (by simp) ?_)
  intro v' w1 hown hgrow hnil
  go_wp2
  go_ret
  refine ⟨v', rfl, by simpa using hown, ?_⟩
  exact ((Below.refl _ w).alloc (Nat.le_refl _) _).grown hgrow (by simp) (by intro k hk; simp [Value.ownBlock] at hk; omega)
theorem clone_task {P : Program} {gl : List (Nat × AV)} {A : AProg} {B : World → Prop} {ρ : Ren} (L : SlLaysE0.n41 P ρ) (i0 : TypeInfo) (z : Value) (size bytes : Nat) (hi : P.info? (ρ.t 23) = some i0) (hz0 : i0.zero = some z) (hz1 : i0.size = size) (hz2 : i0.bytes = bytes) (hzs : z.cells.size = size) (hsz : 0 < size)
    (z23 : ∀ w, (Go.sizeOf (ρ.t 23)).run P w = .ok size w) (he : ∀ args w, (callFunc (ρ.f 41) args).run P w = .ok (.enter (ρ.f 41) args) w)
    {args : List AV} {st : St} {o : AOut} {st' : St} (hh : cloneA size bytes args st = some (o, st')) :
    TaskOk P gl A B (.call (ρ.f 41) args) st (outRes st' o) := by
  unfold cloneA at hh
  split at hh
  · rename_i v
    intro base J w cargs hS hG hR
    simp only [Reps] at hR
    obtain ⟨x, xs, e1, hx, rfl⟩ := hR
    obtain rfl : cargs = #[x] := by apply Array.toList_inj.1; simpa using e1
    have hx := hx.asLst (m := size)
    refine .inl ⟨he _ _, callsIn_wide.2 ?_⟩
    cases hv : v.asLst size <;> simp only [hv] at hh <;> try (cases hh; done)
    rename_i m' es ap
    rw [hv] at hx
    split at hh
    · rename_i hc
      obtain ⟨rfl, hgr, hby⟩ := hc
      simp only [Rep] at hx
      split at hh
      · rename_i hes
        subst hes
        simp only [Option.some.injEq, Prod.mk.injEq] at hh
        obtain ⟨rfl, rfl⟩ := hh
        rcases hx.2 with ⟨rfl, _⟩ | ⟨a, cap, rfl, _⟩
        · refine (AnyE.slices_Clone_nil L 0 0 w).mono fun e w' ⟨h1, h2⟩ => ?_
          subst h2
          exact ⟨J, Inj.le.refl J, hS, .lst m' [] .no, .slice none 0 0, rfl, by simp [Rep], h1⟩
        · refine (clone_zero L i0 z m' bytes hi hz0 hz1 hz2 hzs hsz z23 a cap w).mono fun e w' ⟨v', h1, h2, h3⟩ => ?_
          refine ⟨J, Inj.le.refl J, hS.keep (Kept.of_below h3), .lst m' [] .no, v', rfl, ?_, h1⟩
          rcases h2.2 with ⟨rfl, _⟩ | ⟨g, c2, cur, rfl, _⟩
          · simp [Rep]
          · simp only [Rep]
            exact ⟨fun _ e => (by cases e), .inr ⟨_, c2, rfl, fun _ => rfl, Nat.zero_le _, fun e => (by cases e), by simp [Elems]⟩⟩
      · rename_i hes
        simp only [Option.some.injEq, Prod.mk.injEq] at hh
        obtain ⟨rfl, rfl⟩ := hh
        have hpos : 0 < es.length := List.length_pos_iff.2 hes
        rcases hx.2 with ⟨_, h⟩ | ⟨a, cap, rfl, hsp, hle, _, hel⟩
        · exact absurd h hes
        · obtain ⟨blk, off, sp⟩ := a
          obtain rfl : sp = none := hsp (by omega)
          obtain ⟨xs, hck, hrow⟩ := hel.chunks
          have hmul : es.length * bytes ≤ great * 256 := Nat.mul_le_mul hgr hby
          have hg : great * 256 ≤ 140737488355328 := by decide
          refine (AnyE.slices_Clone L i0 z m' bytes hi hz0 hz1 hz2 hzs hsz z23 blk off es.length cap xs w hck.length (Nat.le_trans hgr (by decide)) (Nat.le_trans hmul hg) (fun j u hj => hS.imOk _ _ _ (hrow j u hj)) (hck.reps.oneCells hck.isCell)).mono fun e w' ⟨v', h1, h2, _, h3⟩ => ?_
          rcases h2.2 with ⟨_, h⟩ | ⟨g, c2, cur, rfl, hbg, hgh, hnc, _, hcs, htk⟩
          · omega
          · have hS1 := hS.keep (Kept.of_below h3)
            have hlt : g < w'.heap.size := (Array.getElem?_eq_some_iff.1 hgh).1
            have hfl : (flat es).length = xs.length := hck.reps.length
            have hxl := hck.length
            have hmc : es.length * m' ≤ c2 * m' := Nat.mul_le_mul_right _ hnc
            have hadd := hS1.adopt (b := g) (n := cur.size) (w' := w') (a := .cells none (flat es)) rfl (by simp) (Nat.le_trans hS.size hbg) hlt
              (fun r o h1 h2 => by have := (hS.own r o g h1 h2).2.1; omega) (fun k v hv => by have := lt_of_cell (hS.imOk g k v hv); omega) rfl rfl rfl (fun _ _ => rfl)
              ⟨g, cur, ρ.t 23, by simp [Inj.bind], ⟨(0, 0), hgh, Clear.zero _⟩, by omega, by
                rw [hfl, hxl, htk]; exact Reps.mono (hS1.bind_le _ _) _ _ hck.reps, hck.isCell, (fun _ hT => by cases hT), cur.size, by simp [Inj.bind], by omega, Nat.le_refl _⟩
            refine ⟨_, hS1.bind_le _ _, hadd, .sl st.length m' 0 es.length none, _, rfl, ?_, h1⟩
            simp only [Rep]
            exact ⟨g, c2, by simp [Inj.bind], rfl, hnc, (fun k e => by cases e), cur.size, by simp [Inj.bind], by rw [hcs]; exact Nat.le_of_eq (Nat.zero_add _)⟩
    · cases hh
  · cases hh
end Go.Proofs.YtefildelnccljaaGreat.Ai

namespace Go.Proofs.YtefildelnccljaaGreat.Ai
open Go Go.Shelf Go.RowKit Go.Lib Go.Sort
def pairsOf : List AV → Option (List (Int × Int))
  | [] => some []
  | .int .i64 c :: .int .i64 a :: r => (pairsOf r).map ((c, a) :: ·)
  | _ => none
def pairCells : List (Int × Int) → List AV
  | [] => []
  | x :: r => .int .i64 x.1 :: .int .i64 x.2 :: pairCells r
def encP (x : Int × Int) : List Value := [.int .i64 x.1, .int .i64 x.2]
def pairVals : List (Int × Int) → List Value
  | [] => []
  | x :: r => .int .i64 x.1 :: .int .i64 x.2 :: pairVals r
def insP (lt : Int × Int → Int × Int → Bool) (x : Int × Int) : List (Int × Int) → List (Int × Int)
  | [] => [x]
  | y :: l => if lt y x then y :: insP lt x l else x :: y :: l
def sortP (lt : Int × Int → Int × Int → Bool) : List (Int × Int) → List (Int × Int)
  | [] => []
  | x :: l => insP lt x (sortP lt l)
theorem pairsOf_some : ∀ {cs : List AV} {l : List (Int × Int)}, pairsOf cs = some l → cs = pairCells l
  | [], l, h => by simp [pairsOf] at h; subst h; rfl
  | .int .i64 c :: .int .i64 a :: r, l, h => by
    simp only [pairsOf, Option.map_eq_some_iff] at h
    obtain ⟨l', h1, rfl⟩ := h
    rw [pairsOf_some h1]; rfl
theorem pairsOf_cells : ∀ l : List (Int × Int), pairsOf (pairCells l) = some l
  | [] => rfl
  | x :: l => by simp [pairsOf, pairCells, pairsOf_cells l]
theorem pairCells_length : ∀ l : List (Int × Int), (pairCells l).length = l.length * 2
  | [] => rfl
  | x :: l => by simp [pairCells, pairCells_length l]; omega
theorem pairVals_length : ∀ l : List (Int × Int), (pairVals l).length = l.length * 2
  | [] => rfl
  | x :: l => by simp [pairVals, pairVals_length l]; omega
theorem pairCells_isCell : ∀ l : List (Int × Int), (pairCells l).all AV.isCell = true
  | [] => rfl
  | x :: l => by simp [pairCells, pairCells_isCell l, AV.isCell]
theorem reps_pairs {J : Inj} : ∀ {l : List (Int × Int)} {xs : List Value}, Reps J (pairCells l) xs → xs = pairVals l
  | [], xs, h => by simpa [pairCells, pairVals, Reps] using h
  | x :: l, xs, h => by
    simp only [pairCells, Reps, Rep] at h
    obtain ⟨y, ys, rfl, rfl, y2, ys2, rfl, rfl, h2⟩ := h
    rw [reps_pairs h2]; rfl
theorem pairs_reps {J : Inj} : ∀ l : List (Int × Int), Reps J (pairCells l) (pairVals l)
  | [] => by simp [pairCells, pairVals, Reps]
  | x :: l => by
    simp only [pairCells, pairVals, Reps, Rep]
    exact ⟨_, _, rfl, rfl, _, _, rfl, rfl, pairs_reps l⟩
theorem pairVals_get : ∀ (l : List (Int × Int)) (t : Nat), t < l.length * 2 → (pairVals l)[t]? = some (encP (l[t / 2]?.getD default))[t % 2]!
  | [], t, h => by simp at h
  | x :: l, 0, _ => rfl
  | x :: l, 1, _ => rfl
  | x :: l, t + 2, h => by
    have : (t + 2) / 2 = t / 2 + 1 := by omega
    rw [this, Nat.add_mod_right]
    simp only [pairVals, List.getElem?_cons_succ]
    exact pairVals_get l t (by simp at h; omega)
theorem flatK_get (l : List (Int × Int)) (t : Nat) (h : t < l.length * 2) : (pairVals l)[t]? = some (flatK encP 2 l.toArray)[t]! := by
  rw [pairVals_get l t h, get_flatK _ _ _ _ (by simpa using h)]
  congr 3
  have : t / 2 < l.length := by omega
  simp [this]
theorem insP_perm (lt : Int × Int → Int × Int → Bool) (x : Int × Int) : ∀ l, (insP lt x l).Perm (x :: l)
  | [] => .refl _
  | y :: l => by
    simp only [insP]
    split
    · exact ((insP_perm lt x l).cons y).trans (.swap _ _ _)
    · exact .refl _
theorem sortP_perm (lt : Int × Int → Int × Int → Bool) : ∀ l, (sortP lt l).Perm l
  | [] => .refl _
  | x :: l => (insP_perm lt x _).trans ((sortP_perm lt l).cons x)
theorem insP_sorted {lt : Int × Int → Int × Int → Bool} (hO : SWO lt) (x : Int × Int) : ∀ l : List (Int × Int), l.Pairwise (fun a b => lt b a = false) → (insP lt x l).Pairwise fun a b => lt b a = false
  | [], _ => by simp [insP]
  | y :: l, h => by
    simp only [insP]
    rw [List.pairwise_cons] at h
    split
    · rename_i hy
      rw [List.pairwise_cons]
      refine ⟨fun z hz => ?_, insP_sorted hO x l h.2⟩
      rcases List.mem_cons.1 ((insP_perm lt x l).mem_iff.1 hz) with rfl | hz
      · cases hxy : lt z y with
        | false => rfl
        | true => have := hO.trans _ _ _ hxy hy; rw [hO.irrefl] at this; cases this
      · exact h.1 z hz
    · rename_i hy
      have hy : lt y x = false := by simpa using hy
      rw [List.pairwise_cons]
      refine ⟨fun z hz => ?_, List.pairwise_cons.2 h⟩
      rcases List.mem_cons.1 hz with rfl | hz
      · exact hy
      · exact hO.ntrans _ _ _ (h.1 z hz) hy
theorem sortP_sorted {lt : Int × Int → Int × Int → Bool} (hO : SWO lt) : ∀ l : List (Int × Int), (sortP lt l).Pairwise fun a b => lt b a = false
  | [] => .nil
  | x :: l => insP_sorted hO x _ (sortP_sorted hO l)
theorem mergeSort_sortP {lt : Int × Int → Int × Int → Bool} (hO : SWO lt) (hT : ∀ x y, lt x y = false → lt y x = false → x = y) (l : List (Int × Int)) : (l.mergeSort fun x y => !lt y x) = sortP lt l := by
  refine List.Perm.eq_of_pairwise (le := fun x y => (!lt y x) = true) ?_ ?_ ?_ ((List.mergeSort_perm _ _).trans (sortP_perm lt l).symm)
  · intro a b _ _ h1 h2
    simp only [Bool.not_eq_true'] at h1 h2
    exact hT a b h2 h1
  · refine List.pairwise_mergeSort ?_ ?_ _
    · intro a b c h1 h2
      simp only [Bool.not_eq_true'] at h1 h2 ⊢
      exact hO.ntrans c b a h2 h1
    · intro a b
      cases h : lt b a with
      | false => simp
      | true => cases h' : lt a b with
        | false => simp
        | true => have := hO.trans _ _ _ h h'; rw [hO.irrefl] at this; cases this
  · exact (sortP_sorted hO l).imp fun h => by simpa using h
/-- slices.SortFunc by the closure g, at pairs. -/
def sortA (g : FuncId) (lt : Int × Int → Int × Int → Bool) : List AV → St → Option (AOut × St)
  | [v, .func (.func g') [] []], st => if g' = g then (match v.asLst 2 with
    | .lst 2 [] _ => some (.ret (.tup []), st)
    | .sl r 2 0 n _ => (match st[r]? with
      | some (.cells none cs) => (match pairsOf cs with
        | some l => if l.length = n ∧ n ≤ great then some (.ret (.tup []), st.set r (.cells none (pairCells (sortP lt l)))) else none
        | none => none)
      | _ => none)
    | _ => none) else none
  | _, _ => none
theorem sort_task {P : Program} {gl : List (Nat × AV)} {A : AProg} {B : World → Prop} {ρ : Ren} (L : SlLaysF0.n6 P ρ) (aE : ∀ w, (isAgg (ρ.t 24)).run P w = .ok true w) (zE : ∀ w, (Go.sizeOf (ρ.t 24)).run P w = .ok 2 w)
    (g : Nat) (cf : Int × Int → Int × Int → Int) (hO : SWO (ltOf cf)) (hT : ∀ x y, (ltOf cf) x y = false → (ltOf cf) y x = false → x = y) (eg : ∀ args w, (callFunc g args).run P w = .ok (.enter g args) w)
    (hcmp : ∀ blk off size w, CmpLays P g #[] encP 2 cf blk off size w) (he : ∀ args w, (callFunc (ρ.f 6) args).run P w = .ok (.enter (ρ.f 6) args) w)
    {args : List AV} {st : St} {o : AOut} {st' : St} (hh : sortA g (ltOf cf) args st = some (o, st')) : TaskOk P gl A B (.call (ρ.f 6) args) st (outRes st' o) := by
  unfold sortA at hh
  split at hh
  · rename_i v g'
    split at hh
    · rename_i hg
      subst hg
      intro base J w cargs hS hG hR
      simp only [Reps, Rep] at hR
      obtain ⟨x, _, e1, hx, fv, _, rfl, ⟨a', b', rfl, ha, hb⟩, rfl⟩ := hR
      obtain rfl : a' = #[] := by apply Array.toList_inj.1; simpa using ha
      obtain rfl : b' = #[] := by apply Array.toList_inj.1; simpa using hb
      obtain rfl : cargs = #[x, .func (.func g') #[] #[]] := by apply Array.toList_inj.1; simpa using e1
      have hx := hx.asLst (m := 2)
      refine .inl ⟨he _ _, callsIn_wide.2 ?_⟩
      split at hh
      · rename_i hv
        simp only [Option.some.injEq, Prod.mk.injEq] at hh
        obtain ⟨rfl, rfl⟩ := hh
        rw [hv] at hx
        simp only [Rep] at hx
        have : ∃ p cap, x = .slice p 0 cap := by
          rcases hx.2 with ⟨rfl, _⟩ | ⟨a, cap, rfl, _⟩
          · exact ⟨none, 0, rfl⟩
          · exact ⟨some a, cap, rfl⟩
        obtain ⟨p, cap, rfl⟩ := this
        refine (AnyF.slices_SortFunc_none L p cap _ w).mono fun e w' ⟨h1, h2⟩ => ?_
        subst h2
        exact ⟨J, Inj.le.refl J, hS, .tup [], .tuple #[], rfl, by simp [Rep, Reps], h1⟩
      · rename_i r n cp hv
        rw [hv] at hx
        cases hst : st[r]? with
        | none => simp [hst] at hh
        | some ob =>
        rw [hst] at hh
        cases ob <;> try (simp at hh; done)
        rename_i ty cs
        cases ty <;> try (simp at hh; done)
        simp only [] at hh
        cases hp : pairsOf cs with
        | none => simp [hp] at hh
        | some l =>
        rw [hp] at hh
        simp only [] at hh
        split at hh
        · rename_i hc
          obtain ⟨rfl, hgr⟩ := hc
          simp only [Option.some.injEq, Prod.mk.injEq] at hh
          obtain ⟨rfl, rfl⟩ := hh
          have hcs := pairsOf_some hp
          subst hcs
          simp only [Rep] at hx
          obtain ⟨b, c, hb, rfl, hnc, _, sn, hsn, hsl⟩ := hx
          obtain ⟨b', cc, tt, q1, ⟨fr, q2, qfr⟩, q3, q4, q5, qty, sn', hsn', hs1, hs2⟩ := hS.obj r _ hst
          rw [hb] at q1; cases q1
          rw [hsn] at hsn'; cases hsn'
          have hpl := pairCells_length l
          have hvals := reps_pairs q4
          have hbl : b < w.heap.size := (Array.getElem?_eq_some_iff.1 q2).1
          have hget : ∀ t, t < l.length * 2 → cc[t]? = some (flatK encP 2 l.toArray)[t]! := by
            intro t ht
            rw [← flatK_get l t ht, ← hvals, List.getElem?_take, if_pos (by omega)]; simp
          have hH : HoldsK encP 2 w b 0 l.toArray := by
            intro j hj
            simp only [size_flatK, List.size_toArray] at hj
            rw [cell_of_heap q2]
            refine ⟨by rw [Nat.zero_add]; exact hget j hj, ?_⟩
            have := qfr (0 + j) (by omega)
            simp only [World.frozen?, q2]
            simp only [Bool.and_eq_false_iff, decide_eq_false_iff_not]
            omega
          have hcon := AnyQ.slices_SortFunc_total L 2 aE zE encP (fun _ => rfl) (fun x v hv => by simp [encP] at hv; rcases hv with rfl | rfl <;> rfl) cf hO g' #[] b 0 c l.toArray w eg (hcmp _ _ _ _) hH hbl (by rw [List.size_toArray]; exact Nat.lt_of_le_of_lt hgr (by decide)) hT
          simp only [List.size_toArray] at hcon
          refine hcon.mono fun e w' ⟨h1, nd, os, h2⟩ => ?_
          rw [mergeSort_sortP hO hT] at h2
          generalize hl' : sortP (ltOf cf) l = l' at h2 ⊢
          have hll : l'.length = l.length := by rw [← hl']; exact (sortP_perm _ _).length_eq
          let w1 := putRowK encP 2 (Sort.ahead w nd) b 0 l'.toArray
          let c1 := Sort.putCells id 0 (flatK encP 2 l'.toArray) cc
          have hc1 : c1.size = cc.size := by simp [c1, Sort.putCells]
          have hg1 : w1.heap[b]? = some (.cells c1 tt fr) := by
            simp only [w1, putRowK, putRow, mapBlock, Sort.ahead, Array.getElem?_modify, if_true, q2]
            rfl
          have hgo : ∀ b', b' ≠ b → w1.heap[b']? = w.heap[b']? := by
            intro b' hb'
            simp only [w1, putRowK, putRow, mapBlock, Sort.ahead, Array.getElem?_modify]
            rw [if_neg (fun h => hb' h.symm)]
          have hpl' := pairCells_length l'
          have htk : c1.toList.take (pairCells l').length = pairVals l' := by
            apply List.ext_getElem?
            intro t
            rw [List.getElem?_take]
            by_cases ht : t < l'.length * 2
            · rw [if_pos (by omega), flatK_get l' t ht]
              have htc : t < cc.size := by omega
              simp [c1, Sort.putCells, htc, ht]
            · rw [if_neg (by omega), List.getElem?_eq_none (by rw [pairVals_length]; omega)]
          have hS1 := hS.upd (w' := w1) (a := .cells none (pairCells l')) hst hb rfl (by simp) rfl (by simp) rfl rfl (by simp [w1, putRowK, Sort.ahead]) hgo
            ⟨b, c1, tt, hb, ⟨fr, hg1, by rw [hc1]; exact qfr⟩, by omega, by rw [htk]; exact pairs_reps l', pairCells_isCell l', (fun _ hT => by cases hT), sn, hsn, by omega, by omega⟩
          have hk : Kept w1 w' := by
            subst h2
            refine ⟨rfl, rfl, by simp [sortWorldK, w1], fun b' hb' => ?_⟩
            exact heap_grow_old w1 os hb'
          exact ⟨J, Inj.le.refl J, hS1.keep hk, .tup [], .tuple #[], rfl, by simp [Rep, Reps], h1⟩
        · cases hh
      · cases hh
    · cases hh
  · cases hh
end Go.Proofs.YtefildelnccljaaGreat.Ai

namespace Go.Proofs.YtefildelnccljaaGreat.Ai
open Go
section
variable {A : AProg}
theorem task_of_aw_mut {f : FuncId} {F : AFunc} {args : List AV} {v : AV} {N : Nat} (hp : A.prim f = none) (hf : A.fn f = some F) (hk : F.keep = false) (hN : args.length + (F.ntmps - args.length) = N)
    {st st2 : St} (hst : st2.all (AObj.lowB st.length) = true)
    (h : ∀ e : Env, e.length = N → (∀ i, AX.ev e (.t i) = args.getD i .undef) → ∀ K : PostQ,
      (∀ x e st', (x = .ret ∨ x = .nrm) → st'.take st.length = st2 → (∃ vs, resultsA st' e F.results = some vs ∧ AV.still st.length st' (oneOf vs) = some v) → K x e [] st') → AW A f none F.body e [] st K) :
    runL A (.call f args) st = some ⟨.ret, ⟨[v], []⟩, st2⟩ := by
  have hev : ∀ i, AX.ev (args ++ List.replicate (F.ntmps - args.length) .undef) (.t i) = args.getD i .undef := by
    intro i
    simp only [AX.ev, List.getD_eq_getElem?_getD]
    by_cases hi : i < args.length
    · rw [List.getElem?_append_left hi]
    · rw [List.getElem?_append_right (by omega), List.getElem?_eq_none (by omega : args.length ≤ i), List.getElem?_replicate]
      split <;> rfl
  obtain ⟨x, e', ds', st', hx, h1, h2, h3, vs, h4, h5⟩ := h (args ++ List.replicate (F.ntmps - args.length) .undef) (by simpa using hN) hev
    (fun x e ds st' => (x = .ret ∨ x = .nrm) ∧ ds = [] ∧ st'.take st.length = st2 ∧ ∃ vs, resultsA st' e F.results = some vs ∧ AV.still st.length st' (oneOf vs) = some v)
    (fun x e st' h1 h2 h3 => ⟨h1, rfl, h2, h3⟩)
  subst h2
  have hs : Ai.settle st.length (oneOf vs) st' = some (v, st2) := by
    simp only [Ai.settle, h5, h3, hst, if_true]
  rw [runL_eq]; simp only [layer, hp, callFn, hf, hx, runDefs]; rcases h1 with rfl | rfl <;> simp only [h4, hk, hs, Bool.false_eq_true, if_false]
/-- A world of which one object is another. -/
theorem StOk.put {st : St} (h : StOk st) {r : Nat} {o : AObj} (ho : AObj.lowB st.length o = true) : (st.set r o).all (AObj.lowB st.length) = true := by
  have h : st.all (AObj.lowB st.length) = true := h
  rw [List.all_eq_true] at h ⊢
  intro x hx
  rcases List.mem_or_eq_of_mem_set hx with hx | rfl
  · exact h x hx
  · exact ho
end
end Go.Proofs.YtefildelnccljaaGreat.Ai

namespace Go.Proofs.YtefildelnccljaaGreat.Ai
open Go
section
variable {A : AProg} {fn : FuncId} {rnd : Option Nat} {e : Env} {ds : List ADef} {st : St} {Q : PostQ}
theorem conda_split {a b : ACode} {t : Bool} (h1 : t = true → AW A fn rnd a e ds st Q) (h2 : t = false → AW A fn rnd b e ds st Q) : CondA A fn rnd a b e ds st Q (.bool t) := by
  cases t
  · exact conda_false.2 (h2 rfl)
  · exact conda_true.2 (h1 rfl)
theorem grda_split {d : Option Nat} {op : AOp} {os : List AOper} {b : Bool} (h1 : b = true → NxA A d os e ds st Q (opA op e st)) (h2 : b = false → AWo A os (setDst d e .undef) ds st Q) : GrdA A d op os e ds st Q (some b) := by
  cases b
  · exact grda_false.2 (h2 rfl)
  · exact grda_true.2 (h1 rfl)
theorem conda_splitn {a b : ACode} {t : Bool} (h1 : t = false → AW A fn rnd a e ds st Q) (h2 : t = true → AW A fn rnd b e ds st Q) : CondA A fn rnd a b e ds st Q (.bool (!t)) := by
  cases t
  · exact conda_true.2 (h1 rfl)
  · exact conda_false.2 (h2 rfl)
theorem grda_splitn {d : Option Nat} {op : AOp} {os : List AOper} {b : Bool} (h1 : b = false → NxA A d os e ds st Q (opA op e st)) (h2 : b = true → AWo A os (setDst d e .undef) ds st Q) : GrdA A d op os e ds st Q (some (!b)) := by
  cases b
  · exact grda_true.2 (h1 rfl)
  · exact grda_false.2 (h2 rfl)
theorem aw_assoc {a b c : ACode} : AW A fn rnd (.seq (.seq a b) c) e ds st Q ↔ AW A fn rnd (.seq a (.seq b c)) e ds st Q := by
  simp only [aw_seq]
  constructor
  · intro h; exact aw_mono h fun x e ds st h => by cases x <;> first | exact h | (simp only [SeqQ, aw_seq] at h ⊢; exact h)
  · intro h; exact aw_mono h fun x e ds st h => by cases x <;> first | exact h | (simp only [SeqQ, aw_seq] at h ⊢; exact h)
/-- What a part computes, and no more of it. -/
theorem aw_join {a b : ACode} (R : Env → Prop) (h : AW A fn rnd a e ds st (fun x e2 ds2 st2 => x = .nrm ∧ ds2 = ds ∧ st2 = st ∧ R e2)) (g : ∀ e2, Same a.writes e e2 → R e2 → AW A fn rnd b e2 ds st Q) : AW A fn rnd (.seq a b) e ds st Q := by
  rw [aw_seq]
  refine aw_mono (aw_same h) ?_
  rintro x e2 ds2 st2 ⟨hs, rfl, rfl, rfl, hr⟩
  exact g e2 hs hr
end
end Go.Proofs.YtefildelnccljaaGreat.Ai

namespace Go.Proofs.YtefildelnccljaaGreat
open Go Go.Shelf Go.RowKit Go.Sort Go.Lib Ai
/-- How names.Order compares. -/
def cfF (x y : Int × Int) : Int := if Lib.compareInt x.2 y.2 = 0 then Lib.compareInt x.1 y.1 else Lib.compareInt x.2 y.2
def ltF (x y : Int × Int) : Bool := decide (x.2 < y.2) || (decide (x.2 = y.2) && decide (x.1 < y.1))
theorem ltF_eq : ltOf cfF = ltF := by
  funext x y
  unfold ltOf cfF ltF Lib.compareInt
  rcases Int.lt_trichotomy x.2 y.2 with h | h | h
  · simp [h]
  · have h1 : ¬ x.2 < y.2 := by omega
    have h2 : ¬ y.2 < x.2 := by omega
    simp only [h1, h2, h, if_false, if_true, decide_true, Bool.true_and, decide_false, Bool.false_or, Int.lt_irrefl]
    rcases Int.lt_trichotomy x.1 y.1 with g | g | g
    · simp [g]
    · simp [g]
    · have g1 : ¬ x.1 < y.1 := by omega
      simp [g, g1]
  · have h1 : ¬ x.2 < y.2 := by omega
    have h2 : ¬ x.2 = y.2 := by omega
    simp [h, h1, h2]
theorem ltF_swo : SWO ltF where
  irrefl x := by simp [ltF]
  trans x y z h1 h2 := by simp [ltF] at *; omega
  ntrans x y z h1 h2 := by simp [ltF] at *; omega
theorem ltF_part (x y : Int × Int) (h1 : ltF x y = false) (h2 : ltF y x = false) : x = y := by
  simp [ltF] at *
  exact Prod.ext (by omega) (by omega)
theorem enters44 : ∀ args w, (callFunc 44 args).run Tryz.prog w = .ok (.enter 44 args) w := enters_of Tryz.func44 (by kernel_rfl) rfl
theorem enters45 : ∀ args w, (callFunc 45 args).run Tryz.prog w = .ok (.enter 45 args) w := enters_of Tryz.func45 (by kernel_rfl) rfl
theorem enters46 : ∀ args w, (callFunc 46 args).run Tryz.prog w = .ok (.enter 46 args) w := enters_of Tryz.func46 (by kernel_rfl) rfl
theorem enters155 : ∀ args w, (callFunc 155 args).run Tryz.prog w = .ok (.enter 155 args) w := enters_of Tryz.func155 (by kernel_rfl) rfl
theorem clone44 {gl : List (Nat × AV)} {A : AProg} {B : World → Prop} {args : List AV} {st : St} {o : AOut} {st' : St} (hh : cloneA 2 16 args st = some (o, st')) : TaskOk Tryz.prog gl A B (.call 44 args) st (outRes st' o) :=
  have ⟨i0, h1, h2, h3, h4⟩ := info_parts (P := Tryz.prog) (e := 27) (z := .agg #[.int .i64 0, .int .i64 0]) (size := 2) (bytes := 16) (by kernel_rfl)
  clone_task (ρ := Tryz.clone44_ren) Tryz.clone44 i0 (.agg #[.int .i64 0, .int .i64 0]) 2 16 h1 h2 h3 h4 rfl (by decide) Tryz.sizeOf27 enters44 hh
theorem clone155 {gl : List (Nat × AV)} {A : AProg} {B : World → Prop} {args : List AV} {st : St} {o : AOut} {st' : St} (hh : cloneA 1 8 args st = some (o, st')) : TaskOk Tryz.prog gl A B (.call 155 args) st (outRes st' o) :=
  have ⟨i0, h1, h2, h3, h4⟩ := info_parts (P := Tryz.prog) (e := 3) (z := .int .i64 0) (size := 1) (bytes := 8) (by kernel_rfl)
  clone_task (ρ := Tryz.clone155_ren) Tryz.clone155 i0 (.int .i64 0) 1 8 h1 h2 h3 h4 rfl (by decide) Tryz.sizeOf3 enters155 hh
theorem cmpLays46 (blk off size : Nat) (w : World) : CmpLays Tryz.prog 46 #[] encP 2 cfF blk off size w :=
  fun _ _ _ _ x y => closure46 x y _
theorem sort45 {gl : List (Nat × AV)} {A : AProg} {B : World → Prop} {args : List AV} {st : St} {o : AOut} {st' : St} (hh : sortA 46 ltF args st = some (o, st')) : TaskOk Tryz.prog gl A B (.call 45 args) st (outRes st' o) := by
  rw [← ltF_eq] at hh
  exact sort_task (ρ := Tryz.sort45_ren) Tryz.sort45 Tryz.isAgg27 Tryz.sizeOf27 46 cfF (ltF_eq ▸ ltF_swo) (by rw [ltF_eq]; exact ltF_part) enters46 cmpLays46 enters45 hh
end Go.Proofs.YtefildelnccljaaGreat

namespace Go.Proofs.YtefildelnccljaaGreat
open Go Ai
@[simp, reducible] def Ji (d : Nat) (o : AOp) : AOper := ⟨some d, o, none⟩
@[simp, reducible] def Jm (d t : Nat) : AOper := ⟨some d, .mov (.t t), none⟩
@[simp, reducible] def Jk (n : Int) : AX := .k (.int .i64 n)
@[simp, reducible] def Jf (n : Nat) : AX := .k (.func (.func n) [] [])
def a2 : AFunc := ⟨1, [],
 (.reg [Ji 0 (.call (Jf 1) [])]),
 [], false⟩
def a3_0 : ACode := (.seq (.seq (.reg [Jm 10 4,
 Jm 11 0,
 Ji 12 (.lenSl (.t 11)),
 Ji 13 (.bin .lss (.t 10) (.t 12))])
 (.cond (.t 13) .skip
 (.exit 0)))
 (.seq (.block 1 (.reg [Jm 16 3,
 Jm 17 0,
 Jm 18 4,
 Ji 19 (.indexAddr 2 true none (.t 17) (.t 18)),
 Ji 20 (.load 2 true (.t 19)),
 Ji 21 (.call (Jf 15) [(.t 16), (.t 20)]),
 Jm 3 21]))
 (.reg [Jm 14 4,
 Ji 15 (.bin .add (.t 14) (Jk 1)),
 Jm 4 15])))
def a3 : AFunc := ⟨26, [.tmp 2],
 (.seq (.reg [Ji 2 (.mov (.k (.bool false)))])
 (.seq (.seq (.reg [Ji 5 (.call (Jf 14) []),
 Ji 6 (.un .not (.t 5))])
 (.cond (.t 6) (.seq (.reg [Ji 2 (.mov (.k (.bool false)))])
 .ret)
 .skip))
 (.seq (.seq (.reg [Jm 7 0,
 Ji 8 (.lenSl (.t 7)),
 Ji 9 (.bin .gtr (.t 8) (Jk 60))])
 (.cond (.t 9) (.seq (.reg [Ji 2 (.mov (.k (.bool true)))])
 .ret)
 .skip))
 (.seq (.reg [Ji 3 (.mov (.k (.lst 2 [] .tight)))])
 (.seq (.seq (.reg [Ji 4 (.mov (Jk 0))])
 (.block 0 (.loop a3_0)))
 (.seq (.reg [Jm 22 0,
 Ji 23 (.call (Jf 17) [(.t 22)]),
 Jm 24 3,
 Ji 25 (.call (Jf 16) [(.t 23), (.t 24)]),
 Jm 2 25])
 .ret)))))),
 [], false⟩
def a4 : AFunc := ⟨32, [.tmp 2],
 (.seq (.reg [Ji 2 (.mov (.k (.bool false)))])
 (.seq (.seq (.reg [Ji 4 (.call (Jf 14) []),
 Ji 5 (.un .not (.t 4))])
 (.cond (.t 5) (.seq (.reg [Ji 2 (.mov (.k (.bool false)))])
 .ret)
 .skip))
 (.seq (.seq (.reg [Jm 6 0,
 Ji 7 (.lenSl (.t 6)),
 Ji 8 (.bin .gtr (.t 7) (Jk 40))])
 (.cond (.t 8) (.seq (.reg [Ji 2 (.mov (.k (.bool true)))])
 .ret)
 .skip))
 (.seq (.reg [Jm 9 0,
 Ji 10 (.call (Jf 17) [(.t 9)]),
 Jm 3 10])
 (.seq (.reg [Jm 11 3,
 Ji 12 (.call (Jf 17) [(.t 11)]),
 Jm 13 3,
 Ji 14 (.call (Jf 16) [(.t 12), (.t 13)]),
 Jm 15 14,
 ⟨some 16, .mkLit 2 [] [] false, some (15, true)⟩,
 ⟨some 17, .mov (.t 0), some (15, true)⟩,
 ⟨some 18, .append 2 16 (some 27) (.t 16) (.t 17), some (15, true)⟩,
 ⟨some 19, .mov (.t 0), some (15, true)⟩,
 ⟨some 20, .append 2 16 (some 27) (.t 18) (.t 19), some (15, true)⟩,
 ⟨some 21, .call (Jf 17) [(.t 20)], some (15, true)⟩,
 ⟨some 22, .mov (.t 3), some (15, true)⟩,
 ⟨some 23, .call (Jf 16) [(.t 21), (.t 22)], some (15, true)⟩,
 Ji 24 (.pick (.t 15) (.t 23) (.k (.bool false))),
 Jm 25 24,
 ⟨some 26, .mov (.t 3), some (25, true)⟩,
 ⟨some 27, .lenSl (.t 26), some (25, true)⟩,
 ⟨some 28, .mov (.t 0), some (25, true)⟩,
 ⟨some 29, .lenSl (.t 28), some (25, true)⟩,
 ⟨some 30, .bin .leq (.t 27) (.t 29), some (25, true)⟩,
 Ji 31 (.pick (.t 25) (.t 30) (.k (.bool false))),
 Jm 2 31])
 .ret))))),
 [], false⟩
def a5 : AFunc := ⟨31, [.tmp 2],
 (.seq (.reg [Ji 1 (.box 2 (.t 0) false),
 Ji 2 (.mov (.k (.bool false)))])
 (.seq (.seq (.reg [Ji 3 (.call (Jf 14) []),
 Ji 4 (.un .not (.t 3))])
 (.cond (.t 4) (.seq (.reg [Ji 2 (.mov (.k (.bool false)))])
 .ret)
 .skip))
 (.seq (.seq (.reg [Ji 5 (.load 2 true (.t 1)),
 Ji 6 (.call (Jf 18) [(.t 5)])])
 (.cond (.t 6) (.seq (.reg [Ji 2 (.mov (.k (.bool true)))])
 .ret)
 .skip))
 (.seq (.seq (.reg [Ji 7 (.load 2 true (.t 1)),
 Ji 8 (.call (Jf 19) [(.t 7)]),
 Ji 9 (.un .not (.t 8))])
 (.cond (.t 9) (.seq (.reg [Ji 10 (.load 2 true (.t 1)),
 Ji 11 (.call (Jf 20) [(.t 10)]),
 Ji 12 (.lenSl (.t 11)),
 Ji 13 (.bin .eql (.t 12) (Jk 0)),
 Jm 14 13,
 ⟨some 15, .load 2 true (.t 1), some (14, true)⟩,
 ⟨some 16, .call (Jf 21) [(.t 15)], some (14, true)⟩,
 ⟨some 17, .un .not (.t 16), some (14, true)⟩,
 Ji 18 (.pick (.t 14) (.t 17) (.k (.bool false))),
 Jm 2 18])
 .ret)
 .skip))
 (.seq (.plan [⟨0, Ji 19 (.load 2 true (.t 1)), []⟩,
 ⟨2, Ji 21 (.load 2 true (.t 1)), []⟩,
 ⟨1, Ji 20 (.call (Jf 20) [(.t 19)]), [2]⟩,
 ⟨3, Ji 22 (.call (Jf 22) [(.t 21)]), []⟩,
 ⟨4, Ji 23 (.call (Jf 16) [(.t 20), (.t 22)]), []⟩,
 ⟨5, Jm 24 23, []⟩,
 ⟨6, ⟨some 25, .load 2 true (.t 1), some (24, true)⟩, []⟩,
 ⟨8, ⟨some 27, .load 2 true (.t 1), some (24, true)⟩, []⟩,
 ⟨7, ⟨some 26, .call (Jf 21) [(.t 25)], some (24, true)⟩, [8]⟩,
 ⟨9, ⟨some 28, .call (Jf 23) [(.t 27)], some (24, true)⟩, []⟩,
 ⟨10, ⟨some 29, .eqBool false (.t 26) (.t 28), some (24, true)⟩, []⟩,
 ⟨11, Ji 30 (.pick (.t 24) (.t 29) (.k (.bool false))), []⟩,
 ⟨12, Jm 2 30, []⟩])
 .ret))))),
 [], false⟩
def a9 : AFunc := ⟨31, [.tmp 2],
 (.seq (.reg [Ji 2 (.mov (.k (.bool false)))])
 (.seq (.seq (.reg [Ji 6 (.call (Jf 33) []),
 Ji 7 (.un .not (.t 6))])
 (.cond (.t 7) (.seq (.reg [Ji 2 (.mov (.k (.bool false)))])
 .ret)
 .skip))
 (.seq (.reg [Jm 9 0,
 Ji 10 (.call (Jf 24) [(.t 9), (.k (.bool false))]),
 Jm 8 10,
 Ji 11 (.extract (.t 8) 0),
 Ji 12 (.extract (.t 8) 1),
 Ji 13 (.extract (.t 8) 2),
 Ji 3 (.new (.agg [(.lst 7 [] .tight), (.lst 9 [] .tight)]) true none),
 Ji 5 (.new (.agg [(.int .i64 0), (.int .i64 0)]) true none),
 ⟨none, .store 2 (.t 3) (.t 11), none⟩,
 Jm 4 12,
 ⟨none, .store 2 (.t 5) (.t 13), none⟩])
 (.seq (.seq (.reg [Ji 14 (.fieldAddr 0 1 false (.t 5)),
 Ji 15 (.load 1 false (.t 14)),
 Ji 16 (.bin .neq (.t 15) (Jk 0)),
 Jm 17 16,
 ⟨some 18, .load 2 true (.t 3), some (17, false)⟩,
 ⟨some 19, .call (Jf 34) [(.t 18)], some (17, false)⟩,
 Ji 20 (.pick (.t 17) (.k (.bool true)) (.t 19)),
 Jm 21 20,
 ⟨some 22, .load 2 true (.t 3), some (21, false)⟩,
 ⟨some 23, .call (Jf 23) [(.t 22)], some (21, false)⟩,
 ⟨some 24, .un .not (.t 23), some (21, false)⟩,
 Ji 25 (.pick (.t 21) (.k (.bool true)) (.t 24))])
 (.cond (.t 25) (.seq (.reg [Ji 2 (.mov (.k (.bool true)))])
 .ret)
 .skip))
 (.seq (.plan [⟨0, Ji 26 (.load 2 true (.t 3)), []⟩,
 ⟨2, Ji 28 (.load 2 true (.t 3)), []⟩,
 ⟨1, Ji 27 (.call (Jf 35) [(.t 26)]), [2]⟩,
 ⟨3, Ji 29 (.call (Jf 36) [(.t 28)]), []⟩,
 ⟨4, Ji 30 (.call (Jf 16) [(.t 27), (.t 29)]), []⟩,
 ⟨5, Jm 2 30, []⟩])
 .ret))))),
 [], false⟩
def a12_0 : ACode := (.seq (.seq (.reg [Jm 46 8,
 Jm 47 7,
 Ji 48 (.lenSl (.t 47)),
 Ji 49 (.bin .lss (.t 46) (.t 48))])
 (.cond (.t 49) .skip
 (.exit 0)))
 (.seq (.block 1 (.seq (.plan [⟨0, Jm 52 7, []⟩,
 ⟨1, Jm 53 8, []⟩,
 ⟨2, Ji 54 (.indexAddr 1 false none (.t 52) (.t 53)), []⟩,
 ⟨3, Ji 55 (.load 1 false (.t 54)), []⟩,
 ⟨4, Ji 56 (.load 2 true (.t 3)), []⟩,
 ⟨5, Jm 57 1, []⟩,
 ⟨6, Jm 58 8, []⟩,
 ⟨7, Ji 59 (.call (Jf 42) [(.t 56), (.t 57), (.t 58)]), [3]⟩,
 ⟨8, Ji 60 (.bin .neq (.t 55) (.t 59)), []⟩])
 (.cond (.t 60) (.seq (.reg [Ji 6 (.mov (.k (.bool false)))])
 .ret)
 .skip)))
 (.reg [Jm 50 8,
 Ji 51 (.bin .add (.t 50) (Jk 1)),
 Jm 8 51])))
def a12 : AFunc := ⟨83, [.tmp 6],
 (.seq (.reg [Ji 3 (.box 2 (.t 0) false),
 Ji 6 (.mov (.k (.bool false)))])
 (.seq (.seq (.reg [Ji 9 (.call (Jf 33) []),
 Ji 10 (.un .not (.t 9))])
 (.cond (.t 10) (.seq (.reg [Ji 6 (.mov (.k (.bool false)))])
 .ret)
 .skip))
 (.seq (.seq (.reg [Ji 11 (.load 2 true (.t 3)),
 Ji 12 (.call (Jf 34) [(.t 11)])])
 (.cond (.t 12) (.seq (.reg [Ji 6 (.mov (.k (.bool true)))])
 .ret)
 .skip))
 (.seq (.reg [Ji 13 (.load 2 true (.t 3)),
 Jm 14 1,
 Ji 15 (.call (Jf 40) [(.t 13), (.t 14)]),
 Jm 7 15])
 (.seq (.seq (.reg [Ji 16 (.load 2 true (.t 3)),
 Ji 17 (.call (Jf 23) [(.t 16)]),
 Ji 18 (.un .not (.t 17)),
 Jm 19 18,
 ⟨some 20, .mov (.t 1), some (19, false)⟩,
 ⟨some 21, .bin .lss (.t 20) (Jk 0), some (19, false)⟩,
 Ji 22 (.pick (.t 19) (.k (.bool true)) (.t 21)),
 Jm 23 22,
 ⟨some 24, .mov (.t 1), some (23, false)⟩,
 ⟨some 25, .fieldAddr 0 1 false (.t 3), some (23, false)⟩,
 ⟨some 26, .load 1 false (.t 25), some (23, false)⟩,
 ⟨some 27, .lenSl (.t 26), some (23, false)⟩,
 ⟨some 28, .bin .geq (.t 24) (.t 27), some (23, false)⟩,
 Ji 29 (.pick (.t 23) (.k (.bool true)) (.t 28))])
 (.cond (.t 29) (.seq (.reg [Jm 30 7,
 Ji 31 (.lenSl (.t 30)),
 Ji 32 (.bin .eql (.t 31) (Jk 0)),
 Jm 33 32,
 ⟨some 34, .load 2 true (.t 3), some (33, true)⟩,
 ⟨some 35, .mov (.t 1), some (33, true)⟩,
 ⟨some 36, .mov (.t 2), some (33, true)⟩,
 ⟨some 37, .call (Jf 41) [(.t 34), (.t 35), (.t 36)], some (33, true)⟩,
 ⟨some 38, .bin .eql (.t 37) (Jk 0), some (33, true)⟩,
 Ji 39 (.pick (.t 33) (.t 38) (.k (.bool false))),
 Jm 6 39])
 .ret)
 .skip))
 (.seq (.seq (.reg [Jm 40 7,
 Ji 41 (.lenSl (.t 40)),
 Ji 42 (.fieldAddr 1 1 false (.t 3)),
 Ji 43 (.load 1 false (.t 42)),
 Ji 44 (.lenSl (.t 43)),
 Ji 45 (.bin .neq (.t 41) (.t 44))])
 (.cond (.t 45) (.seq (.reg [Ji 6 (.mov (.k (.bool false)))])
 .ret)
 .skip))
 (.seq (.seq (.reg [Ji 8 (.mov (Jk 0))])
 (.block 0 (.loop a12_0)))
 (.seq (.seq (.reg [Jm 61 2,
 Ji 62 (.bin .lss (.t 61) (Jk 0)),
 Jm 63 62,
 ⟨some 64, .mov (.t 2), some (63, false)⟩,
 ⟨some 65, .mov (.t 7), some (63, false)⟩,
 ⟨some 66, .lenSl (.t 65), some (63, false)⟩,
 ⟨some 67, .bin .geq (.t 64) (.t 66), some (63, false)⟩,
 Ji 68 (.pick (.t 63) (.k (.bool true)) (.t 67))])
 (.cond (.t 68) (.seq (.reg [Ji 69 (.load 2 true (.t 3)),
 Jm 70 1,
 Jm 71 2,
 Ji 72 (.call (Jf 41) [(.t 69), (.t 70), (.t 71)]),
 Ji 73 (.bin .eql (.t 72) (Jk 0)),
 Jm 6 73])
 .ret)
 .skip))
 (.seq (.plan [⟨0, Ji 74 (.load 2 true (.t 3)), []⟩,
 ⟨1, Jm 75 1, []⟩,
 ⟨2, Jm 76 2, []⟩,
 ⟨4, Jm 78 7, []⟩,
 ⟨5, Jm 79 2, []⟩,
 ⟨6, Ji 80 (.indexAddr 1 false none (.t 78) (.t 79)), []⟩,
 ⟨7, Ji 81 (.load 1 false (.t 80)), []⟩,
 ⟨3, Ji 77 (.call (Jf 41) [(.t 74), (.t 75), (.t 76)]), [7]⟩,
 ⟨8, Ji 82 (.bin .eql (.t 77) (.t 81)), []⟩,
 ⟨9, Jm 6 82, []⟩])
 .ret))))))))),
 [], false⟩
def a13_0 : ACode := (.seq (.seq (.reg [Jm 47 7,
 Ji 48 (.fieldAddr 0 1 false (.t 2)),
 Ji 49 (.load 1 false (.t 48)),
 Ji 50 (.lenSl (.t 49)),
 Ji 51 (.bin .lss (.t 47) (.t 50))])
 (.cond (.t 51) .skip
 (.exit 2)))
 (.seq (.block 3 (.seq (.plan [⟨0, Ji 54 (.load 2 true (.t 2)), []⟩,
 ⟨1, Jm 55 7, []⟩,
 ⟨2, Jm 56 1, []⟩,
 ⟨4, Ji 58 (.load 2 true (.t 2)), []⟩,
 ⟨5, Jm 59 1, []⟩,
 ⟨3, Ji 57 (.call (Jf 41) [(.t 54), (.t 55), (.t 56)]), [4]⟩,
 ⟨6, Ji 60 (.call (Jf 41) [(.t 58), (Jk 0), (.t 59)]), []⟩,
 ⟨7, Ji 61 (.bin .neq (.t 57) (.t 60)), []⟩])
 (.cond (.t 61) (.seq (.reg [Ji 4 (.mov (.k (.bool false)))])
 .ret)
 .skip)))
 (.reg [Jm 52 7,
 Ji 53 (.bin .add (.t 52) (Jk 1)),
 Jm 7 53])))
def a13_1 : ACode := (.seq (.seq (.reg [Jm 31 6,
 Jm 32 5,
 Ji 33 (.lenSl (.t 32)),
 Ji 34 (.bin .lss (.t 31) (.t 33))])
 (.cond (.t 34) .skip
 (.exit 0)))
 (.seq (.block 1 (.seq (.plan [⟨0, Ji 37 (.fieldAddr 1 1 false (.t 2)), []⟩,
 ⟨1, Ji 38 (.load 1 false (.t 37)), []⟩,
 ⟨2, Jm 39 5, []⟩,
 ⟨3, Jm 40 6, []⟩,
 ⟨4, Ji 41 (.indexAddr 1 false none (.t 39) (.t 40)), []⟩,
 ⟨5, Ji 42 (.load 1 false (.t 41)), []⟩,
 ⟨6, Ji 43 (.indexAddr 9 true none (.t 38) (.t 42)), []⟩,
 ⟨7, Ji 44 (.fieldAddr 0 1 false (.t 43)), []⟩,
 ⟨8, Ji 45 (.load 1 false (.t 44)), []⟩,
 ⟨9, Ji 46 (.bin .eql (.t 45) (Jk 3)), []⟩])
 (.cond (.t 46) (.seq (.reg [Ji 4 (.mov (.k (.bool true)))])
 .ret)
 .skip)))
 (.reg [Jm 35 6,
 Ji 36 (.bin .add (.t 35) (Jk 1)),
 Jm 6 36])))
def a13 : AFunc := ⟨62, [.tmp 4],
 (.seq (.reg [Ji 2 (.box 2 (.t 0) false),
 Ji 4 (.mov (.k (.bool false)))])
 (.seq (.seq (.reg [Ji 8 (.call (Jf 33) []),
 Ji 9 (.un .not (.t 8))])
 (.cond (.t 9) (.seq (.reg [Ji 4 (.mov (.k (.bool false)))])
 .ret)
 .skip))
 (.seq (.seq (.reg [Ji 10 (.load 2 true (.t 2)),
 Ji 11 (.call (Jf 34) [(.t 10)]),
 Jm 12 11,
 ⟨some 13, .load 2 true (.t 2), some (12, false)⟩,
 ⟨some 14, .call (Jf 23) [(.t 13)], some (12, false)⟩,
 ⟨some 15, .un .not (.t 14), some (12, false)⟩,
 Ji 16 (.pick (.t 12) (.k (.bool true)) (.t 15)),
 Jm 17 16,
 ⟨some 18, .mov (.t 1), some (17, false)⟩,
 ⟨some 19, .bin .lss (.t 18) (Jk 0), some (17, false)⟩,
 Ji 20 (.pick (.t 17) (.k (.bool true)) (.t 19)),
 Jm 21 20,
 ⟨some 22, .mov (.t 1), some (21, false)⟩,
 ⟨some 23, .fieldAddr 1 1 false (.t 2), some (21, false)⟩,
 ⟨some 24, .load 1 false (.t 23), some (21, false)⟩,
 ⟨some 25, .lenSl (.t 24), some (21, false)⟩,
 ⟨some 26, .bin .geq (.t 22) (.t 25), some (21, false)⟩,
 Ji 27 (.pick (.t 21) (.k (.bool true)) (.t 26))])
 (.cond (.t 27) (.seq (.reg [Ji 4 (.mov (.k (.bool true)))])
 .ret)
 .skip))
 (.seq (.reg [Ji 28 (.load 2 true (.t 2)),
 Jm 29 1,
 Ji 30 (.call (Jf 43) [(.t 28), (.t 29), (.k (.lst 1 [] .tight)), (Jk 400)]),
 Jm 5 30])
 (.seq (.seq (.reg [Ji 6 (.mov (Jk 0))])
 (.block 0 (.loop a13_1)))
 (.seq (.seq (.reg [Ji 7 (.mov (Jk 0))])
 (.block 2 (.loop a13_0)))
 (.seq (.reg [Ji 4 (.mov (.k (.bool true)))])
 .ret))))))),
 [], false⟩
def a15_0 : ACode := (.seq (.seq (.reg [Jm 8 7,
 Jm 9 0,
 Ji 10 (.lenSl (.t 9)),
 Ji 11 (.bin .lss (.t 8) (.t 10))])
 (.cond (.t 11) .skip
 (.exit 0)))
 (.seq (.block 1 (.seq (.seq (.plan [⟨0, Jm 14 0, []⟩,
 ⟨1, Jm 15 7, []⟩,
 ⟨2, Ji 16 (.indexAddr 2 true none (.t 14) (.t 15)), []⟩,
 ⟨3, Ji 17 (.load 2 true (.t 16)), []⟩,
 ⟨4, Ji 18 (.load 2 true (.t 3)), []⟩,
 ⟨5, Ji 19 (.eqAgg [0, 0] false (.t 17) (.t 18)), []⟩])
 (.cond (.t 19) (.seq (.reg [Jm 20 0,
 Jm 4 20])
 .ret)
 .skip))
 (.seq (.seq (.plan [⟨0, Jm 21 6, []⟩,
 ⟨1, Ji 22 (.un .not (.t 21)), []⟩,
 ⟨2, Jm 23 22, []⟩,
 ⟨3, ⟨some 24, .mov (.t 0), some (23, true)⟩, []⟩,
 ⟨4, ⟨some 25, .mov (.t 7), some (23, true)⟩, []⟩,
 ⟨5, ⟨some 26, .indexAddr 2 true none (.t 24) (.t 25), some (23, true)⟩, []⟩,
 ⟨6, ⟨some 27, .fieldAddr 1 1 false (.t 26), some (23, true)⟩, []⟩,
 ⟨7, ⟨some 28, .load 1 false (.t 27), some (23, true)⟩, []⟩,
 ⟨8, ⟨some 29, .fieldAddr 1 1 false (.t 3), some (23, true)⟩, []⟩,
 ⟨9, ⟨some 30, .load 1 false (.t 29), some (23, true)⟩, []⟩,
 ⟨10, ⟨some 31, .bin .gtr (.t 28) (.t 30), some (23, true)⟩, []⟩,
 ⟨11, ⟨some 32, .mov (.t 31), some (23, true)⟩, []⟩,
 ⟨12, ⟨some 33, .mov (.t 0), some (32, false)⟩, []⟩,
 ⟨13, ⟨some 34, .mov (.t 7), some (32, false)⟩, []⟩,
 ⟨14, ⟨some 35, .indexAddr 2 true none (.t 33) (.t 34), some (32, false)⟩, []⟩,
 ⟨15, ⟨some 36, .fieldAddr 1 1 false (.t 35), some (32, false)⟩, []⟩,
 ⟨16, ⟨some 37, .load 1 false (.t 36), some (32, false)⟩, []⟩,
 ⟨17, ⟨some 38, .fieldAddr 1 1 false (.t 3), some (32, false)⟩, []⟩,
 ⟨18, ⟨some 39, .load 1 false (.t 38), some (32, false)⟩, []⟩,
 ⟨19, ⟨some 40, .bin .eql (.t 37) (.t 39), some (32, false)⟩, []⟩,
 ⟨20, ⟨some 41, .mov (.t 40), some (32, false)⟩, []⟩,
 ⟨21, ⟨some 42, .mov (.t 0), some (41, true)⟩, []⟩,
 ⟨22, ⟨some 43, .mov (.t 7), some (41, true)⟩, []⟩,
 ⟨23, ⟨some 44, .indexAddr 2 true none (.t 42) (.t 43), some (41, true)⟩, []⟩,
 ⟨24, ⟨some 45, .fieldAddr 0 1 false (.t 44), some (41, true)⟩, []⟩,
 ⟨25, ⟨some 46, .load 1 false (.t 45), some (41, true)⟩, []⟩,
 ⟨26, ⟨some 47, .fieldAddr 0 1 false (.t 3), some (41, true)⟩, []⟩,
 ⟨27, ⟨some 48, .load 1 false (.t 47), some (41, true)⟩, []⟩,
 ⟨28, ⟨some 49, .bin .gtr (.t 46) (.t 48), some (41, true)⟩, []⟩,
 ⟨29, ⟨some 50, .pick (.t 41) (.t 49) (.k (.bool false)), some (32, false)⟩, []⟩,
 ⟨30, ⟨some 51, .pick (.t 32) (.k (.bool true)) (.t 50), some (23, true)⟩, []⟩,
 ⟨31, Ji 52 (.pick (.t 23) (.t 51) (.k (.bool false))), []⟩])
 (.cond (.t 52) (.seq (.reg [Jm 53 5,
 Ji 54 (.load 2 true (.t 3)),
 Ji 55 (.mkLit 2 [(.int .i64 0), (.int .i64 0)] [(0, 2, (.t 54))] false),
 Ji 56 (.append 2 16 (some 27) (.t 53) (.t 55)),
 Jm 5 56])
 (.reg [Ji 6 (.mov (.k (.bool true)))]))
 .skip))
 (.reg [Jm 57 5,
 Jm 58 0,
 Jm 59 7,
 Ji 60 (.indexAddr 2 true none (.t 58) (.t 59)),
 Ji 61 (.load 2 true (.t 60)),
 Ji 62 (.mkLit 2 [(.int .i64 0), (.int .i64 0)] [(0, 2, (.t 61))] false),
 Ji 63 (.append 2 16 (some 27) (.t 57) (.t 62)),
 Jm 5 63]))))
 (.reg [Jm 12 7,
 Ji 13 (.bin .add (.t 12) (Jk 1)),
 Jm 7 13])))
def a15 : AFunc := ⟨71, [.tmp 4],
 (.seq (.reg [Ji 3 (.box 2 (.t 1) false),
 Ji 4 (.mov (.k (.lst 2 [] .tight)))])
 (.seq (.reg [Ji 5 (.mov (.k (.lst 2 [] .tight)))])
 (.seq (.reg [Ji 6 (.mov (.k (.bool false)))])
 (.seq (.seq (.reg [Ji 7 (.mov (Jk 0))])
 (.block 0 (.loop a15_0)))
 (.seq (.seq (.reg [Jm 64 6,
 Ji 65 (.un .not (.t 64))])
 (.cond (.t 65) (.reg [Jm 66 5,
 Ji 67 (.load 2 true (.t 3)),
 Ji 68 (.mkLit 2 [(.int .i64 0), (.int .i64 0)] [(0, 2, (.t 67))] false),
 Ji 69 (.append 2 16 (some 27) (.t 66) (.t 68)),
 Jm 5 69])
 .skip))
 (.seq (.reg [Jm 70 5,
 Jm 4 70])
 .ret)))))),
 [], false⟩
def a17 : AFunc := ⟨10, [.tmp 2],
 (.seq (.reg [Ji 2 (.mov (.k (.lst 2 [] .tight)))])
 (.seq (.reg [Jm 4 0,
 Ji 5 (.call (Jf 44) [(.t 4)]),
 Jm 3 5])
 (.seq (.reg [Jm 6 3,
 Ji 7 (.call (Jf 45) [(.t 6), (Jf 46)])])
 (.seq (.reg [Jm 8 3,
 Ji 9 (.call (Jf 50) [(.t 8)]),
 Jm 2 9])
 .ret)))),
 [], false⟩
def a18_0 : ACode := (.seq (.seq (.reg [Jm 76 6,
 Ji 77 (.fieldAddr 0 1 false (.t 1)),
 Ji 78 (.load 1 false (.t 77)),
 Jm 79 5,
 Ji 80 (.indexAddr 7 true none (.t 78) (.t 79)),
 Ji 81 (.fieldAddr 3 1 false (.t 80)),
 Ji 82 (.load 1 false (.t 81)),
 Ji 83 (.lenSl (.t 82)),
 Ji 84 (.bin .lss (.t 76) (.t 83)),
 Jm 85 84,
 ⟨some 86, .mov (.t 6), some (85, true)⟩,
 ⟨some 87, .bin .lss (.t 86) (Jk 1000), some (85, true)⟩,
 Ji 88 (.pick (.t 85) (.t 87) (.k (.bool false)))])
 (.cond (.t 88) .skip
 (.exit 4)))
 (.seq (.block 5 (.reg [Jm 91 3,
 Ji 92 (.bin .add (.t 91) (Jk 1)),
 Ji 93 (.fieldAddr 0 1 false (.t 1)),
 Ji 94 (.load 1 false (.t 93)),
 Jm 95 5,
 Ji 96 (.indexAddr 7 true none (.t 94) (.t 95)),
 Ji 97 (.fieldAddr 3 1 false (.t 96)),
 Ji 98 (.load 1 false (.t 97)),
 Jm 99 6,
 Ji 100 (.indexAddr 9 true none (.t 98) (.t 99)),
 Ji 101 (.fieldAddr 5 1 false (.t 100)),
 Ji 102 (.load 1 false (.t 101)),
 Ji 103 (.lenSl (.t 102)),
 Ji 104 (.bin .add (.t 92) (.t 103)),
 Jm 3 104]))
 (.reg [Jm 89 6,
 Ji 90 (.bin .add (.t 89) (Jk 1)),
 Jm 6 90])))
def a18_1 : ACode := (.seq (.seq (.reg [Jm 51 5,
 Ji 52 (.fieldAddr 0 1 false (.t 1)),
 Ji 53 (.load 1 false (.t 52)),
 Ji 54 (.lenSl (.t 53)),
 Ji 55 (.bin .lss (.t 51) (.t 54))])
 (.cond (.t 55) .skip
 (.exit 2)))
 (.seq (.block 3 (.seq (.plan [⟨0, Jm 58 3, []⟩,
 ⟨1, Ji 59 (.fieldAddr 0 1 false (.t 1)), []⟩,
 ⟨2, Ji 60 (.load 1 false (.t 59)), []⟩,
 ⟨3, Jm 61 5, []⟩,
 ⟨4, Ji 62 (.indexAddr 7 true none (.t 60) (.t 61)), []⟩,
 ⟨5, Ji 63 (.fieldAddr 2 1 false (.t 62)), []⟩,
 ⟨6, Ji 64 (.load 1 false (.t 63)), []⟩,
 ⟨7, Ji 65 (.lenSl (.t 64)), []⟩,
 ⟨8, Ji 66 (.bin .add (.t 58) (.t 65)), []⟩,
 ⟨9, Ji 67 (.fieldAddr 0 1 false (.t 1)), []⟩,
 ⟨10, Ji 68 (.load 1 false (.t 67)), []⟩,
 ⟨11, Jm 69 5, []⟩,
 ⟨12, Ji 70 (.indexAddr 7 true none (.t 68) (.t 69)), []⟩,
 ⟨13, Ji 71 (.fieldAddr 1 1 false (.t 70)), []⟩,
 ⟨14, Ji 72 (.load 1 false (.t 71)), []⟩,
 ⟨15, Ji 73 (.lenStr (.t 72)), []⟩,
 ⟨16, Ji 74 (.bin .quo (.t 73) (Jk 100)), []⟩,
 ⟨17, Ji 75 (.bin .add (.t 66) (.t 74)), []⟩,
 ⟨18, Jm 3 75, []⟩])
 (.seq (.reg [Ji 6 (.mov (Jk 0))])
 (.block 4 (.loop a18_0)))))
 (.reg [Jm 56 5,
 Ji 57 (.bin .add (.t 56) (Jk 1)),
 Jm 5 57])))
def a18_2 : ACode := (.seq (.seq (.reg [Jm 17 4,
 Ji 18 (.fieldAddr 1 1 false (.t 1)),
 Ji 19 (.load 1 false (.t 18)),
 Ji 20 (.lenSl (.t 19)),
 Ji 21 (.bin .lss (.t 17) (.t 20))])
 (.cond (.t 21) .skip
 (.exit 0)))
 (.seq (.block 1 (.plan [⟨0, Jm 24 3, []⟩,
 ⟨1, Ji 25 (.fieldAddr 1 1 false (.t 1)), []⟩,
 ⟨2, Ji 26 (.load 1 false (.t 25)), []⟩,
 ⟨3, Jm 27 4, []⟩,
 ⟨4, Ji 28 (.indexAddr 9 true none (.t 26) (.t 27)), []⟩,
 ⟨5, Ji 29 (.fieldAddr 7 1 false (.t 28)), []⟩,
 ⟨6, Ji 30 (.load 1 false (.t 29)), []⟩,
 ⟨7, Ji 31 (.lenSl (.t 30)), []⟩,
 ⟨8, Ji 32 (.bin .add (.t 24) (.t 31)), []⟩,
 ⟨9, Ji 33 (.fieldAddr 1 1 false (.t 1)), []⟩,
 ⟨10, Ji 34 (.load 1 false (.t 33)), []⟩,
 ⟨11, Jm 35 4, []⟩,
 ⟨12, Ji 36 (.indexAddr 9 true none (.t 34) (.t 35)), []⟩,
 ⟨13, Ji 37 (.fieldAddr 4 1 false (.t 36)), []⟩,
 ⟨14, Ji 38 (.load 1 false (.t 37)), []⟩,
 ⟨15, Ji 39 (.lenStr (.t 38)), []⟩,
 ⟨16, Ji 40 (.bin .quo (.t 39) (Jk 100)), []⟩,
 ⟨17, Ji 41 (.bin .add (.t 32) (.t 40)), []⟩,
 ⟨18, Ji 42 (.fieldAddr 1 1 false (.t 1)), []⟩,
 ⟨19, Ji 43 (.load 1 false (.t 42)), []⟩,
 ⟨20, Jm 44 4, []⟩,
 ⟨21, Ji 45 (.indexAddr 9 true none (.t 43) (.t 44)), []⟩,
 ⟨22, Ji 46 (.fieldAddr 5 1 false (.t 45)), []⟩,
 ⟨23, Ji 47 (.load 1 false (.t 46)), []⟩,
 ⟨24, Ji 48 (.lenStr (.t 47)), []⟩,
 ⟨25, Ji 49 (.bin .quo (.t 48) (Jk 100)), []⟩,
 ⟨26, Ji 50 (.bin .add (.t 41) (.t 49)), []⟩,
 ⟨27, Jm 3 50, []⟩]))
 (.reg [Jm 22 4,
 Ji 23 (.bin .add (.t 22) (Jk 1)),
 Jm 4 23])))
def a18 : AFunc := ⟨107, [.tmp 2],
 (.seq (.reg [Ji 1 (.box 2 (.t 0) false),
 Ji 2 (.mov (.k (.bool false)))])
 (.seq (.seq (.reg [Ji 7 (.fieldAddr 1 1 false (.t 1)),
 Ji 8 (.load 1 false (.t 7)),
 Ji 9 (.lenSl (.t 8)),
 Ji 10 (.bin .gtr (.t 9) (Jk 300)),
 Jm 11 10,
 ⟨some 12, .fieldAddr 0 1 false (.t 1), some (11, false)⟩,
 ⟨some 13, .load 1 false (.t 12), some (11, false)⟩,
 ⟨some 14, .lenSl (.t 13), some (11, false)⟩,
 ⟨some 15, .bin .gtr (.t 14) (Jk 60), some (11, false)⟩,
 Ji 16 (.pick (.t 11) (.k (.bool true)) (.t 15))])
 (.cond (.t 16) (.seq (.reg [Ji 2 (.mov (.k (.bool true)))])
 .ret)
 .skip))
 (.seq (.reg [Ji 3 (.mov (Jk 0))])
 (.seq (.seq (.reg [Ji 4 (.mov (Jk 0))])
 (.block 0 (.loop a18_2)))
 (.seq (.seq (.reg [Ji 5 (.mov (Jk 0))])
 (.block 2 (.loop a18_1)))
 (.seq (.reg [Jm 105 3,
 Ji 106 (.bin .gtr (.t 105) (Jk 600)),
 Jm 2 106])
 .ret)))))),
 [], false⟩
def a19_0 : ACode := (.seq (.seq (.reg [Jm 29 4,
 Ji 30 (.fieldAddr 0 1 false (.t 1)),
 Ji 31 (.load 1 false (.t 30)),
 Jm 32 3,
 Ji 33 (.indexAddr 7 true none (.t 31) (.t 32)),
 Ji 34 (.fieldAddr 3 1 false (.t 33)),
 Ji 35 (.load 1 false (.t 34)),
 Ji 36 (.lenSl (.t 35)),
 Ji 37 (.bin .lss (.t 29) (.t 36))])
 (.cond (.t 37) .skip
 (.exit 2)))
 (.seq (.block 3 (.seq (.reg [Ji 40 (.fieldAddr 0 1 false (.t 1)),
 Ji 41 (.load 1 false (.t 40)),
 Jm 42 3,
 Ji 43 (.indexAddr 7 true none (.t 41) (.t 42)),
 Ji 44 (.fieldAddr 3 1 false (.t 43)),
 Ji 45 (.load 1 false (.t 44)),
 Jm 46 4,
 Ji 47 (.indexAddr 9 true none (.t 45) (.t 46)),
 Ji 48 (.load 9 true (.t 47)),
 Ji 5 (.new (.agg [(.int .i64 0), (.str []), (.int .i64 0), (.int .i64 0), (.int .i64 0), (.lst 1 [] .tight), (.str []), (.str []), (.int .i64 0)]) true none),
 ⟨none, .store 9 (.t 5) (.t 48), none⟩])
 (.seq (.reg [Ji 49 (.fieldAddr 0 1 false (.t 5)),
 Ji 50 (.load 1 false (.t 49)),
 Ji 51 (.bin .lss (.t 50) (Jk 1)),
 Jm 52 51,
 ⟨some 53, .fieldAddr 0 1 false (.t 5), some (52, false)⟩,
 ⟨some 54, .load 1 false (.t 53), some (52, false)⟩,
 ⟨some 55, .bin .gtr (.t 54) (Jk 8), some (52, false)⟩,
 Ji 56 (.pick (.t 52) (.k (.bool true)) (.t 55)),
 Jm 57 56,
 ⟨some 58, .fieldAddr 0 1 false (.t 1), some (57, false)⟩,
 ⟨some 59, .load 1 false (.t 58), some (57, false)⟩,
 ⟨some 60, .mov (.t 3), some (57, false)⟩,
 ⟨some 61, .indexAddr 7 true none (.t 59) (.t 60), some (57, false)⟩,
 ⟨some 62, .fieldAddr 0 1 false (.t 61), some (57, false)⟩,
 ⟨some 63, .load 1 false (.t 62), some (57, false)⟩,
 ⟨some 64, .bin .lss (.t 63) (Jk 3), some (57, false)⟩,
 ⟨some 65, .mov (.t 64), some (57, false)⟩,
 ⟨some 66, .fieldAddr 0 1 false (.t 5), some (65, true)⟩,
 ⟨some 67, .load 1 false (.t 66), some (65, true)⟩,
 ⟨some 68, .bin .neq (.t 67) (Jk 1), some (65, true)⟩,
 ⟨some 69, .pick (.t 65) (.t 68) (.k (.bool false)), some (57, false)⟩,
 Ji 70 (.pick (.t 57) (.k (.bool true)) (.t 69)),
 Jm 71 70,
 ⟨some 72, .fieldAddr 0 1 false (.t 5), some (71, false)⟩,
 ⟨some 73, .load 1 false (.t 72), some (71, false)⟩,
 ⟨some 74, .bin .eql (.t 73) (Jk 6), some (71, false)⟩,
 ⟨some 75, .mov (.t 74), some (71, false)⟩,
 ⟨some 76, .fieldAddr 5 1 false (.t 5), some (75, true)⟩,
 ⟨some 77, .load 1 false (.t 76), some (75, true)⟩,
 ⟨some 78, .lenSl (.t 77), some (75, true)⟩,
 ⟨some 79, .bin .eql (.t 78) (Jk 0), some (75, true)⟩,
 ⟨some 80, .pick (.t 75) (.t 79) (.k (.bool false)), some (71, false)⟩,
 Ji 81 (.pick (.t 71) (.k (.bool true)) (.t 80))])
 (.cond (.t 81) (.seq (.reg [Ji 2 (.mov (.k (.bool false)))])
 .ret)
 .skip))))
 (.reg [Jm 38 4,
 Ji 39 (.bin .add (.t 38) (Jk 1)),
 Jm 4 39])))
def a19_1 : ACode := (.seq (.seq (.reg [Jm 6 3,
 Ji 7 (.fieldAddr 0 1 false (.t 1)),
 Ji 8 (.load 1 false (.t 7)),
 Ji 9 (.lenSl (.t 8)),
 Ji 10 (.bin .lss (.t 6) (.t 9))])
 (.cond (.t 10) .skip
 (.exit 0)))
 (.seq (.block 1 (.seq (.seq (.reg [Ji 13 (.fieldAddr 0 1 false (.t 1)),
 Ji 14 (.load 1 false (.t 13)),
 Jm 15 3,
 Ji 16 (.indexAddr 7 true none (.t 14) (.t 15)),
 Ji 17 (.fieldAddr 0 1 false (.t 16)),
 Ji 18 (.load 1 false (.t 17)),
 Ji 19 (.bin .lss (.t 18) (Jk 1)),
 Jm 20 19,
 ⟨some 21, .fieldAddr 0 1 false (.t 1), some (20, false)⟩,
 ⟨some 22, .load 1 false (.t 21), some (20, false)⟩,
 ⟨some 23, .mov (.t 3), some (20, false)⟩,
 ⟨some 24, .indexAddr 7 true none (.t 22) (.t 23), some (20, false)⟩,
 ⟨some 25, .fieldAddr 0 1 false (.t 24), some (20, false)⟩,
 ⟨some 26, .load 1 false (.t 25), some (20, false)⟩,
 ⟨some 27, .bin .gtr (.t 26) (Jk 3), some (20, false)⟩,
 Ji 28 (.pick (.t 20) (.k (.bool true)) (.t 27))])
 (.cond (.t 28) (.seq (.reg [Ji 2 (.mov (.k (.bool false)))])
 .ret)
 .skip))
 (.seq (.reg [Ji 4 (.mov (Jk 0))])
 (.block 2 (.loop a19_0)))))
 (.reg [Jm 11 3,
 Ji 12 (.bin .add (.t 11) (Jk 1)),
 Jm 3 12])))
def a19 : AFunc := ⟨84, [.tmp 2],
 (.seq (.reg [Ji 1 (.box 2 (.t 0) false),
 Ji 2 (.mov (.k (.bool false)))])
 (.seq (.seq (.reg [Ji 3 (.mov (Jk 0))])
 (.block 0 (.loop a19_1)))
 (.seq (.reg [Ji 82 (.load 2 true (.t 1)),
 Ji 83 (.call (Jf 51) [(.t 82)]),
 Jm 2 83])
 .ret))),
 [], false⟩
def a20 : AFunc := ⟨18, [.tmp 2],
 (.seq (.reg [Ji 1 (.box 2 (.t 0) false),
 Ji 2 (.mov (.k (.lst 2 [] .tight)))])
 (.seq (.seq (.reg [Ji 5 (.load 2 true (.t 1)),
 Ji 6 (.call (Jf 52) [(.t 5)]),
 Ji 7 (.un .not (.t 6))])
 (.cond (.t 7) (.seq (.reg [Ji 2 (.mov (.k (.lst 2 [] .tight)))])
 .ret)
 .skip))
 (.seq (.reg [Ji 3 (.new (.lst 2 [] .tight) true none)])
 (.seq (.seq (.reg [Ji 8 (.load 2 true (.t 1)),
 Ji 9 (.call (Jf 53) [(.t 8)])])
 (.block 0 (.rangeFunc (.t 9) [10] 0)))
 (.seq (.reg [Ji 16 (.load 1 false (.t 3)),
 Ji 17 (.call (Jf 17) [(.t 16)]),
 Jm 2 17])
 .ret))))),
 [((.reg [Jm 4 10]), (.block 1 (.reg [Ji 11 (.load 1 false (.t 3)),
 Jm 12 4,
 Ji 13 (.build [(.int .i64 0), (.int .i64 0)] [(0, 1, (Jk 4)), (1, 1, (.t 12))]),
 Ji 14 (.mkLit 2 [(.int .i64 0), (.int .i64 0)] [(0, 2, (.t 13))] false),
 Ji 15 (.append 2 16 (some 27) (.t 11) (.t 14)),
 ⟨none, .store 1 (.t 3) (.t 15), none⟩])))], false⟩
def a21 : AFunc := ⟨11, [.tmp 2],
 (.seq (.reg [Ji 1 (.box 2 (.t 0) false),
 Ji 2 (.mov (.k (.bool false)))])
 (.seq (.reg [Ji 3 (.load 2 true (.t 1)),
 Ji 4 (.call (Jf 52) [(.t 3)]),
 Jm 5 4,
 ⟨some 6, .load 2 true (.t 1), some (5, true)⟩,
 ⟨some 7, .call (Jf 20) [(.t 6)], some (5, true)⟩,
 ⟨some 8, .lenSl (.t 7), some (5, true)⟩,
 ⟨some 9, .bin .eql (.t 8) (Jk 0), some (5, true)⟩,
 Ji 10 (.pick (.t 5) (.t 9) (.k (.bool false))),
 Jm 2 10])
 .ret)),
 [], false⟩
def a22_0 : ACode := (.seq (.seq (.reg [Jm 215 17,
 Jm 216 16,
 Ji 217 (.lenSl (.t 216)),
 Ji 218 (.bin .lss (.t 215) (.t 217))])
 (.cond (.t 218) .skip
 (.exit 13)))
 (.seq (.block 14 (.seq (.seq (.reg [Jm 221 16,
 Jm 222 17,
 Ji 223 (.indexAddr 1 false none (.t 221) (.t 222)),
 Ji 224 (.load 1 false (.t 223)),
 Ji 225 (.un .not (.t 224))])
 (.cond (.t 225) (.exit 14)
 .skip))
 (.seq (.reg [Ji 226 (.fieldAddr 1 1 false (.t 1)),
 Ji 227 (.load 1 false (.t 226)),
 Jm 228 17,
 Ji 229 (.indexAddr 9 true none (.t 227) (.t 228)),
 Ji 230 (.load 9 true (.t 229)),
 Ji 18 (.new (.agg [(.int .i64 0), (.int .i64 0), (.int .i64 0), (.int .i64 0), (.str []), (.str []), (.int .i64 0), (.lst 1 [] .tight), (.int .i64 0)]) true none),
 ⟨none, .store 9 (.t 18) (.t 230), none⟩])
 (.seq (.reg [Ji 19 (.mov (.k (.bool false)))])
 (.seq (.reg [Ji 232 (.load 7 true (.t 6)),
 Ji 233 (.fieldAddr 4 1 false (.t 18)),
 Ji 234 (.load 1 false (.t 233)),
 Ji 235 (.call (Jf 32) [(.t 232), (.t 234)]),
 Jm 231 235,
 Ji 236 (.extract (.t 231) 0),
 Ji 237 (.extract (.t 231) 1),
 Ji 20 (.new (.agg [(.str []), (.int .i64 0), (.int .i64 0), (.int .i64 0)]) true none),
 ⟨none, .store 4 (.t 20) (.t 236), none⟩,
 Jm 21 237])
 (.seq (.seq (.reg [Ji 238 (.fieldAddr 0 1 false (.t 18)),
 Ji 239 (.load 1 false (.t 238)),
 Ji 240 (.bin .eql (.t 239) (Jk 3))])
 (.cond (.t 240) (.reg [Jm 241 21,
 Ji 242 (.un .not (.t 241)),
 Jm 243 242,
 ⟨some 244, .fieldAddr 1 1 false (.t 20), some (243, false)⟩,
 ⟨some 245, .load 1 false (.t 244), some (243, false)⟩,
 ⟨some 246, .bin .eql (.t 245) (Jk 5), some (243, false)⟩,
 Ji 247 (.pick (.t 243) (.k (.bool true)) (.t 246)),
 Jm 19 247])
 .skip))
 (.seq (.seq (.reg [Ji 248 (.fieldAddr 0 1 false (.t 18)),
 Ji 249 (.load 1 false (.t 248)),
 Ji 250 (.bin .eql (.t 249) (Jk 20))])
 (.cond (.t 250) (.reg [Ji 251 (.load 7 true (.t 6)),
 Ji 252 (.fieldAddr 4 1 false (.t 18)),
 Ji 253 (.load 1 false (.t 252)),
 Ji 254 (.fieldAddr 5 1 false (.t 18)),
 Ji 255 (.load 1 false (.t 254)),
 Ji 256 (.call (Jf 54) [(.t 251), (.t 253), (.t 255)]),
 Ji 257 (.un .not (.t 256)),
 Jm 19 257])
 .skip))
 (.seq (.seq (.reg [Ji 258 (.fieldAddr 0 1 false (.t 18)),
 Ji 259 (.load 1 false (.t 258)),
 Ji 260 (.bin .eql (.t 259) (Jk 19))])
 (.cond (.t 260) (.seq (.reg [Ji 261 (.load 2 true (.t 1)),
 Ji 262 (.fieldAddr 4 1 false (.t 18)),
 Ji 263 (.load 1 false (.t 262)),
 Ji 264 (.call (Jf 29) [(.t 261), (.t 263)]),
 Jm 22 264])
 (.plan [⟨0, Jm 265 22, []⟩,
 ⟨1, Ji 266 (.bin .lss (.t 265) (Jk 0)), []⟩,
 ⟨2, Jm 267 266, []⟩,
 ⟨3, ⟨some 268, .fieldAddr 0 1 false (.t 1), some (267, false)⟩, []⟩,
 ⟨4, ⟨some 269, .load 1 false (.t 268), some (267, false)⟩, []⟩,
 ⟨5, ⟨some 270, .mov (.t 22), some (267, false)⟩, []⟩,
 ⟨6, ⟨some 271, .indexAddr 7 true none (.t 269) (.t 270), some (267, false)⟩, []⟩,
 ⟨7, ⟨some 272, .fieldAddr 0 1 false (.t 271), some (267, false)⟩, []⟩,
 ⟨8, ⟨some 273, .load 1 false (.t 272), some (267, false)⟩, []⟩,
 ⟨9, ⟨some 274, .bin .eql (.t 273) (Jk 3), some (267, false)⟩, []⟩,
 ⟨10, Ji 275 (.pick (.t 267) (.k (.bool true)) (.t 274)), []⟩,
 ⟨11, Jm 276 275, []⟩,
 ⟨12, ⟨some 277, .fieldAddr 0 1 false (.t 1), some (276, false)⟩, []⟩,
 ⟨13, ⟨some 278, .load 1 false (.t 277), some (276, false)⟩, []⟩,
 ⟨14, ⟨some 279, .mov (.t 22), some (276, false)⟩, []⟩,
 ⟨15, ⟨some 280, .indexAddr 7 true none (.t 278) (.t 279), some (276, false)⟩, []⟩,
 ⟨16, ⟨some 281, .fieldAddr 2 1 false (.t 280), some (276, false)⟩, []⟩,
 ⟨17, ⟨some 282, .load 1 false (.t 281), some (276, false)⟩, []⟩,
 ⟨18, ⟨some 283, .lenSl (.t 282), some (276, false)⟩, []⟩,
 ⟨19, ⟨some 284, .fieldAddr 7 1 false (.t 18), some (276, false)⟩, []⟩,
 ⟨20, ⟨some 285, .load 1 false (.t 284), some (276, false)⟩, []⟩,
 ⟨21, ⟨some 286, .lenSl (.t 285), some (276, false)⟩, []⟩,
 ⟨22, ⟨some 287, .bin .neq (.t 283) (.t 286), some (276, false)⟩, []⟩,
 ⟨23, Ji 288 (.pick (.t 276) (.k (.bool true)) (.t 287)), []⟩,
 ⟨24, Jm 19 288, []⟩]))
 .skip))
 (.seq (.reg [Jm 289 19])
 (.cond (.t 289) (.reg [Jm 290 3,
 Ji 291 (.fieldAddr 8 1 false (.t 18)),
 Ji 292 (.load 1 false (.t 291)),
 Ji 293 (.build [(.int .i64 0), (.int .i64 0)] [(0, 1, (Jk 4)), (1, 1, (.t 292))]),
 Ji 294 (.call (Jf 15) [(.t 290), (.t 293)]),
 Jm 3 294])
 .skip))))))))))
 (.reg [Jm 219 17,
 Ji 220 (.bin .add (.t 219) (Jk 1)),
 Jm 17 220])))
def a22_1 : ACode := (.seq (.seq (.reg [Jm 137 15,
 Jm 138 14,
 Ji 139 (.bin .lss (.t 137) (.t 138))])
 (.cond (.t 139) .skip
 (.exit 11)))
 (.seq (.block 12 (.plan [⟨0, Jm 142 13, []⟩,
 ⟨1, Jm 143 142, []⟩,
 ⟨2, ⟨some 144, .fieldAddr 5 1 false (.t 10), some (143, false)⟩, []⟩,
 ⟨3, ⟨some 145, .load 1 false (.t 144), some (143, false)⟩, []⟩,
 ⟨4, ⟨some 146, .mov (.t 14), some (143, false)⟩, []⟩,
 ⟨5, ⟨some 147, .indexAddr 1 false none (.t 145) (.t 146), some (143, false)⟩, []⟩,
 ⟨6, ⟨some 148, .load 1 false (.t 147), some (143, false)⟩, []⟩,
 ⟨7, ⟨some 149, .fieldAddr 5 1 false (.t 10), some (143, false)⟩, []⟩,
 ⟨8, ⟨some 150, .load 1 false (.t 149), some (143, false)⟩, []⟩,
 ⟨9, ⟨some 151, .mov (.t 15), some (143, false)⟩, []⟩,
 ⟨10, ⟨some 152, .indexAddr 1 false none (.t 150) (.t 151), some (143, false)⟩, []⟩,
 ⟨11, ⟨some 153, .load 1 false (.t 152), some (143, false)⟩, []⟩,
 ⟨12, ⟨some 154, .bin .eql (.t 148) (.t 153), some (143, false)⟩, []⟩,
 ⟨13, Ji 155 (.pick (.t 143) (.k (.bool true)) (.t 154)), []⟩,
 ⟨14, Jm 13 155, []⟩]))
 (.reg [Jm 140 15,
 Ji 141 (.bin .add (.t 140) (Jk 1)),
 Jm 15 141])))
def a22_2 : ACode := (.seq (.seq (.reg [Jm 125 14,
 Ji 126 (.fieldAddr 5 1 false (.t 10)),
 Ji 127 (.load 1 false (.t 126)),
 Ji 128 (.lenSl (.t 127)),
 Ji 129 (.bin .lss (.t 125) (.t 128)),
 Jm 130 129,
 ⟨some 131, .fieldAddr 0 1 false (.t 10), some (130, true)⟩,
 ⟨some 132, .load 1 false (.t 131), some (130, true)⟩,
 ⟨some 133, .bin .eql (.t 132) (Jk 6), some (130, true)⟩,
 Ji 134 (.pick (.t 130) (.t 133) (.k (.bool false)))])
 (.cond (.t 134) .skip
 (.exit 9)))
 (.seq (.block 10 (.seq (.reg [Ji 15 (.mov (Jk 0))])
 (.block 11 (.loop a22_1))))
 (.reg [Jm 135 14,
 Ji 136 (.bin .add (.t 135) (Jk 1)),
 Jm 14 136])))
def a22_3 : ACode := (.seq (.seq (.reg [Jm 90 9,
 Ji 91 (.fieldAddr 3 1 false (.t 6)),
 Ji 92 (.load 1 false (.t 91)),
 Ji 93 (.lenSl (.t 92)),
 Ji 94 (.bin .lss (.t 90) (.t 93))])
 (.cond (.t 94) .skip
 (.exit 6)))
 (.seq (.block 7 (.seq (.reg [Ji 97 (.fieldAddr 3 1 false (.t 6)),
 Ji 98 (.load 1 false (.t 97)),
 Jm 99 9,
 Ji 100 (.indexAddr 9 true none (.t 98) (.t 99)),
 Ji 101 (.load 9 true (.t 100)),
 Ji 10 (.new (.agg [(.int .i64 0), (.str []), (.int .i64 0), (.int .i64 0), (.int .i64 0), (.lst 1 [] .tight), (.str []), (.str []), (.int .i64 0)]) true none),
 ⟨none, .store 9 (.t 10) (.t 101), none⟩])
 (.seq (.reg [Ji 103 (.load 7 true (.t 6)),
 Ji 104 (.fieldAddr 1 1 false (.t 10)),
 Ji 105 (.load 1 false (.t 104)),
 Ji 106 (.call (Jf 32) [(.t 103), (.t 105)]),
 Jm 102 106,
 Ji 107 (.extract (.t 102) 0),
 Ji 108 (.extract (.t 102) 1),
 Ji 11 (.new (.agg [(.str []), (.int .i64 0), (.int .i64 0), (.int .i64 0)]) true none),
 ⟨none, .store 4 (.t 11) (.t 107), none⟩,
 Jm 12 108])
 (.seq (.reg [Ji 13 (.mov (.k (.bool false)))])
 (.seq (.seq (.reg [Ji 109 (.fieldAddr 0 1 false (.t 10)),
 Ji 110 (.load 1 false (.t 109))])
 (.block 8 (.seq (.seq (.reg [Ji 112 (.bin .eql (.t 110) (Jk 1)),
 Jm 111 112])
 (.cond (.t 111) .skip
 (.seq (.reg [Ji 113 (.bin .eql (.t 110) (Jk 2)),
 Jm 111 113])
 (.cond (.t 111) .skip
 (.seq (.reg [Ji 114 (.bin .eql (.t 110) (Jk 4)),
 Jm 111 114])
 (.cond (.t 111) .skip
 (.reg [Ji 115 (.bin .eql (.t 110) (Jk 6)),
 Jm 111 115])))))))
 (.cond (.t 111) (.seq (.reg [Ji 116 (.fieldAddr 1 1 false (.t 11)),
 Ji 117 (.load 1 false (.t 116)),
 Ji 118 (.bin .eql (.t 117) (Jk 1)),
 Jm 119 118,
 ⟨some 120, .fieldAddr 3 1 false (.t 11), some (119, false)⟩,
 ⟨some 121, .load 1 false (.t 120), some (119, false)⟩,
 ⟨some 122, .mov (.t 9), some (119, false)⟩,
 ⟨some 123, .bin .neq (.t 121) (.t 122), some (119, false)⟩,
 Ji 124 (.pick (.t 119) (.k (.bool true)) (.t 123)),
 Jm 13 124])
 (.seq (.reg [Ji 14 (.mov (Jk 0))])
 (.block 9 (.loop a22_2))))
 (.seq (.reg [Ji 157 (.bin .eql (.t 110) (Jk 3)),
 Jm 156 157])
 (.cond (.t 156) (.reg [Jm 158 12,
 Ji 159 (.un .not (.t 158)),
 Jm 160 159,
 ⟨some 161, .fieldAddr 1 1 false (.t 11), some (160, false)⟩,
 ⟨some 162, .load 1 false (.t 161), some (160, false)⟩,
 ⟨some 163, .bin .neq (.t 162) (Jk 3), some (160, false)⟩,
 Ji 164 (.pick (.t 160) (.k (.bool true)) (.t 163)),
 Jm 13 164])
 (.seq (.reg [Ji 166 (.bin .eql (.t 110) (Jk 5)),
 Jm 165 166])
 (.cond (.t 165) (.reg [Jm 167 12,
 Ji 168 (.un .not (.t 167)),
 Jm 169 168,
 ⟨some 170, .fieldAddr 1 1 false (.t 11), some (169, false)⟩,
 ⟨some 171, .load 1 false (.t 170), some (169, false)⟩,
 ⟨some 172, .bin .neq (.t 171) (Jk 4), some (169, false)⟩,
 Ji 173 (.pick (.t 169) (.k (.bool true)) (.t 172)),
 Jm 13 173])
 (.seq (.reg [Ji 175 (.bin .eql (.t 110) (Jk 7)),
 Jm 174 175])
 (.cond (.t 174) (.reg [Ji 176 (.load 7 true (.t 6)),
 Ji 177 (.fieldAddr 1 1 false (.t 10)),
 Ji 178 (.load 1 false (.t 177)),
 Ji 179 (.fieldAddr 6 1 false (.t 10)),
 Ji 180 (.load 1 false (.t 179)),
 Ji 181 (.call (Jf 54) [(.t 176), (.t 178), (.t 180)]),
 Ji 182 (.un .not (.t 181)),
 Jm 183 182,
 ⟨some 184, .load 7 true (.t 6), some (183, false)⟩,
 ⟨some 185, .fieldAddr 1 1 false (.t 10), some (183, false)⟩,
 ⟨some 186, .load 1 false (.t 185), some (183, false)⟩,
 ⟨some 187, .fieldAddr 7 1 false (.t 10), some (183, false)⟩,
 ⟨some 188, .load 1 false (.t 187), some (183, false)⟩,
 ⟨some 189, .call (Jf 54) [(.t 184), (.t 186), (.t 188)], some (183, false)⟩,
 ⟨some 190, .un .not (.t 189), some (183, false)⟩,
 Ji 191 (.pick (.t 183) (.k (.bool true)) (.t 190)),
 Jm 13 191])
 (.seq (.reg [Ji 193 (.bin .eql (.t 110) (Jk 8)),
 Jm 192 193])
 (.cond (.t 192) (.reg [Jm 194 12,
 Ji 195 (.un .not (.t 194)),
 Jm 196 195,
 ⟨some 197, .fieldAddr 1 1 false (.t 11), some (196, false)⟩,
 ⟨some 198, .load 1 false (.t 197), some (196, false)⟩,
 ⟨some 199, .bin .eql (.t 198) (Jk 1), some (196, false)⟩,
 Ji 200 (.pick (.t 196) (.k (.bool true)) (.t 199)),
 Jm 201 200,
 ⟨some 202, .fieldAddr 1 1 false (.t 11), some (201, false)⟩,
 ⟨some 203, .load 1 false (.t 202), some (201, false)⟩,
 ⟨some 204, .bin .eql (.t 203) (Jk 5), some (201, false)⟩,
 Ji 205 (.pick (.t 201) (.k (.bool true)) (.t 204)),
 Jm 13 205])
 .skip))))))))))))
 (.seq (.reg [Jm 206 13])
 (.cond (.t 206) (.reg [Jm 207 3,
 Ji 208 (.fieldAddr 8 1 false (.t 10)),
 Ji 209 (.load 1 false (.t 208)),
 Ji 210 (.build [(.int .i64 0), (.int .i64 0)] [(0, 1, (Jk 4)), (1, 1, (.t 209))]),
 Ji 211 (.call (Jf 15) [(.t 207), (.t 210)]),
 Jm 3 211])
 .skip)))))))
 (.reg [Jm 95 9,
 Ji 96 (.bin .add (.t 95) (Jk 1)),
 Jm 9 96])))
def a22_4 : ACode := (.seq (.seq (.reg [Jm 67 8,
 Jm 68 7,
 Ji 69 (.bin .lss (.t 67) (.t 68))])
 (.cond (.t 69) .skip
 (.exit 4)))
 (.seq (.block 5 (.seq (.plan [⟨0, Ji 72 (.fieldAddr 2 1 false (.t 6)), []⟩,
 ⟨1, Ji 73 (.load 1 false (.t 72)), []⟩,
 ⟨2, Jm 74 7, []⟩,
 ⟨3, Ji 75 (.indexAddr 2 true none (.t 73) (.t 74)), []⟩,
 ⟨4, Ji 76 (.fieldAddr 0 1 false (.t 75)), []⟩,
 ⟨5, Ji 77 (.load 1 false (.t 76)), []⟩,
 ⟨6, Ji 78 (.fieldAddr 2 1 false (.t 6)), []⟩,
 ⟨7, Ji 79 (.load 1 false (.t 78)), []⟩,
 ⟨8, Jm 80 8, []⟩,
 ⟨9, Ji 81 (.indexAddr 2 true none (.t 79) (.t 80)), []⟩,
 ⟨10, Ji 82 (.fieldAddr 0 1 false (.t 81)), []⟩,
 ⟨11, Ji 83 (.load 1 false (.t 82)), []⟩,
 ⟨12, Ji 84 (.bin .eql (.t 77) (.t 83)), []⟩])
 (.cond (.t 84) (.reg [Jm 85 3,
 Ji 86 (.fieldAddr 6 1 false (.t 6)),
 Ji 87 (.load 1 false (.t 86)),
 Ji 88 (.build [(.int .i64 0), (.int .i64 0)] [(0, 1, (Jk 4)), (1, 1, (.t 87))]),
 Ji 89 (.call (Jf 15) [(.t 85), (.t 88)]),
 Jm 3 89])
 .skip)))
 (.reg [Jm 70 8,
 Ji 71 (.bin .add (.t 70) (Jk 1)),
 Jm 8 71])))
def a22_5 : ACode := (.seq (.seq (.reg [Jm 60 7,
 Ji 61 (.fieldAddr 2 1 false (.t 6)),
 Ji 62 (.load 1 false (.t 61)),
 Ji 63 (.lenSl (.t 62)),
 Ji 64 (.bin .lss (.t 60) (.t 63))])
 (.cond (.t 64) .skip
 (.exit 2)))
 (.seq (.block 3 (.seq (.reg [Ji 8 (.mov (Jk 0))])
 (.block 4 (.loop a22_4))))
 (.reg [Jm 65 7,
 Ji 66 (.bin .add (.t 65) (Jk 1)),
 Jm 7 66])))
def a22_6 : ACode := (.seq (.seq (.reg [Jm 23 5,
 Ji 24 (.fieldAddr 0 1 false (.t 1)),
 Ji 25 (.load 1 false (.t 24)),
 Ji 26 (.lenSl (.t 25)),
 Ji 27 (.bin .lss (.t 23) (.t 26))])
 (.cond (.t 27) .skip
 (.exit 0)))
 (.seq (.block 1 (.seq (.reg [Ji 30 (.fieldAddr 0 1 false (.t 1)),
 Ji 31 (.load 1 false (.t 30)),
 Jm 32 5,
 Ji 33 (.indexAddr 7 true none (.t 31) (.t 32)),
 Ji 34 (.load 7 true (.t 33)),
 Ji 6 (.new (.agg [(.int .i64 0), (.str []), (.lst 2 [] .tight), (.lst 9 [] .tight), (.int .i64 0), (.int .i64 0), (.int .i64 0)]) true none),
 ⟨none, .store 7 (.t 6) (.t 34), none⟩])
 (.seq (.seq (.reg [Ji 35 (.fieldAddr 0 1 false (.t 6)),
 Ji 36 (.load 1 false (.t 35)),
 Ji 37 (.bin .eql (.t 36) (Jk 3))])
 (.cond (.t 37) (.reg [Jm 38 4,
 Ji 39 (.bin .add (.t 38) (Jk 1)),
 Jm 4 39])
 .skip))
 (.seq (.seq (.reg [Ji 40 (.fieldAddr 0 1 false (.t 6)),
 Ji 41 (.load 1 false (.t 40)),
 Ji 42 (.bin .eql (.t 41) (Jk 3)),
 Jm 43 42,
 ⟨some 44, .mov (.t 4), some (43, true)⟩,
 ⟨some 45, .bin .gtr (.t 44) (Jk 1), some (43, true)⟩,
 Ji 46 (.pick (.t 43) (.t 45) (.k (.bool false))),
 Jm 47 46,
 ⟨some 48, .load 2 true (.t 1), some (47, false)⟩,
 ⟨some 49, .fieldAddr 1 1 false (.t 6), some (47, false)⟩,
 ⟨some 50, .load 1 false (.t 49), some (47, false)⟩,
 ⟨some 51, .call (Jf 29) [(.t 48), (.t 50)], some (47, false)⟩,
 ⟨some 52, .mov (.t 5), some (47, false)⟩,
 ⟨some 53, .bin .neq (.t 51) (.t 52), some (47, false)⟩,
 Ji 54 (.pick (.t 47) (.k (.bool true)) (.t 53))])
 (.cond (.t 54) (.reg [Jm 55 3,
 Ji 56 (.fieldAddr 6 1 false (.t 6)),
 Ji 57 (.load 1 false (.t 56)),
 Ji 58 (.build [(.int .i64 0), (.int .i64 0)] [(0, 1, (Jk 4)), (1, 1, (.t 57))]),
 Ji 59 (.call (Jf 15) [(.t 55), (.t 58)]),
 Jm 3 59])
 .skip))
 (.seq (.seq (.reg [Ji 7 (.mov (Jk 0))])
 (.block 2 (.loop a22_5)))
 (.seq (.seq (.reg [Ji 9 (.mov (Jk 0))])
 (.block 6 (.loop a22_3)))
 (.seq (.reg [Ji 212 (.load 2 true (.t 1)),
 Ji 213 (.load 7 true (.t 6)),
 Ji 214 (.call (Jf 39) [(.t 212), (.t 213)]),
 Jm 16 214])
 (.seq (.reg [Ji 17 (.mov (Jk 0))])
 (.block 13 (.loop a22_0))))))))))
 (.reg [Jm 28 5,
 Ji 29 (.bin .add (.t 28) (Jk 1)),
 Jm 5 29])))
def a22 : AFunc := ⟨301, [.tmp 2],
 (.seq (.reg [Ji 1 (.box 2 (.t 0) false),
 Ji 2 (.mov (.k (.lst 2 [] .tight)))])
 (.seq (.reg [Ji 3 (.mov (.k (.lst 2 [] .tight)))])
 (.seq (.reg [Ji 4 (.mov (Jk 0))])
 (.seq (.seq (.reg [Ji 5 (.mov (Jk 0))])
 (.block 0 (.loop a22_6)))
 (.seq (.seq (.reg [Jm 295 4,
 Ji 296 (.bin .eql (.t 295) (Jk 0))])
 (.cond (.t 296) (.reg [Jm 297 3,
 Ji 298 (.build [(.int .i64 0), (.int .i64 0)] [(0, 1, (Jk 4))]),
 Ji 299 (.call (Jf 15) [(.t 297), (.t 298)]),
 Jm 3 299])
 .skip))
 (.seq (.reg [Jm 300 3,
 Jm 2 300])
 .ret)))))),
 [], false⟩
def a23 : AFunc := ⟨11, [.tmp 2],
 (.seq (.reg [Ji 1 (.box 2 (.t 0) false),
 Ji 2 (.mov (.k (.bool false)))])
 (.seq (.reg [Ji 3 (.load 2 true (.t 1)),
 Ji 4 (.call (Jf 19) [(.t 3)]),
 Jm 5 4,
 ⟨some 6, .load 2 true (.t 1), some (5, true)⟩,
 ⟨some 7, .call (Jf 22) [(.t 6)], some (5, true)⟩,
 ⟨some 8, .lenSl (.t 7), some (5, true)⟩,
 ⟨some 9, .bin .eql (.t 8) (Jk 0), some (5, true)⟩,
 Ji 10 (.pick (.t 5) (.t 9) (.k (.bool false))),
 Jm 2 10])
 .ret)),
 [], false⟩
def a24_0 : ACode := (.seq (.seq (.plan [⟨0, Jm 28 9, []⟩,
 ⟨1, Ji 29 (.nilCheck (.t 28)), []⟩,
 ⟨2, Ji 30 (.fieldAddr 5 2 true (.t 29)), []⟩,
 ⟨3, Ji 31 (.fieldAddr 0 1 false (.t 30)), []⟩,
 ⟨4, Ji 32 (.load 1 false (.t 31)), []⟩,
 ⟨5, Ji 33 (.bin .eql (.t 32) (Jk 0)), []⟩,
 ⟨6, Jm 34 33, []⟩,
 ⟨7, ⟨some 35, .mov (.t 9), some (34, true)⟩, []⟩,
 ⟨8, ⟨some 36, .nilCheck (.t 35), some (34, true)⟩, []⟩,
 ⟨9, ⟨some 37, .fieldAddr 0 1 false (.t 36), some (34, true)⟩, []⟩,
 ⟨10, ⟨some 38, .load 1 false (.t 37), some (34, true)⟩, []⟩,
 ⟨11, ⟨some 39, .mov (.t 9), some (34, true)⟩, []⟩,
 ⟨12, ⟨some 40, .nilCheck (.t 39), some (34, true)⟩, []⟩,
 ⟨13, ⟨some 41, .fieldAddr 1 1 false (.t 40), some (34, true)⟩, []⟩,
 ⟨14, ⟨some 42, .load 1 false (.t 41), some (34, true)⟩, []⟩,
 ⟨15, ⟨some 43, .indexAddr 4 true none (.t 38) (.t 42), some (34, true)⟩, []⟩,
 ⟨16, ⟨some 44, .fieldAddr 0 1 false (.t 43), some (34, true)⟩, []⟩,
 ⟨17, ⟨some 45, .load 1 false (.t 44), some (34, true)⟩, []⟩,
 ⟨18, ⟨some 46, .bin .neq (.t 45) (Jk 5), some (34, true)⟩, []⟩,
 ⟨19, Ji 47 (.pick (.t 34) (.t 46) (.k (.bool false))), []⟩])
 (.cond (.t 47) .skip
 (.exit 0)))
 (.block 1 (.seq (.reg [Jm 48 9,
 Ji 49 (.call (Jf 57) [(.t 48)]),
 Ji 11 (.new (.agg [(.int .i64 0), (.str []), (.lst 2 [] .tight), (.lst 9 [] .tight), (.int .i64 0), (.int .i64 0), (.int .i64 0)]) true none),
 ⟨none, .store 7 (.t 11) (.t 49), none⟩])
 (.plan [⟨0, Jm 50 9, []⟩,
 ⟨1, Jm 51 9, []⟩,
 ⟨2, Ji 52 (.nilCheck (.t 51)), []⟩,
 ⟨3, Ji 53 (.fieldAddr 2 2 true (.t 52)), []⟩,
 ⟨4, Ji 54 (.fieldAddr 0 1 false (.t 53)), []⟩,
 ⟨5, Ji 55 (.load 1 false (.t 54)), []⟩,
 ⟨6, Ji 56 (.load 7 true (.t 11)), []⟩,
 ⟨7, Ji 57 (.mkLit 7 [(.int .i64 0), (.str []), (.lst 2 [] .tight), (.lst 9 [] .tight), (.int .i64 0), (.int .i64 0), (.int .i64 0)] [(0, 7, (.t 56))] false), []⟩,
 ⟨8, Ji 58 (.append 7 96 (some 42) (.t 55) (.t 57)), []⟩,
 ⟨9, Ji 59 (.nilCheck (.t 50)), []⟩,
 ⟨10, Ji 60 (.fieldAddr 2 2 true (.t 59)), []⟩,
 ⟨11, Ji 61 (.fieldAddr 0 1 false (.t 60)), []⟩,
 ⟨12, ⟨none, .store 1 (.t 61) (.t 58), none⟩, []⟩]))))
def a24 : AFunc := ⟨101, [.cell 4 2 true, .tmp 5, .cell 6 2 true],
 (.seq (.reg [Ji 4 (.new (.agg [(.lst 7 [] .tight), (.lst 9 [] .tight)]) true none),
 Ji 5 (.mov (Jk 0)),
 Ji 6 (.new (.agg [(.int .i64 0), (.int .i64 0)]) true none)])
 (.seq (.reg [Jm 13 0,
 Ji 14 (.call (Jf 55) [(.t 13)]),
 Jm 12 14,
 Ji 15 (.extract (.t 12) 0),
 Ji 16 (.extract (.t 12) 1),
 Ji 8 (.new (.agg [(.int .i64 0), (.int .i64 0)]) true none),
 Jm 7 15,
 ⟨none, .store 2 (.t 8) (.t 16), none⟩])
 (.seq (.seq (.reg [Ji 17 (.fieldAddr 0 1 false (.t 8)),
 Ji 18 (.load 1 false (.t 17)),
 Ji 19 (.bin .neq (.t 18) (Jk 0))])
 (.cond (.t 19) (.seq (.plan [⟨0, Ji 20 (.build [(.lst 7 [] .tight), (.lst 9 [] .tight)] []), []⟩,
 ⟨1, Ji 21 (.load 2 true (.t 8)), []⟩,
 ⟨2, ⟨none, .store 2 (.t 4) (.t 20), none⟩, [1]⟩,
 ⟨3, Ji 5 (.mov (Jk 0)), []⟩,
 ⟨4, ⟨none, .store 2 (.t 6) (.t 21), none⟩, []⟩])
 .ret)
 .skip))
 (.seq (.reg [Jm 22 7,
 Ji 23 (.build [(.lst 4 [] .tight), (.int .i64 0), (.lst 7 [] .tight), (.lst 9 [] .tight), (.int .i64 0), (.int .i64 0), (.int .i64 0)] [(0, 1, (.t 22))]),
 Ji 24 (.box 7 (.t 23) true),
 Jm 9 24])
 (.seq (.reg [Ji 10 (.mov (Jk 0))])
 (.seq (.seq (.reg [Jm 25 1])
 (.cond (.t 25) (.reg [Jm 26 9,
 Ji 27 (.call (Jf 56) [(.t 26)]),
 Jm 10 27])
 (.block 0 (.loop a24_0))))
 (.seq (.seq (.plan [⟨0, Jm 62 9, []⟩,
 ⟨1, Ji 63 (.nilCheck (.t 62)), []⟩,
 ⟨2, Ji 64 (.fieldAddr 5 2 true (.t 63)), []⟩,
 ⟨3, Ji 65 (.fieldAddr 0 1 false (.t 64)), []⟩,
 ⟨4, Ji 66 (.load 1 false (.t 65)), []⟩,
 ⟨5, Ji 67 (.bin .eql (.t 66) (Jk 0)), []⟩,
 ⟨6, Jm 68 67, []⟩,
 ⟨7, ⟨some 69, .mov (.t 9), some (68, true)⟩, []⟩,
 ⟨8, ⟨some 70, .nilCheck (.t 69), some (68, true)⟩, []⟩,
 ⟨9, ⟨some 71, .fieldAddr 0 1 false (.t 70), some (68, true)⟩, []⟩,
 ⟨10, ⟨some 72, .load 1 false (.t 71), some (68, true)⟩, []⟩,
 ⟨11, ⟨some 73, .mov (.t 9), some (68, true)⟩, []⟩,
 ⟨12, ⟨some 74, .nilCheck (.t 73), some (68, true)⟩, []⟩,
 ⟨13, ⟨some 75, .fieldAddr 1 1 false (.t 74), some (68, true)⟩, []⟩,
 ⟨14, ⟨some 76, .load 1 false (.t 75), some (68, true)⟩, []⟩,
 ⟨15, ⟨some 77, .indexAddr 4 true none (.t 72) (.t 76), some (68, true)⟩, []⟩,
 ⟨16, ⟨some 78, .fieldAddr 0 1 false (.t 77), some (68, true)⟩, []⟩,
 ⟨17, ⟨some 79, .load 1 false (.t 78), some (68, true)⟩, []⟩,
 ⟨18, ⟨some 80, .bin .neq (.t 79) (Jk 5), some (68, true)⟩, []⟩,
 ⟨19, Ji 81 (.pick (.t 68) (.t 80) (.k (.bool false))), []⟩])
 (.cond (.t 81) (.reg [Jm 82 9,
 Ji 83 (.call (Jf 58) [(.t 82), (Jk 2)])])
 .skip))
 (.seq (.seq (.reg [Jm 84 9,
 Ji 85 (.nilCheck (.t 84)),
 Ji 86 (.fieldAddr 5 2 true (.t 85)),
 Ji 87 (.fieldAddr 0 1 false (.t 86)),
 Ji 88 (.load 1 false (.t 87)),
 Ji 89 (.bin .neq (.t 88) (Jk 0))])
 (.cond (.t 89) (.seq (.plan [⟨0, Ji 90 (.build [(.lst 7 [] .tight), (.lst 9 [] .tight)] []), []⟩,
 ⟨1, Jm 91 9, []⟩,
 ⟨2, Ji 92 (.nilCheck (.t 91)), []⟩,
 ⟨3, Ji 93 (.fieldAddr 5 2 true (.t 92)), []⟩,
 ⟨4, Ji 94 (.load 2 true (.t 93)), []⟩,
 ⟨5, ⟨none, .store 2 (.t 4) (.t 90), none⟩, [4]⟩,
 ⟨6, Ji 5 (.mov (Jk 0)), []⟩,
 ⟨7, ⟨none, .store 2 (.t 6) (.t 94), none⟩, []⟩])
 .ret)
 .skip))
 (.seq (.reg [Jm 95 9,
 Ji 96 (.nilCheck (.t 95)),
 Ji 97 (.fieldAddr 2 2 true (.t 96)),
 Ji 98 (.load 2 true (.t 97)),
 Jm 99 10,
 Ji 100 (.build [(.int .i64 0), (.int .i64 0)] []),
 ⟨none, .store 2 (.t 4) (.t 98), none⟩,
 Jm 5 99,
 ⟨none, .store 2 (.t 6) (.t 100), none⟩])
 .ret))))))))),
 [], false⟩
def a25 : AFunc := ⟨15, [.tmp 4],
 (.seq (.reg [Ji 2 (.box 2 (.t 0) false),
 Ji 4 (.mov (.k (.lst 4 [] .tight)))])
 (.seq (.seq (.reg [Ji 5 (.load 2 true (.t 2)),
 Jm 6 1,
 Ji 7 (.call (Jf 59) [(.t 5), (.t 6)]),
 Ji 8 (.un .not (.t 7))])
 (.cond (.t 8) (.seq (.reg [Ji 4 (.mov (.k (.lst 4 [] .tight)))])
 .ret)
 .skip))
 (.seq (.reg [Ji 9 (.fieldAddr 0 1 false (.t 2)),
 Ji 10 (.load 1 false (.t 9)),
 Jm 11 1,
 Ji 12 (.indexAddr 7 true none (.t 10) (.t 11)),
 Ji 13 (.load 7 true (.t 12)),
 Ji 14 (.call (Jf 60) [(.t 13)]),
 Jm 4 14])
 .ret))),
 [], false⟩
def a27 : AFunc := ⟨15, [.tmp 4],
 (.seq (.reg [Ji 2 (.box 2 (.t 0) false),
 Ji 4 (.mov (.k (.lst 1 [] .tight)))])
 (.seq (.seq (.reg [Ji 5 (.load 2 true (.t 2)),
 Jm 6 1,
 Ji 7 (.call (Jf 59) [(.t 5), (.t 6)]),
 Ji 8 (.un .not (.t 7))])
 (.cond (.t 8) (.seq (.reg [Ji 4 (.mov (.k (.lst 1 [] .tight)))])
 .ret)
 .skip))
 (.seq (.reg [Ji 9 (.fieldAddr 0 1 false (.t 2)),
 Ji 10 (.load 1 false (.t 9)),
 Jm 11 1,
 Ji 12 (.indexAddr 7 true none (.t 10) (.t 11)),
 Ji 13 (.load 7 true (.t 12)),
 Ji 14 (.call (Jf 62) [(.t 13)]),
 Jm 4 14])
 .ret))),
 [], false⟩
def a28 : AFunc := ⟨11, [.tmp 4],
 (.seq (.reg [Ji 2 (.box 2 (.t 0) false),
 Ji 4 (.mov (Jk 0))])
 (.seq (.seq (.reg [Ji 5 (.load 2 true (.t 2)),
 Ji 6 (.call (Jf 52) [(.t 5)]),
 Ji 7 (.un .not (.t 6))])
 (.cond (.t 7) (.seq (.reg [Ji 4 (.mov (.k (.int .i64 (-1))))])
 .ret)
 .skip))
 (.seq (.reg [Ji 8 (.load 2 true (.t 2)),
 Jm 9 1,
 Ji 10 (.call (Jf 63) [(.t 8), (.t 9)]),
 Jm 4 10])
 .ret))),
 [], false⟩
def a29_0 : ACode := (.seq (.seq (.reg [Jm 6 5,
 Ji 7 (.fieldAddr 0 1 false (.t 2)),
 Ji 8 (.load 1 false (.t 7)),
 Ji 9 (.lenSl (.t 8)),
 Ji 10 (.bin .lss (.t 6) (.t 9))])
 (.cond (.t 10) .skip
 (.exit 0)))
 (.seq (.block 1 (.seq (.reg [Ji 13 (.fieldAddr 0 1 false (.t 2)),
 Ji 14 (.load 1 false (.t 13)),
 Jm 15 5,
 Ji 16 (.indexAddr 7 true none (.t 14) (.t 15)),
 Ji 17 (.fieldAddr 1 1 false (.t 16)),
 Ji 18 (.load 1 false (.t 17)),
 Jm 19 1,
 Ji 20 (.bin .eql (.t 18) (.t 19))])
 (.cond (.t 20) (.seq (.reg [Jm 21 5,
 Jm 4 21])
 .ret)
 .skip)))
 (.reg [Jm 11 5,
 Ji 12 (.bin .add (.t 11) (Jk 1)),
 Jm 5 12])))
def a29 : AFunc := ⟨22, [.tmp 4],
 (.seq (.reg [Ji 2 (.box 2 (.t 0) false),
 Ji 4 (.mov (Jk 0))])
 (.seq (.seq (.reg [Ji 5 (.mov (Jk 0))])
 (.block 0 (.loop a29_0)))
 (.seq (.reg [Ji 4 (.mov (.k (.int .i64 (-1))))])
 .ret))),
 [], false⟩
def a30_0 : ACode := (.seq (.seq (.reg [Jm 31 5,
 Ji 32 (.fieldAddr 3 1 false (.t 1)),
 Ji 33 (.load 1 false (.t 32)),
 Ji 34 (.lenSl (.t 33)),
 Ji 35 (.bin .lss (.t 31) (.t 34))])
 (.cond (.t 35) .skip
 (.exit 2)))
 (.seq (.block 3 (.seq (.reg [Ji 38 (.fieldAddr 3 1 false (.t 1)),
 Ji 39 (.load 1 false (.t 38)),
 Jm 40 5,
 Ji 41 (.indexAddr 9 true none (.t 39) (.t 40)),
 Ji 42 (.load 9 true (.t 41)),
 Ji 6 (.new (.agg [(.int .i64 0), (.str []), (.int .i64 0), (.int .i64 0), (.int .i64 0), (.lst 1 [] .tight), (.str []), (.str []), (.int .i64 0)]) true none),
 ⟨none, .store 9 (.t 6) (.t 42), none⟩])
 (.seq (.reg [Ji 43 (.fieldAddr 0 1 false (.t 6)),
 Ji 44 (.load 1 false (.t 43))])
 (.block 4 (.seq (.reg [Ji 46 (.bin .eql (.t 44) (Jk 1)),
 Jm 45 46])
 (.cond (.t 45) (.reg [Jm 47 3,
 Ji 48 (.fieldAddr 1 1 false (.t 6)),
 Ji 49 (.load 1 false (.t 48)),
 Ji 50 (.fieldAddr 2 1 false (.t 6)),
 Ji 51 (.load 1 false (.t 50)),
 Jm 52 5,
 Ji 53 (.build [(.str []), (.int .i64 0), (.int .i64 0), (.int .i64 0)] [(0, 1, (.t 49)), (1, 1, (Jk 2)), (2, 1, (.t 51)), (3, 1, (.t 52))]),
 Ji 54 (.mkLit 4 [(.str []), (.int .i64 0), (.int .i64 0), (.int .i64 0)] [(0, 4, (.t 53))] false),
 Ji 55 (.append 4 40 (some 47) (.t 47) (.t 54)),
 Jm 3 55])
 (.seq (.reg [Ji 57 (.bin .eql (.t 44) (Jk 2)),
 Jm 56 57])
 (.cond (.t 56) (.reg [Jm 58 3,
 Ji 59 (.fieldAddr 1 1 false (.t 6)),
 Ji 60 (.load 1 false (.t 59)),
 Jm 61 5,
 Ji 62 (.build [(.str []), (.int .i64 0), (.int .i64 0), (.int .i64 0)] [(0, 1, (.t 60)), (1, 1, (Jk 3)), (2, 1, (Jk 1)), (3, 1, (.t 61))]),
 Ji 63 (.mkLit 4 [(.str []), (.int .i64 0), (.int .i64 0), (.int .i64 0)] [(0, 4, (.t 62))] false),
 Ji 64 (.append 4 40 (some 47) (.t 58) (.t 63)),
 Jm 3 64])
 (.seq (.reg [Ji 66 (.bin .eql (.t 44) (Jk 4)),
 Jm 65 66])
 (.cond (.t 65) (.reg [Jm 67 3,
 Ji 68 (.fieldAddr 1 1 false (.t 6)),
 Ji 69 (.load 1 false (.t 68)),
 Ji 70 (.fieldAddr 2 1 false (.t 6)),
 Ji 71 (.load 1 false (.t 70)),
 Jm 72 5,
 Ji 73 (.build [(.str []), (.int .i64 0), (.int .i64 0), (.int .i64 0)] [(0, 1, (.t 69)), (1, 1, (Jk 4)), (2, 1, (.t 71)), (3, 1, (.t 72))]),
 Ji 74 (.mkLit 4 [(.str []), (.int .i64 0), (.int .i64 0), (.int .i64 0)] [(0, 4, (.t 73))] false),
 Ji 75 (.append 4 40 (some 47) (.t 67) (.t 74)),
 Jm 3 75])
 (.seq (.reg [Ji 77 (.bin .eql (.t 44) (Jk 6)),
 Jm 76 77])
 (.cond (.t 76) (.reg [Jm 78 3,
 Ji 79 (.fieldAddr 1 1 false (.t 6)),
 Ji 80 (.load 1 false (.t 79)),
 Jm 81 5,
 Ji 82 (.build [(.str []), (.int .i64 0), (.int .i64 0), (.int .i64 0)] [(0, 1, (.t 80)), (1, 1, (Jk 5)), (3, 1, (.t 81))]),
 Ji 83 (.mkLit 4 [(.str []), (.int .i64 0), (.int .i64 0), (.int .i64 0)] [(0, 4, (.t 82))] false),
 Ji 84 (.append 4 40 (some 47) (.t 78) (.t 83)),
 Jm 3 84])
 .skip))))))))))))
 (.reg [Jm 36 5,
 Ji 37 (.bin .add (.t 36) (Jk 1)),
 Jm 5 37])))
def a30_1 : ACode := (.seq (.seq (.reg [Jm 7 4,
 Ji 8 (.fieldAddr 2 1 false (.t 1)),
 Ji 9 (.load 1 false (.t 8)),
 Ji 10 (.lenSl (.t 9)),
 Ji 11 (.bin .lss (.t 7) (.t 10))])
 (.cond (.t 11) .skip
 (.exit 0)))
 (.seq (.block 1 (.plan [⟨0, Jm 14 3, []⟩,
 ⟨1, Ji 15 (.fieldAddr 2 1 false (.t 1)), []⟩,
 ⟨2, Ji 16 (.load 1 false (.t 15)), []⟩,
 ⟨3, Jm 17 4, []⟩,
 ⟨4, Ji 18 (.indexAddr 2 true none (.t 16) (.t 17)), []⟩,
 ⟨5, Ji 19 (.fieldAddr 0 1 false (.t 18)), []⟩,
 ⟨6, Ji 20 (.load 1 false (.t 19)), []⟩,
 ⟨7, Ji 21 (.fieldAddr 2 1 false (.t 1)), []⟩,
 ⟨8, Ji 22 (.load 1 false (.t 21)), []⟩,
 ⟨9, Jm 23 4, []⟩,
 ⟨10, Ji 24 (.indexAddr 2 true none (.t 22) (.t 23)), []⟩,
 ⟨11, Ji 25 (.fieldAddr 1 1 false (.t 24)), []⟩,
 ⟨12, Ji 26 (.load 1 false (.t 25)), []⟩,
 ⟨13, Jm 27 4, []⟩,
 ⟨14, Ji 28 (.build [(.str []), (.int .i64 0), (.int .i64 0), (.int .i64 0)] [(0, 1, (.t 20)), (1, 1, (Jk 1)), (2, 1, (.t 26)), (3, 1, (.t 27))]), []⟩,
 ⟨15, Ji 29 (.mkLit 4 [(.str []), (.int .i64 0), (.int .i64 0), (.int .i64 0)] [(0, 4, (.t 28))] false), []⟩,
 ⟨16, Ji 30 (.append 4 40 (some 47) (.t 14) (.t 29)), []⟩,
 ⟨17, Jm 3 30, []⟩]))
 (.reg [Jm 12 4,
 Ji 13 (.bin .add (.t 12) (Jk 1)),
 Jm 4 13])))
def a30 : AFunc := ⟨86, [.tmp 2],
 (.seq (.reg [Ji 1 (.box 7 (.t 0) false),
 Ji 2 (.mov (.k (.lst 4 [] .tight)))])
 (.seq (.reg [Ji 3 (.mov (.k (.lst 4 [] .tight)))])
 (.seq (.seq (.reg [Ji 4 (.mov (Jk 0))])
 (.block 0 (.loop a30_1)))
 (.seq (.seq (.reg [Ji 5 (.mov (Jk 0))])
 (.block 2 (.loop a30_0)))
 (.seq (.reg [Jm 85 3,
 Jm 2 85])
 .ret))))),
 [], false⟩
def a31_0 : ACode := (.seq (.seq (.reg [Jm 7 4,
 Ji 8 (.fieldAddr 3 1 false (.t 1)),
 Ji 9 (.load 1 false (.t 8)),
 Ji 10 (.lenSl (.t 9)),
 Ji 11 (.bin .lss (.t 7) (.t 10))])
 (.cond (.t 11) .skip
 (.exit 0)))
 (.seq (.block 1 (.seq (.reg [Ji 15 (.fieldAddr 3 1 false (.t 1)),
 Ji 16 (.load 1 false (.t 15)),
 Jm 17 4,
 Ji 18 (.indexAddr 9 true none (.t 16) (.t 17)),
 Ji 19 (.fieldAddr 0 1 false (.t 18)),
 Ji 20 (.load 1 false (.t 19)),
 Ji 21 (.call (Jf 64) [(.t 20)]),
 Jm 14 21,
 Ji 22 (.extract (.t 14) 0),
 Ji 23 (.extract (.t 14) 1),
 Jm 5 22,
 Jm 6 23])
 (.seq (.seq (.reg [Jm 24 5])
 (.cond (.t 24) (.reg [Jm 25 3,
 Ji 26 (.fieldAddr 3 1 false (.t 1)),
 Ji 27 (.load 1 false (.t 26)),
 Jm 28 4,
 Ji 29 (.indexAddr 9 true none (.t 27) (.t 28)),
 Ji 30 (.fieldAddr 3 1 false (.t 29)),
 Ji 31 (.load 1 false (.t 30)),
 Ji 32 (.mkLit 1 [(.int .i64 0)] [(0, 1, (.t 31))] false),
 Ji 33 (.append 1 8 (some 3) (.t 25) (.t 32)),
 Jm 3 33])
 .skip))
 (.seq (.reg [Jm 34 6])
 (.cond (.t 34) (.reg [Jm 35 3,
 Ji 36 (.fieldAddr 3 1 false (.t 1)),
 Ji 37 (.load 1 false (.t 36)),
 Jm 38 4,
 Ji 39 (.indexAddr 9 true none (.t 37) (.t 38)),
 Ji 40 (.fieldAddr 4 1 false (.t 39)),
 Ji 41 (.load 1 false (.t 40)),
 Ji 42 (.mkLit 1 [(.int .i64 0)] [(0, 1, (.t 41))] false),
 Ji 43 (.append 1 8 (some 3) (.t 35) (.t 42)),
 Jm 3 43])
 .skip)))))
 (.reg [Jm 12 4,
 Ji 13 (.bin .add (.t 12) (Jk 1)),
 Jm 4 13])))
def a31 : AFunc := ⟨53, [.tmp 2],
 (.seq (.reg [Ji 1 (.box 7 (.t 0) false),
 Ji 2 (.mov (.k (.lst 1 [] .tight)))])
 (.seq (.reg [Ji 3 (.mov (.k (.lst 1 [] .tight)))])
 (.seq (.seq (.reg [Ji 4 (.mov (Jk 0))])
 (.block 0 (.loop a31_0)))
 (.seq (.seq (.reg [Ji 44 (.fieldAddr 0 1 false (.t 1)),
 Ji 45 (.load 1 false (.t 44)),
 Ji 46 (.bin .lss (.t 45) (Jk 3))])
 (.cond (.t 46) (.reg [Jm 47 3,
 Ji 48 (.fieldAddr 5 1 false (.t 1)),
 Ji 49 (.load 1 false (.t 48)),
 Ji 50 (.mkLit 1 [(.int .i64 0)] [(0, 1, (.t 49))] false),
 Ji 51 (.append 1 8 (some 3) (.t 47) (.t 50)),
 Jm 3 51])
 .skip))
 (.seq (.reg [Jm 52 3,
 Jm 2 52])
 .ret))))),
 [], false⟩
def a32_0 : ACode := (.seq (.seq (.reg [Jm 10 7,
 Jm 11 6,
 Ji 12 (.lenSl (.t 11)),
 Ji 13 (.bin .lss (.t 10) (.t 12))])
 (.cond (.t 13) .skip
 (.exit 0)))
 (.seq (.block 1 (.seq (.reg [Jm 16 6,
 Jm 17 7,
 Ji 18 (.indexAddr 4 true none (.t 16) (.t 17)),
 Ji 19 (.fieldAddr 0 1 false (.t 18)),
 Ji 20 (.load 1 false (.t 19)),
 Jm 21 1,
 Ji 22 (.bin .eql (.t 20) (.t 21))])
 (.cond (.t 22) (.seq (.reg [Jm 23 6,
 Jm 24 7,
 Ji 25 (.indexAddr 4 true none (.t 23) (.t 24)),
 Ji 26 (.load 4 true (.t 25)),
 ⟨none, .store 4 (.t 4) (.t 26), none⟩,
 Ji 5 (.mov (.k (.bool true)))])
 .ret)
 .skip)))
 (.reg [Jm 14 7,
 Ji 15 (.bin .add (.t 14) (Jk 1)),
 Jm 7 15])))
def a32 : AFunc := ⟨28, [.cell 4 4 true, .tmp 5],
 (.seq (.reg [Ji 2 (.box 7 (.t 0) false),
 Ji 4 (.new (.agg [(.str []), (.int .i64 0), (.int .i64 0), (.int .i64 0)]) true none),
 Ji 5 (.mov (.k (.bool false)))])
 (.seq (.reg [Ji 8 (.load 7 true (.t 2)),
 Ji 9 (.call (Jf 30) [(.t 8)]),
 Jm 6 9])
 (.seq (.seq (.reg [Ji 7 (.mov (Jk 0))])
 (.block 0 (.loop a32_0)))
 (.seq (.reg [Ji 27 (.build [(.str []), (.int .i64 0), (.int .i64 0), (.int .i64 0)] []),
 ⟨none, .store 4 (.t 4) (.t 27), none⟩,
 Ji 5 (.mov (.k (.bool false)))])
 .ret)))),
 [], false⟩
def a33 : AFunc := ⟨34, [.tmp 0],
 (.seq (.reg [Ji 0 (.mov (.k (.bool false)))])
 (.seq (.reg [Ji 6 (.call (Jf 24) [(.k (.str [104, 121, 98, 114, 105, 100, 32, 109, 40, 41, 32, 123, 32, 108, 101, 116, 32, 120, 58, 32, 98, 111, 111, 108, 32, 61, 32, 49, 32, 97, 110, 100, 32, 116, 114, 117, 101, 59, 32, 125])), (.k (.bool false))]),
 Jm 5 6,
 Ji 7 (.extract (.t 5) 0),
 Ji 8 (.extract (.t 5) 1),
 Ji 9 (.extract (.t 5) 2),
 Ji 1 (.new (.agg [(.lst 7 [] .tight), (.lst 9 [] .tight)]) true none),
 Ji 3 (.new (.agg [(.int .i64 0), (.int .i64 0)]) true none),
 ⟨none, .store 2 (.t 1) (.t 7), none⟩,
 Jm 2 8,
 ⟨none, .store 2 (.t 3) (.t 9), none⟩])
 (.seq (.reg [Ji 10 (.load 2 true (.t 1)),
 Ji 11 (.call (Jf 35) [(.t 10)]),
 Jm 4 11])
 (.seq (.reg [Ji 12 (.fieldAddr 0 1 false (.t 3)),
 Ji 13 (.load 1 false (.t 12)),
 Ji 14 (.bin .eql (.t 13) (Jk 0)),
 Jm 15 14,
 ⟨some 16, .mov (.t 4), some (15, true)⟩,
 ⟨some 17, .lenSl (.t 16), some (15, true)⟩,
 ⟨some 18, .bin .eql (.t 17) (Jk 1), some (15, true)⟩,
 Ji 19 (.pick (.t 15) (.t 18) (.k (.bool false))),
 Jm 20 19,
 ⟨some 21, .mov (.t 4), some (20, true)⟩,
 ⟨some 22, .indexAddr 2 true none (.t 21) (Jk 0), some (20, true)⟩,
 ⟨some 23, .fieldAddr 0 1 false (.t 22), some (20, true)⟩,
 ⟨some 24, .load 1 false (.t 23), some (20, true)⟩,
 ⟨some 25, .bin .eql (.t 24) (Jk 5), some (20, true)⟩,
 Ji 26 (.pick (.t 20) (.t 25) (.k (.bool false))),
 Jm 27 26,
 ⟨some 28, .mov (.t 4), some (27, true)⟩,
 ⟨some 29, .indexAddr 2 true none (.t 28) (Jk 0), some (27, true)⟩,
 ⟨some 30, .fieldAddr 1 1 false (.t 29), some (27, true)⟩,
 ⟨some 31, .load 1 false (.t 30), some (27, true)⟩,
 ⟨some 32, .bin .eql (.t 31) (Jk 27), some (27, true)⟩,
 Ji 33 (.pick (.t 27) (.t 32) (.k (.bool false))),
 Jm 0 33])
 .ret)))),
 [], false⟩
def a34_0 : ACode := (.seq (.seq (.reg [Jm 9 3,
 Ji 10 (.fieldAddr 1 1 false (.t 1)),
 Ji 11 (.load 1 false (.t 10)),
 Ji 12 (.lenSl (.t 11)),
 Ji 13 (.bin .lss (.t 9) (.t 12))])
 (.cond (.t 13) .skip
 (.exit 0)))
 (.seq (.block 1 (.seq (.reg [Ji 16 (.load 2 true (.t 1)),
 Jm 17 3,
 Ji 18 (.call (Jf 43) [(.t 16), (.t 17), (.k (.lst 1 [] .tight)), (Jk 400)]),
 Ji 19 (.lenSl (.t 18)),
 Ji 20 (.bin .geq (.t 19) (Jk 400))])
 (.cond (.t 20) (.seq (.reg [Ji 2 (.mov (.k (.bool true)))])
 .ret)
 .skip)))
 (.reg [Jm 14 3,
 Ji 15 (.bin .add (.t 14) (Jk 1)),
 Jm 3 15])))
def a34 : AFunc := ⟨21, [.tmp 2],
 (.seq (.reg [Ji 1 (.box 2 (.t 0) false),
 Ji 2 (.mov (.k (.bool false)))])
 (.seq (.seq (.reg [Ji 4 (.load 2 true (.t 1)),
 Ji 5 (.call (Jf 18) [(.t 4)])])
 (.cond (.t 5) (.seq (.reg [Ji 2 (.mov (.k (.bool true)))])
 .ret)
 .skip))
 (.seq (.seq (.reg [Ji 6 (.load 2 true (.t 1)),
 Ji 7 (.call (Jf 51) [(.t 6)]),
 Ji 8 (.un .not (.t 7))])
 (.cond (.t 8) (.seq (.reg [Ji 2 (.mov (.k (.bool false)))])
 .ret)
 .skip))
 (.seq (.seq (.reg [Ji 3 (.mov (Jk 0))])
 (.block 0 (.loop a34_0)))
 (.seq (.reg [Ji 2 (.mov (.k (.bool false)))])
 .ret))))),
 [], false⟩
def a35 : AFunc := ⟨11, [.tmp 2],
 (.seq (.reg [Ji 1 (.box 2 (.t 0) false),
 Ji 2 (.mov (.k (.lst 2 [] .tight)))])
 (.seq (.reg [Ji 6 (.load 2 true (.t 1)),
 Ji 7 (.call (Jf 65) [(.t 6)]),
 Jm 5 7,
 Ji 8 (.extract (.t 5) 0),
 Ji 9 (.extract (.t 5) 1),
 Jm 3 8,
 Jm 4 9])
 (.seq (.reg [Jm 10 3,
 Jm 2 10])
 .ret))),
 [], false⟩
def a39_0 : ACode := (.seq (.seq (.reg [Jm 43 10,
 Jm 44 9,
 Ji 45 (.lenSl (.t 44)),
 Ji 46 (.bin .lss (.t 43) (.t 45)),
 Jm 47 46,
 ⟨some 48, .mov (.t 5), some (47, true)⟩,
 ⟨some 49, .mov (.t 8), some (47, true)⟩,
 ⟨some 50, .indexAddr 1 false none (.t 48) (.t 49), some (47, true)⟩,
 ⟨some 51, .load 1 false (.t 50), some (47, true)⟩,
 Ji 52 (.pick (.t 47) (.t 51) (.k (.bool false)))])
 (.cond (.t 52) .skip
 (.exit 4)))
 (.seq (.block 5 (.reg [Jm 55 5,
 Jm 56 9,
 Jm 57 10,
 Ji 58 (.indexAddr 1 false none (.t 56) (.t 57)),
 Ji 59 (.load 1 false (.t 58)),
 Ji 60 (.indexAddr 1 false none (.t 55) (.t 59)),
 ⟨none, .store 1 (.t 60) (.k (.bool true)), none⟩]))
 (.reg [Jm 53 10,
 Ji 54 (.bin .add (.t 53) (Jk 1)),
 Jm 10 54])))
def a39_1 : ACode := (.seq (.seq (.reg [Jm 33 8,
 Ji 34 (.bin .geq (.t 33) (Jk 0))])
 (.cond (.t 34) .skip
 (.exit 2)))
 (.seq (.block 3 (.seq (.reg [Ji 37 (.fieldAddr 1 1 false (.t 2)),
 Ji 38 (.load 1 false (.t 37)),
 Jm 39 8,
 Ji 40 (.indexAddr 9 true none (.t 38) (.t 39)),
 Ji 41 (.load 9 true (.t 40)),
 Ji 42 (.call (Jf 68) [(.t 41)]),
 Jm 9 42])
 (.seq (.reg [Ji 10 (.mov (Jk 0))])
 (.block 4 (.loop a39_0)))))
 (.reg [Jm 35 8,
 Ji 36 (.bin .sub (.t 35) (Jk 1)),
 Jm 8 36])))
def a39_2 : ACode := (.seq (.seq (.reg [Jm 17 7,
 Jm 18 6,
 Ji 19 (.lenSl (.t 18)),
 Ji 20 (.bin .lss (.t 17) (.t 19))])
 (.cond (.t 20) .skip
 (.exit 0)))
 (.seq (.block 1 (.reg [Jm 23 5,
 Jm 24 6,
 Jm 25 7,
 Ji 26 (.indexAddr 1 false none (.t 24) (.t 25)),
 Ji 27 (.load 1 false (.t 26)),
 Ji 28 (.indexAddr 1 false none (.t 23) (.t 27)),
 ⟨none, .store 1 (.t 28) (.k (.bool true)), none⟩]))
 (.reg [Jm 21 7,
 Ji 22 (.bin .add (.t 21) (Jk 1)),
 Jm 7 22])))
def a39 : AFunc := ⟨62, [.tmp 4],
 (.seq (.reg [Ji 2 (.box 2 (.t 0) false),
 Ji 3 (.box 7 (.t 1) false),
 Ji 4 (.mov (.k (.lst 1 [] .tight)))])
 (.seq (.reg [Ji 11 (.fieldAddr 1 1 false (.t 2)),
 Ji 12 (.load 1 false (.t 11)),
 Ji 13 (.lenSl (.t 12)),
 Ji 14 (.mkSlice 1 1 [(.bool false)] (.t 13) (.t 13) false),
 Jm 5 14])
 (.seq (.reg [Ji 15 (.load 7 true (.t 3)),
 Ji 16 (.call (Jf 31) [(.t 15)]),
 Jm 6 16])
 (.seq (.seq (.reg [Ji 7 (.mov (Jk 0))])
 (.block 0 (.loop a39_2)))
 (.seq (.seq (.reg [Ji 29 (.fieldAddr 1 1 false (.t 2)),
 Ji 30 (.load 1 false (.t 29)),
 Ji 31 (.lenSl (.t 30)),
 Ji 32 (.bin .sub (.t 31) (Jk 1)),
 Jm 8 32])
 (.block 2 (.loop a39_1)))
 (.seq (.reg [Jm 61 5,
 Jm 4 61])
 .ret)))))),
 [], false⟩
def a40 : AFunc := ⟨22, [.tmp 4],
 (.seq (.reg [Ji 2 (.box 2 (.t 0) false),
 Ji 4 (.mov (.k (.lst 1 [] .tight)))])
 (.seq (.seq (.reg [Ji 5 (.load 2 true (.t 2)),
 Ji 6 (.call (Jf 21) [(.t 5)]),
 Ji 7 (.un .not (.t 6)),
 Jm 8 7,
 ⟨some 9, .mov (.t 1), some (8, false)⟩,
 ⟨some 10, .bin .lss (.t 9) (Jk 0), some (8, false)⟩,
 Ji 11 (.pick (.t 8) (.k (.bool true)) (.t 10)),
 Jm 12 11,
 ⟨some 13, .mov (.t 1), some (12, false)⟩,
 ⟨some 14, .fieldAddr 0 1 false (.t 2), some (12, false)⟩,
 ⟨some 15, .load 1 false (.t 14), some (12, false)⟩,
 ⟨some 16, .lenSl (.t 15), some (12, false)⟩,
 ⟨some 17, .bin .geq (.t 13) (.t 16), some (12, false)⟩,
 Ji 18 (.pick (.t 12) (.k (.bool true)) (.t 17))])
 (.cond (.t 18) (.seq (.reg [Ji 4 (.mov (.k (.lst 1 [] .tight)))])
 .ret)
 .skip))
 (.seq (.reg [Ji 19 (.load 2 true (.t 2)),
 Jm 20 1,
 Ji 21 (.call (Jf 69) [(.t 19), (.t 20)]),
 Jm 4 21])
 .ret))),
 [], false⟩
def a41 : AFunc := ⟨23, [.tmp 6],
 (.seq (.reg [Ji 3 (.box 2 (.t 0) false),
 Ji 6 (.mov (Jk 0))])
 (.seq (.seq (.reg [Ji 8 (.load 2 true (.t 3)),
 Jm 9 1,
 Ji 10 (.call (Jf 40) [(.t 8), (.t 9)]),
 Jm 7 10])
 (.seq (.reg [Jm 11 2,
 Ji 12 (.bin .geq (.t 11) (Jk 0)),
 Jm 13 12,
 ⟨some 14, .mov (.t 2), some (13, true)⟩,
 ⟨some 15, .mov (.t 7), some (13, true)⟩,
 ⟨some 16, .lenSl (.t 15), some (13, true)⟩,
 ⟨some 17, .bin .lss (.t 14) (.t 16), some (13, true)⟩,
 Ji 18 (.pick (.t 13) (.t 17) (.k (.bool false)))])
 (.cond (.t 18) (.seq (.reg [Jm 19 7,
 Jm 20 2,
 Ji 21 (.indexAddr 1 false none (.t 19) (.t 20)),
 Ji 22 (.load 1 false (.t 21)),
 Jm 6 22])
 .ret)
 .skip)))
 (.seq (.reg [Ji 6 (.mov (Jk 0))])
 .ret))),
 [], false⟩
def a42_0 : ACode := (.seq (.seq (.reg [Jm 35 10,
 Jm 36 8,
 Ji 37 (.lenSl (.t 36)),
 Ji 38 (.bin .lss (.t 35) (.t 37))])
 (.cond (.t 38) .skip
 (.exit 1)))
 (.seq (.block 2 (.seq (.plan [⟨0, Jm 41 8, []⟩,
 ⟨1, Jm 42 10, []⟩,
 ⟨2, Ji 43 (.indexAddr 4 true none (.t 41) (.t 42)), []⟩,
 ⟨3, Ji 44 (.fieldAddr 0 1 false (.t 43)), []⟩,
 ⟨4, Ji 45 (.load 1 false (.t 44)), []⟩,
 ⟨5, Ji 46 (.fieldAddr 4 1 false (.t 7)), []⟩,
 ⟨6, Ji 47 (.load 1 false (.t 46)), []⟩,
 ⟨7, Ji 48 (.bin .eql (.t 45) (.t 47)), []⟩])
 (.cond (.t 48) (.reg [Jm 49 8,
 Jm 50 10,
 Ji 51 (.indexAddr 4 true none (.t 49) (.t 50)),
 Ji 52 (.fieldAddr 2 1 false (.t 51)),
 Ji 53 (.load 1 false (.t 52)),
 Jm 9 53])
 .skip)))
 (.reg [Jm 39 10,
 Ji 40 (.bin .add (.t 39) (Jk 1)),
 Jm 10 40])))
def a42 : AFunc := ⟨85, [.tmp 6],
 (.seq (.reg [Ji 3 (.box 2 (.t 0) false),
 Ji 6 (.mov (Jk 0))])
 (.seq (.reg [Ji 12 (.fieldAddr 1 1 false (.t 3)),
 Ji 13 (.load 1 false (.t 12)),
 Jm 14 2,
 Ji 15 (.indexAddr 9 true none (.t 13) (.t 14)),
 Ji 16 (.load 9 true (.t 15)),
 Ji 7 (.new (.agg [(.int .i64 0), (.int .i64 0), (.int .i64 0), (.int .i64 0), (.str []), (.str []), (.int .i64 0), (.lst 1 [] .tight), (.int .i64 0)]) true none),
 ⟨none, .store 9 (.t 7) (.t 16), none⟩])
 (.seq (.seq (.reg [Ji 17 (.fieldAddr 0 1 false (.t 7)),
 Ji 18 (.load 1 false (.t 17))])
 (.block 0 (.seq (.seq (.reg [Ji 20 (.bin .eql (.t 18) (Jk 1)),
 Jm 19 20])
 (.cond (.t 19) .skip
 (.seq (.reg [Ji 21 (.bin .eql (.t 18) (Jk 4)),
 Jm 19 21])
 (.cond (.t 19) .skip
 (.seq (.reg [Ji 22 (.bin .eql (.t 18) (Jk 6)),
 Jm 19 22])
 (.cond (.t 19) .skip
 (.seq (.reg [Ji 23 (.bin .eql (.t 18) (Jk 7)),
 Jm 19 23])
 (.cond (.t 19) .skip
 (.seq (.reg [Ji 24 (.bin .eql (.t 18) (Jk 8)),
 Jm 19 24])
 (.cond (.t 19) .skip
 (.seq (.reg [Ji 25 (.bin .eql (.t 18) (Jk 9)),
 Jm 19 25])
 (.cond (.t 19) .skip
 (.reg [Ji 26 (.bin .eql (.t 18) (Jk 21)),
 Jm 19 26])))))))))))))
 (.cond (.t 19) (.seq (.reg [Ji 6 (.mov (Jk 1))])
 .ret)
 (.seq (.reg [Ji 28 (.bin .eql (.t 18) (Jk 3)),
 Jm 27 28])
 (.cond (.t 27) (.seq (.reg [Ji 29 (.fieldAddr 0 1 false (.t 3)),
 Ji 30 (.load 1 false (.t 29)),
 Jm 31 1,
 Ji 32 (.indexAddr 7 true none (.t 30) (.t 31)),
 Ji 33 (.load 7 true (.t 32)),
 Ji 34 (.call (Jf 30) [(.t 33)]),
 Jm 8 34])
 (.seq (.reg [Ji 9 (.mov (Jk 0))])
 (.seq (.seq (.reg [Ji 10 (.mov (Jk 0))])
 (.block 1 (.loop a42_0)))
 (.seq (.reg [Jm 54 9,
 Jm 6 54])
 .ret))))
 (.seq (.reg [Ji 56 (.bin .eql (.t 18) (Jk 15)),
 Jm 55 56])
 (.cond (.t 55) (.seq (.reg [Ji 57 (.load 2 true (.t 3)),
 Jm 58 1,
 Ji 59 (.fieldAddr 2 1 false (.t 7)),
 Ji 60 (.load 1 false (.t 59)),
 Ji 61 (.call (Jf 42) [(.t 57), (.t 58), (.t 60)]),
 Jm 6 61])
 .ret)
 (.seq (.seq (.reg [Ji 63 (.bin .eql (.t 18) (Jk 16)),
 Jm 62 63])
 (.cond (.t 62) .skip
 (.seq (.reg [Ji 64 (.bin .eql (.t 18) (Jk 17)),
 Jm 62 64])
 (.cond (.t 62) .skip
 (.reg [Ji 65 (.bin .eql (.t 18) (Jk 18)),
 Jm 62 65])))))
 (.cond (.t 62) (.seq (.reg [Ji 66 (.load 2 true (.t 3)),
 Jm 67 1,
 Ji 68 (.fieldAddr 1 1 false (.t 7)),
 Ji 69 (.load 1 false (.t 68)),
 Ji 70 (.call (Jf 42) [(.t 66), (.t 67), (.t 69)]),
 Jm 6 70])
 .ret)
 (.seq (.reg [Ji 72 (.bin .eql (.t 18) (Jk 19)),
 Jm 71 72])
 (.cond (.t 71) (.seq (.reg [Ji 73 (.load 2 true (.t 3)),
 Ji 74 (.fieldAddr 4 1 false (.t 7)),
 Ji 75 (.load 1 false (.t 74)),
 Ji 76 (.call (Jf 29) [(.t 73), (.t 75)]),
 Jm 11 76])
 (.seq (.seq (.reg [Jm 77 11,
 Ji 78 (.bin .lss (.t 77) (Jk 0))])
 (.cond (.t 78) (.seq (.reg [Ji 6 (.mov (Jk 0))])
 .ret)
 .skip))
 (.seq (.reg [Ji 79 (.fieldAddr 0 1 false (.t 3)),
 Ji 80 (.load 1 false (.t 79)),
 Jm 81 11,
 Ji 82 (.indexAddr 7 true none (.t 80) (.t 81)),
 Ji 83 (.fieldAddr 4 1 false (.t 82)),
 Ji 84 (.load 1 false (.t 83)),
 Jm 6 84])
 .ret)))
 .skip))))))))))))
 (.seq (.reg [Ji 6 (.mov (Jk 2))])
 .ret)))),
 [], false⟩
def a43_0 : ACode := (.seq (.seq (.reg [Jm 26 10,
 Jm 27 9,
 Ji 28 (.lenSl (.t 27)),
 Ji 29 (.bin .lss (.t 26) (.t 28))])
 (.cond (.t 29) .skip
 (.exit 0)))
 (.seq (.block 1 (.plan [⟨0, Ji 32 (.load 2 true (.t 4)), []⟩,
 ⟨1, Jm 33 9, []⟩,
 ⟨2, Jm 34 10, []⟩,
 ⟨3, Ji 35 (.indexAddr 1 false none (.t 33) (.t 34)), []⟩,
 ⟨4, Ji 36 (.load 1 false (.t 35)), []⟩,
 ⟨5, Jm 37 2, []⟩,
 ⟨6, Jm 38 3, []⟩,
 ⟨7, Ji 39 (.call (Jf 43) [(.t 32), (.t 36), (.t 37), (.t 38)]), []⟩,
 ⟨8, Jm 2 39, []⟩]))
 (.reg [Jm 30 10,
 Ji 31 (.bin .add (.t 30) (Jk 1)),
 Jm 10 31])))
def a43 : AFunc := ⟨41, [.tmp 8],
 (.seq (.reg [Ji 4 (.box 2 (.t 0) false),
 Ji 8 (.mov (.k (.lst 1 [] .tight)))])
 (.seq (.seq (.reg [Jm 11 2,
 Ji 12 (.lenSl (.t 11)),
 Jm 13 3,
 Ji 14 (.bin .geq (.t 12) (.t 13))])
 (.cond (.t 14) (.seq (.reg [Jm 15 2,
 Jm 8 15])
 .ret)
 .skip))
 (.seq (.reg [Jm 16 2,
 Jm 17 1,
 Ji 18 (.mkLit 1 [(.int .i64 0)] [(0, 1, (.t 17))] false),
 Ji 19 (.append 1 8 (some 3) (.t 16) (.t 18)),
 Jm 2 19])
 (.seq (.reg [Ji 20 (.fieldAddr 1 1 false (.t 4)),
 Ji 21 (.load 1 false (.t 20)),
 Jm 22 1,
 Ji 23 (.indexAddr 9 true none (.t 21) (.t 22)),
 Ji 24 (.load 9 true (.t 23)),
 Ji 25 (.call (Jf 68) [(.t 24)]),
 Jm 9 25])
 (.seq (.seq (.reg [Ji 10 (.mov (Jk 0))])
 (.block 0 (.loop a43_0)))
 (.seq (.reg [Jm 40 2,
 Jm 8 40])
 .ret)))))),
 [], true⟩
def a46 : AFunc := ⟨17, [.tmp 4],
 (.seq (.reg [Ji 2 (.box 2 (.t 0) false),
 Ji 3 (.box 2 (.t 1) false),
 Ji 4 (.mov (Jk 0))])
 (.seq (.plan [⟨0, Ji 5 (.fieldAddr 1 1 false (.t 2)), []⟩,
 ⟨1, Ji 6 (.load 1 false (.t 5)), []⟩,
 ⟨2, Ji 7 (.fieldAddr 1 1 false (.t 3)), []⟩,
 ⟨3, Ji 8 (.load 1 false (.t 7)), []⟩,
 ⟨5, Ji 10 (.fieldAddr 0 1 false (.t 2)), []⟩,
 ⟨6, Ji 11 (.load 1 false (.t 10)), []⟩,
 ⟨7, Ji 12 (.fieldAddr 0 1 false (.t 3)), []⟩,
 ⟨8, Ji 13 (.load 1 false (.t 12)), []⟩,
 ⟨4, Ji 9 (.call (Jf 48) [(.t 6), (.t 8)]), [6, 8]⟩,
 ⟨9, Ji 14 (.call (Jf 49) [(.t 11), (.t 13)]), []⟩,
 ⟨10, Ji 15 (.mkLit 1 [(.int .i64 0), (.int .i64 0)] [(0, 1, (.t 9)), (1, 1, (.t 14))] false), []⟩,
 ⟨11, Ji 16 (.call (Jf 47) [(.t 15)]), []⟩,
 ⟨12, Jm 4 16, []⟩])
 .ret)),
 [], false⟩
def a47_0 : ACode := (.seq (.reg [Ji 9 (.bin .lss (.t 8) (.t 7))])
 (.seq (.cond (.t 9) .skip
 (.exit 0))
 (.seq (.block 1 (.seq (.reg [Ji 10 (.indexAddr 1 false none (.t 6) (.t 8)),
 Ji 11 (.load 1 false (.t 10)),
 Jm 5 11])
 (.seq (.reg [Jm 12 5,
 Jm 13 3,
 Ji 14 (.bin .neq (.t 12) (.t 13))])
 (.cond (.t 14) (.seq (.reg [Jm 15 5,
 Jm 2 15])
 .ret)
 .skip))))
 (.reg [Ji 16 (.bin .add (.t 8) (Jk 1)),
 Jm 8 16]))))
def a47 : AFunc := ⟨18, [.tmp 2],
 (.seq (.reg [Ji 2 (.mov (Jk 0))])
 (.seq (.reg [Ji 3 (.mov (Jk 0))])
 (.seq (.seq (.reg [Jm 6 0,
 Ji 7 (.lenSl (.t 6)),
 Ji 8 (.mov (Jk 0))])
 (.block 0 (.loop a47_0)))
 (.seq (.reg [Jm 17 3,
 Jm 2 17])
 .ret)))),
 [], false⟩
def a48 : AFunc := ⟨20, [.tmp 4],
 (.seq (.reg [Ji 4 (.mov (Jk 0))])
 (.seq (.reg [Jm 7 0,
 Ji 8 (.call (Jf 72) [(.t 7)]),
 Jm 5 8])
 (.seq (.reg [Jm 9 1,
 Ji 10 (.call (Jf 72) [(.t 9)]),
 Jm 6 10])
 (.seq (.seq (.reg [Jm 11 5])
 (.cond (.t 11) (.seq (.seq (.reg [Jm 12 6])
 (.cond (.t 12) (.seq (.reg [Ji 4 (.mov (Jk 0))])
 .ret)
 .skip))
 (.seq (.reg [Ji 4 (.mov (.k (.int .i64 (-1))))])
 .ret))
 .skip))
 (.seq (.seq (.reg [Jm 13 6])
 (.cond (.t 13) (.seq (.reg [Ji 4 (.mov (Jk 1))])
 .ret)
 .skip))
 (.seq (.seq (.reg [Jm 14 0,
 Jm 15 1,
 Ji 16 (.bin .lss (.t 14) (.t 15))])
 (.cond (.t 16) (.seq (.reg [Ji 4 (.mov (.k (.int .i64 (-1))))])
 .ret)
 .skip))
 (.seq (.seq (.reg [Jm 17 0,
 Jm 18 1,
 Ji 19 (.bin .gtr (.t 17) (.t 18))])
 (.cond (.t 19) (.seq (.reg [Ji 4 (.mov (Jk 1))])
 .ret)
 .skip))
 (.seq (.reg [Ji 4 (.mov (Jk 0))])
 .ret)))))))),
 [], false⟩
def a49 : AFunc := ⟨20, [.tmp 4],
 (.seq (.reg [Ji 4 (.mov (Jk 0))])
 (.seq (.reg [Jm 7 0,
 Ji 8 (.call (Jf 73) [(.t 7)]),
 Jm 5 8])
 (.seq (.reg [Jm 9 1,
 Ji 10 (.call (Jf 73) [(.t 9)]),
 Jm 6 10])
 (.seq (.seq (.reg [Jm 11 5])
 (.cond (.t 11) (.seq (.seq (.reg [Jm 12 6])
 (.cond (.t 12) (.seq (.reg [Ji 4 (.mov (Jk 0))])
 .ret)
 .skip))
 (.seq (.reg [Ji 4 (.mov (.k (.int .i64 (-1))))])
 .ret))
 .skip))
 (.seq (.seq (.reg [Jm 13 6])
 (.cond (.t 13) (.seq (.reg [Ji 4 (.mov (Jk 1))])
 .ret)
 .skip))
 (.seq (.seq (.reg [Jm 14 0,
 Jm 15 1,
 Ji 16 (.bin .lss (.t 14) (.t 15))])
 (.cond (.t 16) (.seq (.reg [Ji 4 (.mov (.k (.int .i64 (-1))))])
 .ret)
 .skip))
 (.seq (.seq (.reg [Jm 17 0,
 Jm 18 1,
 Ji 19 (.bin .gtr (.t 17) (.t 18))])
 (.cond (.t 19) (.seq (.reg [Ji 4 (.mov (Jk 1))])
 .ret)
 .skip))
 (.seq (.reg [Ji 4 (.mov (Jk 0))])
 .ret)))))))),
 [], false⟩
def a50_0 : ACode := (.seq (.seq (.reg [Jm 29 5,
 Jm 30 4,
 Ji 31 (.lenSl (.t 30)),
 Ji 32 (.bin .lss (.t 29) (.t 31))])
 (.cond (.t 32) .skip
 (.exit 2)))
 (.seq (.block 3 (.seq (.plan [⟨0, Jm 35 4, []⟩,
 ⟨1, Jm 36 5, []⟩,
 ⟨2, Ji 37 (.indexAddr 2 true none (.t 35) (.t 36)), []⟩,
 ⟨3, Ji 38 (.load 2 true (.t 37)), []⟩,
 ⟨4, Jm 39 4, []⟩,
 ⟨5, Jm 40 5, []⟩,
 ⟨6, Ji 41 (.bin .sub (.t 40) (Jk 1)), []⟩,
 ⟨7, Ji 42 (.indexAddr 2 true none (.t 39) (.t 41)), []⟩,
 ⟨8, Ji 43 (.load 2 true (.t 42)), []⟩,
 ⟨9, Ji 44 (.eqAgg [0, 0] true (.t 38) (.t 43)), []⟩])
 (.cond (.t 44) (.seq (.reg [Jm 45 0,
 Jm 46 3,
 Jm 47 4,
 Jm 48 5,
 Ji 49 (.indexAddr 2 true none (.t 47) (.t 48)),
 Ji 50 (.load 2 true (.t 49)),
 Ji 51 (.indexAddr 2 true none (.t 45) (.t 46)),
 ⟨none, .store 2 (.t 51) (.t 50), none⟩])
 (.reg [Jm 52 3,
 Ji 53 (.bin .add (.t 52) (Jk 1)),
 Jm 3 53]))
 .skip)))
 (.reg [Jm 33 5,
 Ji 34 (.bin .add (.t 33) (Jk 1)),
 Jm 5 34])))
def a50_1 : ACode := (.seq (.seq (.reg [Jm 10 3,
 Jm 11 0,
 Ji 12 (.lenSl (.t 11)),
 Ji 13 (.bin .lss (.t 10) (.t 12))])
 (.cond (.t 13) .skip
 (.exit 0)))
 (.seq (.block 1 (.seq (.plan [⟨0, Jm 16 0, []⟩,
 ⟨1, Jm 17 3, []⟩,
 ⟨2, Ji 18 (.indexAddr 2 true none (.t 16) (.t 17)), []⟩,
 ⟨3, Ji 19 (.load 2 true (.t 18)), []⟩,
 ⟨4, Jm 20 0, []⟩,
 ⟨5, Jm 21 3, []⟩,
 ⟨6, Ji 22 (.bin .sub (.t 21) (Jk 1)), []⟩,
 ⟨7, Ji 23 (.indexAddr 2 true none (.t 20) (.t 22)), []⟩,
 ⟨8, Ji 24 (.load 2 true (.t 23)), []⟩,
 ⟨9, Ji 25 (.eqAgg [0, 0] false (.t 19) (.t 24)), []⟩])
 (.cond (.t 25) (.seq (.reg [Jm 26 0,
 Jm 27 3,
 Ji 28 (.sliceLst 2 (.t 26) (some (.t 27)) none none),
 Jm 4 28])
 (.seq (.seq (.reg [Ji 5 (.mov (Jk 1))])
 (.block 2 (.loop a50_0)))
 (.seq (.reg [Jm 54 0,
 Jm 55 3,
 Ji 56 (.sliceLst 2 (.t 54) (some (.t 55)) none none),
 ⟨none, .clearSl 2 [(.int .i64 0), (.int .i64 0)] (.t 56), none⟩])
 (.seq (.reg [Jm 57 0,
 Jm 58 3,
 Ji 59 (.sliceLst 2 (.t 57) none (some (.t 58)) none),
 Jm 2 59])
 .ret))))
 .skip)))
 (.reg [Jm 14 3,
 Ji 15 (.bin .add (.t 14) (Jk 1)),
 Jm 3 15])))
def a50 : AFunc := ⟨61, [.tmp 2],
 (.seq (.reg [Ji 2 (.mov (.k (.lst 2 [] .tight)))])
 (.seq (.seq (.reg [Jm 6 0,
 Ji 7 (.lenSl (.t 6)),
 Ji 8 (.bin .lss (.t 7) (Jk 2))])
 (.cond (.t 8) (.seq (.reg [Jm 9 0,
 Jm 2 9])
 .ret)
 .skip))
 (.seq (.seq (.reg [Ji 3 (.mov (Jk 1))])
 (.block 0 (.loop a50_1)))
 (.seq (.reg [Jm 60 0,
 Jm 2 60])
 .ret)))),
 [], false⟩
def a51_0 : ACode := (.seq (.seq (.reg [Jm 49 6,
 Ji 50 (.fieldAddr 3 1 false (.t 5)),
 Ji 51 (.load 1 false (.t 50)),
 Ji 52 (.lenSl (.t 51)),
 Ji 53 (.bin .lss (.t 49) (.t 52))])
 (.cond (.t 53) .skip
 (.exit 4)))
 (.seq (.block 5 (.seq (.reg [Ji 57 (.fieldAddr 3 1 false (.t 5)),
 Ji 58 (.load 1 false (.t 57)),
 Jm 59 6,
 Ji 60 (.indexAddr 9 true none (.t 58) (.t 59)),
 Ji 61 (.fieldAddr 0 1 false (.t 60)),
 Ji 62 (.load 1 false (.t 61)),
 Ji 63 (.call (Jf 64) [(.t 62)]),
 Jm 56 63,
 Ji 64 (.extract (.t 56) 0),
 Ji 65 (.extract (.t 56) 1),
 Jm 7 64,
 Jm 8 65])
 (.seq (.plan [⟨0, Ji 66 (.load 2 true (.t 1)), []⟩,
 ⟨1, Ji 67 (.fieldAddr 3 1 false (.t 5)), []⟩,
 ⟨2, Ji 68 (.load 1 false (.t 67)), []⟩,
 ⟨3, Jm 69 6, []⟩,
 ⟨4, Ji 70 (.indexAddr 9 true none (.t 68) (.t 69)), []⟩,
 ⟨5, Ji 71 (.fieldAddr 3 1 false (.t 70)), []⟩,
 ⟨6, Ji 72 (.load 1 false (.t 71)), []⟩,
 ⟨7, Jm 73 7, []⟩,
 ⟨8, Ji 74 (.call (Jf 75) [(.t 66), (.t 72), (.t 73)]), []⟩,
 ⟨9, Ji 75 (.un .not (.t 74)), []⟩,
 ⟨10, Jm 76 75, []⟩,
 ⟨11, ⟨some 77, .load 2 true (.t 1), some (76, false)⟩, []⟩,
 ⟨12, ⟨some 78, .fieldAddr 3 1 false (.t 5), some (76, false)⟩, []⟩,
 ⟨13, ⟨some 79, .load 1 false (.t 78), some (76, false)⟩, []⟩,
 ⟨14, ⟨some 80, .mov (.t 6), some (76, false)⟩, []⟩,
 ⟨15, ⟨some 81, .indexAddr 9 true none (.t 79) (.t 80), some (76, false)⟩, []⟩,
 ⟨16, ⟨some 82, .fieldAddr 4 1 false (.t 81), some (76, false)⟩, []⟩,
 ⟨17, ⟨some 83, .load 1 false (.t 82), some (76, false)⟩, []⟩,
 ⟨18, ⟨some 84, .mov (.t 8), some (76, false)⟩, []⟩,
 ⟨19, ⟨some 85, .call (Jf 75) [(.t 77), (.t 83), (.t 84)], some (76, false)⟩, []⟩,
 ⟨20, ⟨some 86, .un .not (.t 85), some (76, false)⟩, []⟩,
 ⟨21, Ji 87 (.pick (.t 76) (.k (.bool true)) (.t 86)), []⟩])
 (.cond (.t 87) (.seq (.reg [Ji 2 (.mov (.k (.bool false)))])
 .ret)
 .skip))))
 (.reg [Jm 54 6,
 Ji 55 (.bin .add (.t 54) (Jk 1)),
 Jm 6 55])))
def a51_1 : ACode := (.seq (.seq (.reg [Jm 24 4,
 Ji 25 (.fieldAddr 0 1 false (.t 1)),
 Ji 26 (.load 1 false (.t 25)),
 Ji 27 (.lenSl (.t 26)),
 Ji 28 (.bin .lss (.t 24) (.t 27))])
 (.cond (.t 28) .skip
 (.exit 2)))
 (.seq (.block 3 (.seq (.reg [Ji 31 (.fieldAddr 0 1 false (.t 1)),
 Ji 32 (.load 1 false (.t 31)),
 Jm 33 4,
 Ji 34 (.indexAddr 7 true none (.t 32) (.t 33)),
 Ji 35 (.load 7 true (.t 34)),
 Ji 5 (.new (.agg [(.int .i64 0), (.str []), (.lst 2 [] .tight), (.lst 9 [] .tight), (.int .i64 0), (.int .i64 0), (.int .i64 0)]) true none),
 ⟨none, .store 7 (.t 5) (.t 35), none⟩])
 (.seq (.seq (.reg [Ji 36 (.load 2 true (.t 1)),
 Ji 37 (.fieldAddr 5 1 false (.t 5)),
 Ji 38 (.load 1 false (.t 37)),
 Ji 39 (.fieldAddr 0 1 false (.t 5)),
 Ji 40 (.load 1 false (.t 39)),
 Ji 41 (.bin .eql (.t 40) (Jk 1)),
 Jm 42 41,
 ⟨some 43, .fieldAddr 0 1 false (.t 5), some (42, false)⟩,
 ⟨some 44, .load 1 false (.t 43), some (42, false)⟩,
 ⟨some 45, .bin .eql (.t 44) (Jk 2), some (42, false)⟩,
 Ji 46 (.pick (.t 42) (.k (.bool true)) (.t 45)),
 Ji 47 (.call (Jf 75) [(.t 36), (.t 38), (.t 46)]),
 Ji 48 (.un .not (.t 47))])
 (.cond (.t 48) (.seq (.reg [Ji 2 (.mov (.k (.bool false)))])
 .ret)
 .skip))
 (.seq (.reg [Ji 6 (.mov (Jk 0))])
 (.block 4 (.loop a51_0))))))
 (.reg [Jm 29 4,
 Ji 30 (.bin .add (.t 29) (Jk 1)),
 Jm 4 30])))
def a51_2 : ACode := (.seq (.seq (.reg [Jm 9 3,
 Ji 10 (.fieldAddr 1 1 false (.t 1)),
 Ji 11 (.load 1 false (.t 10)),
 Ji 12 (.lenSl (.t 11)),
 Ji 13 (.bin .lss (.t 9) (.t 12))])
 (.cond (.t 13) .skip
 (.exit 0)))
 (.seq (.block 1 (.seq (.reg [Ji 16 (.fieldAddr 1 1 false (.t 1)),
 Ji 17 (.load 1 false (.t 16)),
 Jm 18 3,
 Ji 19 (.indexAddr 9 true none (.t 17) (.t 18)),
 Ji 20 (.load 9 true (.t 19)),
 Jm 21 3,
 Ji 22 (.call (Jf 74) [(.t 20), (.t 21)]),
 Ji 23 (.un .not (.t 22))])
 (.cond (.t 23) (.seq (.reg [Ji 2 (.mov (.k (.bool false)))])
 .ret)
 .skip)))
 (.reg [Jm 14 3,
 Ji 15 (.bin .add (.t 14) (Jk 1)),
 Jm 3 15])))
def a51 : AFunc := ⟨88, [.tmp 2],
 (.seq (.reg [Ji 1 (.box 2 (.t 0) false),
 Ji 2 (.mov (.k (.bool false)))])
 (.seq (.seq (.reg [Ji 3 (.mov (Jk 0))])
 (.block 0 (.loop a51_2)))
 (.seq (.seq (.reg [Ji 4 (.mov (Jk 0))])
 (.block 2 (.loop a51_1)))
 (.seq (.reg [Ji 2 (.mov (.k (.bool true)))])
 .ret)))),
 [], false⟩
def a52 : AFunc := ⟨16, [.tmp 2],
 (.seq (.reg [Ji 1 (.box 2 (.t 0) false),
 Ji 2 (.mov (.k (.bool false)))])
 (.seq (.reg [Ji 3 (.new .nilFunc true none),
 ⟨none, .store 1 (.t 3) (Jf 76), none⟩])
 (.seq (.reg [Ji 4 (.new .nilFunc true none),
 ⟨none, .store 1 (.t 4) (Jf 77), none⟩])
 (.seq (.reg [Ji 6 (.mkFunc 78 [] [(.t 3), (.t 4)]),
 Jm 5 6])
 (.seq (.reg [Ji 7 (.load 2 true (.t 1)),
 Ji 8 (.call (Jf 80) [(.t 7)]),
 Jm 9 8,
 ⟨some 10, .fieldAddr 0 1 false (.t 1), some (9, true)⟩,
 ⟨some 11, .load 1 false (.t 10), some (9, true)⟩,
 ⟨some 12, .mov (.t 5), some (9, true)⟩,
 ⟨some 13, .call (Jf 81) [(.t 11), (.t 12)], some (9, true)⟩,
 ⟨some 14, .un .not (.t 13), some (9, true)⟩,
 Ji 15 (.pick (.t 9) (.t 14) (.k (.bool false))),
 Jm 2 15])
 .ret))))),
 [], false⟩
def a53 : AFunc := ⟨4, [.tmp 2],
 (.seq (.reg [Ji 1 (.box 2 (.t 0) false),
 Ji 2 (.mov (.k .nilFunc))])
 (.seq (.reg [Ji 3 (.mkFunc 82 [] [(.t 1)]),
 Jm 2 3])
 .ret)),
 [], false⟩
def a54_0 : ACode := (.seq (.seq (.reg [Jm 31 10,
 Jm 32 9,
 Ji 33 (.lenSl (.t 32)),
 Ji 34 (.bin .lss (.t 31) (.t 33))])
 (.cond (.t 34) .skip
 (.exit 0)))
 (.seq (.block 1 (.seq (.reg [Jm 37 9,
 Jm 38 10,
 Ji 39 (.indexAddr 1 false none (.t 37) (.t 38)),
 Ji 40 (.load 1 false (.t 39)),
 Jm 41 2,
 Ji 42 (.bin .eql (.t 40) (.t 41))])
 (.cond (.t 42) (.seq (.reg [Ji 6 (.mov (.k (.bool true)))])
 .ret)
 .skip)))
 (.reg [Jm 35 10,
 Ji 36 (.bin .add (.t 35) (Jk 1)),
 Jm 10 36])))
def a54 : AFunc := ⟨43, [.tmp 6],
 (.seq (.reg [Ji 3 (.box 7 (.t 0) false),
 Ji 6 (.mov (.k (.bool false)))])
 (.seq (.reg [Ji 12 (.load 7 true (.t 3)),
 Jm 13 1,
 Ji 14 (.call (Jf 32) [(.t 12), (.t 13)]),
 Jm 11 14,
 Ji 15 (.extract (.t 11) 0),
 Ji 16 (.extract (.t 11) 1),
 Ji 7 (.new (.agg [(.str []), (.int .i64 0), (.int .i64 0), (.int .i64 0)]) true none),
 ⟨none, .store 4 (.t 7) (.t 15), none⟩,
 Jm 8 16])
 (.seq (.seq (.reg [Jm 17 8,
 Ji 18 (.un .not (.t 17)),
 Jm 19 18,
 ⟨some 20, .fieldAddr 1 1 false (.t 7), some (19, false)⟩,
 ⟨some 21, .load 1 false (.t 20), some (19, false)⟩,
 ⟨some 22, .bin .neq (.t 21) (Jk 5), some (19, false)⟩,
 Ji 23 (.pick (.t 19) (.k (.bool true)) (.t 22))])
 (.cond (.t 23) (.seq (.reg [Ji 6 (.mov (.k (.bool false)))])
 .ret)
 .skip))
 (.seq (.reg [Ji 24 (.fieldAddr 3 1 false (.t 3)),
 Ji 25 (.load 1 false (.t 24)),
 Ji 26 (.fieldAddr 3 1 false (.t 7)),
 Ji 27 (.load 1 false (.t 26)),
 Ji 28 (.indexAddr 9 true none (.t 25) (.t 27)),
 Ji 29 (.fieldAddr 5 1 false (.t 28)),
 Ji 30 (.load 1 false (.t 29)),
 Jm 9 30])
 (.seq (.seq (.reg [Ji 10 (.mov (Jk 0))])
 (.block 0 (.loop a54_0)))
 (.seq (.reg [Ji 6 (.mov (.k (.bool false)))])
 .ret)))))),
 [], false⟩
def a55_0 : ACode := (.seq (.seq (.reg [Jm 14 5,
 Jm 15 0,
 Ji 16 (.lenStr (.t 15)),
 Ji 17 (.bin .lss (.t 14) (.t 16))])
 (.cond (.t 17) .skip
 (.exit 0)))
 (.block 1 (.seq (.reg [Jm 19 0,
 Jm 20 5,
 Ji 21 (.call (Jf 86) [(.t 19), (.t 20)]),
 Jm 18 21,
 Ji 22 (.extract (.t 18) 0),
 Ji 23 (.extract (.t 18) 1),
 Ji 6 (.new (.agg [(.int .i64 0), (.str []), (.int .i64 0), (.int .i64 0)]) true none),
 ⟨none, .store 4 (.t 6) (.t 22), none⟩,
 Jm 7 23])
 (.seq (.seq (.reg [Jm 24 7,
 Ji 25 (.un .not (.t 24))])
 (.cond (.t 25) (.seq (.reg [Jm 26 5,
 Ji 27 (.build [(.int .i64 0), (.int .i64 0)] [(0, 1, (Jk 1)), (1, 1, (.t 26))]),
 Ji 2 (.mov (.k (.lst 4 [] .tight))),
 ⟨none, .store 2 (.t 3) (.t 27), none⟩])
 .ret)
 .skip))
 (.seq (.reg [Jm 28 4,
 Ji 29 (.load 4 true (.t 6)),
 Ji 30 (.mkLit 4 [(.int .i64 0), (.str []), (.int .i64 0), (.int .i64 0)] [(0, 4, (.t 29))] false),
 Ji 31 (.append 4 40 (some 87) (.t 28) (.t 30)),
 Jm 4 31])
 (.reg [Jm 32 0,
 Jm 33 5,
 Ji 34 (.fieldAddr 1 1 false (.t 6)),
 Ji 35 (.load 1 false (.t 34)),
 Ji 36 (.lenStr (.t 35)),
 Ji 37 (.bin .add (.t 33) (.t 36)),
 Ji 38 (.call (Jf 85) [(.t 32), (.t 37)]),
 Jm 5 38]))))))
def a55 : AFunc := ⟨46, [.tmp 2, .cell 3 2 true],
 (.seq (.reg [Ji 2 (.mov (.k (.lst 4 [] .tight))),
 Ji 3 (.new (.agg [(.int .i64 0), (.int .i64 0)]) true none)])
 (.seq (.seq (.reg [Jm 8 0,
 Ji 9 (.lenStr (.t 8)),
 Ji 10 (.bin .gtr (.t 9) (Jk 20000))])
 (.cond (.t 10) (.seq (.reg [Ji 11 (.build [(.int .i64 0), (.int .i64 0)] [(0, 1, (Jk 10))]),
 Ji 2 (.mov (.k (.lst 4 [] .tight))),
 ⟨none, .store 2 (.t 3) (.t 11), none⟩])
 .ret)
 .skip))
 (.seq (.reg [Ji 4 (.mov (.k (.lst 4 [] .tight)))])
 (.seq (.reg [Jm 12 0,
 Ji 13 (.call (Jf 85) [(.t 12), (Jk 0)]),
 Jm 5 13])
 (.seq (.block 0 (.loop a55_0))
 (.seq (.reg [Jm 39 4,
 Jm 40 0,
 Ji 41 (.lenStr (.t 40)),
 Ji 42 (.build [(.int .i64 0), (.str []), (.int .i64 0), (.int .i64 0)] [(0, 1, (Jk 5)), (3, 1, (.t 41))]),
 Ji 43 (.mkLit 4 [(.int .i64 0), (.str []), (.int .i64 0), (.int .i64 0)] [(0, 4, (.t 42))] false),
 Ji 44 (.append 4 40 (some 87) (.t 39) (.t 43)),
 Ji 45 (.build [(.int .i64 0), (.int .i64 0)] []),
 Jm 2 44,
 ⟨none, .store 2 (.t 3) (.t 45), none⟩])
 .ret)))))),
 [], false⟩
def a56 : AFunc := ⟨80, [.tmp 2],
 (.seq (.reg [Ji 2 (.mov (Jk 0))])
 (.seq (.reg [Ji 3 (.mov (Jk 0))])
 (.seq (.seq (.reg [Jm 10 0,
 Ji 11 (.call (Jf 87) [(.t 10)])])
 (.cond (.t 11) (.seq (.plan [⟨0, Jm 12 0, []⟩,
 ⟨1, Ji 13 (.nilCheck (.t 12)), []⟩,
 ⟨2, Ji 14 (.fieldAddr 0 1 false (.t 13)), []⟩,
 ⟨3, Ji 15 (.load 1 false (.t 14)), []⟩,
 ⟨4, Jm 16 0, []⟩,
 ⟨5, Ji 17 (.nilCheck (.t 16)), []⟩,
 ⟨6, Ji 18 (.fieldAddr 1 1 false (.t 17)), []⟩,
 ⟨7, Ji 19 (.load 1 false (.t 18)), []⟩,
 ⟨8, Ji 20 (.indexAddr 4 true none (.t 15) (.t 19)), []⟩,
 ⟨9, Ji 21 (.fieldAddr 3 1 false (.t 20)), []⟩,
 ⟨10, Ji 22 (.load 1 false (.t 21)), []⟩,
 ⟨11, Jm 4 22, []⟩])
 (.seq (.reg [Jm 23 0,
 Ji 24 (.call (Jf 88) [(.t 23), (.k (.str [105, 102]))])])
 (.cond (.t 24) (.seq (.reg [Jm 25 0,
 Ji 26 (.call (Jf 56) [(.t 25)]),
 Jm 5 26])
 (.seq (.reg [Jm 27 0,
 Ji 28 (.call (Jf 89) [(.t 27), (.k (.str [116, 104, 101, 110]))])])
 (.seq (.reg [Jm 29 0,
 Ji 30 (.call (Jf 56) [(.t 29)]),
 Jm 6 30])
 (.seq (.reg [Jm 31 0,
 Ji 32 (.call (Jf 89) [(.t 31), (.k (.str [101, 108, 115, 101]))])])
 (.seq (.reg [Jm 33 0,
 Ji 34 (.call (Jf 56) [(.t 33)]),
 Jm 7 34])
 (.reg [Jm 35 0,
 Jm 36 5,
 Jm 37 6,
 Jm 38 7,
 Jm 39 4,
 Ji 40 (.build [(.int .i64 0), (.int .i64 0), (.int .i64 0), (.int .i64 0), (.str []), (.str []), (.int .i64 0), (.lst 1 [] .tight), (.int .i64 0)] [(0, 1, (Jk 15)), (1, 1, (.t 36)), (2, 1, (.t 37)), (3, 1, (.t 38)), (8, 1, (.t 39))]),
 Ji 41 (.call (Jf 90) [(.t 35), (.t 40)]),
 Jm 3 41]))))))
 (.seq (.reg [Jm 42 0,
 Ji 43 (.call (Jf 91) [(.t 42), (Jk 1)]),
 Jm 3 43])
 (.seq (.plan [⟨0, Jm 44 0, []⟩,
 ⟨1, Ji 45 (.nilCheck (.t 44)), []⟩,
 ⟨2, Ji 46 (.fieldAddr 0 1 false (.t 45)), []⟩,
 ⟨3, Ji 47 (.load 1 false (.t 46)), []⟩,
 ⟨4, Jm 48 0, []⟩,
 ⟨5, Ji 49 (.nilCheck (.t 48)), []⟩,
 ⟨6, Ji 50 (.fieldAddr 1 1 false (.t 49)), []⟩,
 ⟨7, Ji 51 (.load 1 false (.t 50)), []⟩,
 ⟨8, Ji 52 (.indexAddr 4 true none (.t 47) (.t 51)), []⟩,
 ⟨9, Ji 53 (.fieldAddr 3 1 false (.t 52)), []⟩,
 ⟨10, Ji 54 (.load 1 false (.t 53)), []⟩,
 ⟨11, Jm 4 54, []⟩])
 (.seq (.reg [Ji 8 (.mov (Jk 17))])
 (.seq (.seq (.reg [Jm 55 0,
 Ji 56 (.call (Jf 92) [(.t 55), (.k (.str [102, 98, 121]))])])
 (.cond (.t 56) (.reg [Ji 8 (.mov (Jk 18))])
 .skip))
 (.seq (.reg [Jm 57 0,
 Ji 58 (.call (Jf 88) [(.t 57), (.k (.str [45, 62]))]),
 Jm 59 58,
 ⟨some 60, .mov (.t 0), some (59, false)⟩,
 ⟨some 61, .call (Jf 88) [(.t 60), (.k (.str [102, 98, 121]))], some (59, false)⟩,
 Ji 62 (.pick (.t 59) (.k (.bool true)) (.t 61))])
 (.cond (.t 62) (.seq (.reg [Jm 63 0,
 Ji 64 (.call (Jf 56) [(.t 63)]),
 Jm 9 64])
 (.reg [Jm 65 0,
 Jm 66 8,
 Jm 67 3,
 Jm 68 9,
 Jm 69 4,
 Ji 70 (.build [(.int .i64 0), (.int .i64 0), (.int .i64 0), (.int .i64 0), (.str []), (.str []), (.int .i64 0), (.lst 1 [] .tight), (.int .i64 0)] [(0, 1, (.t 66)), (1, 1, (.t 67)), (2, 1, (.t 68)), (8, 1, (.t 69))]),
 Ji 71 (.call (Jf 90) [(.t 65), (.t 70)]),
 Jm 3 71]))
 .skip)))))))))
 .skip))
 (.seq (.reg [Jm 72 0,
 Ji 73 (.nilCheck (.t 72)),
 Ji 74 (.fieldAddr 4 1 false (.t 73)),
 Ji 75 (.load 1 false (.t 74)),
 Ji 76 (.bin .sub (.t 75) (Jk 1)),
 Ji 77 (.nilCheck (.t 72)),
 Ji 78 (.fieldAddr 4 1 false (.t 77)),
 ⟨none, .store 1 (.t 78) (.t 76), none⟩])
 (.seq (.reg [Jm 79 3,
 Jm 2 79])
 .ret))))),
 [], true⟩
def a57 : AFunc := ⟨73, [.cell 2 7 true],
 (.seq (.reg [Ji 2 (.new (.agg [(.int .i64 0), (.str []), (.lst 2 [] .tight), (.lst 9 [] .tight), (.int .i64 0), (.int .i64 0), (.int .i64 0)]) true none)])
 (.seq (.reg [Ji 3 (.new (.agg [(.int .i64 0), (.str []), (.lst 2 [] .tight), (.lst 9 [] .tight), (.int .i64 0), (.int .i64 0), (.int .i64 0)]) true none)])
 (.seq (.plan [⟨0, Jm 4 0, []⟩,
 ⟨1, Ji 5 (.nilCheck (.t 4)), []⟩,
 ⟨2, Ji 6 (.fieldAddr 0 1 false (.t 5)), []⟩,
 ⟨3, Ji 7 (.load 1 false (.t 6)), []⟩,
 ⟨4, Jm 8 0, []⟩,
 ⟨5, Ji 9 (.nilCheck (.t 8)), []⟩,
 ⟨6, Ji 10 (.fieldAddr 1 1 false (.t 9)), []⟩,
 ⟨7, Ji 11 (.load 1 false (.t 10)), []⟩,
 ⟨8, Ji 12 (.indexAddr 4 true none (.t 7) (.t 11)), []⟩,
 ⟨9, Ji 13 (.fieldAddr 3 1 false (.t 12)), []⟩,
 ⟨10, Ji 14 (.load 1 false (.t 13)), []⟩,
 ⟨11, Ji 15 (.fieldAddr 6 1 false (.t 3)), []⟩,
 ⟨12, ⟨none, .store 1 (.t 15) (.t 14), none⟩, []⟩])
 (.seq (.seq (.reg [Jm 16 0,
 Ji 17 (.call (Jf 88) [(.t 16), (.k (.str [102, 117, 110]))])])
 (.cond (.t 17) (.reg [Ji 18 (.fieldAddr 0 1 false (.t 3)),
 ⟨none, .store 1 (.t 18) (Jk 1), none⟩])
 (.seq (.reg [Jm 19 0,
 Ji 20 (.call (Jf 88) [(.t 19), (.k (.str [110, 111, 100, 101]))])])
 (.cond (.t 20) (.reg [Ji 21 (.fieldAddr 0 1 false (.t 3)),
 ⟨none, .store 1 (.t 21) (Jk 2), none⟩])
 (.seq (.reg [Ji 22 (.fieldAddr 0 1 false (.t 3)),
 ⟨none, .store 1 (.t 22) (Jk 3), none⟩])
 (.reg [Jm 23 0,
 Ji 24 (.call (Jf 89) [(.t 23), (.k (.str [104, 121, 98, 114, 105, 100]))])]))))))
 (.seq (.reg [Jm 25 0,
 Ji 26 (.call (Jf 93) [(.t 25)]),
 Ji 27 (.fieldAddr 1 1 false (.t 3)),
 ⟨none, .store 1 (.t 27) (.t 26), none⟩])
 (.seq (.reg [Jm 28 0,
 Ji 29 (.call (Jf 94) [(.t 28)]),
 Ji 30 (.fieldAddr 2 1 false (.t 3)),
 ⟨none, .store 1 (.t 30) (.t 29), none⟩])
 (.seq (.seq (.reg [Ji 31 (.fieldAddr 0 1 false (.t 3)),
 Ji 32 (.load 1 false (.t 31)),
 Ji 33 (.bin .eql (.t 32) (Jk 3))])
 (.cond (.t 33) (.seq (.reg [Jm 34 0,
 Ji 35 (.call (Jf 89) [(.t 34), (.k (.str [123]))])])
 (.seq (.reg [Jm 36 0,
 Ji 37 (.call (Jf 95) [(.t 36), (.k (.bool true))]),
 Ji 38 (.fieldAddr 3 1 false (.t 3)),
 ⟨none, .store 1 (.t 38) (.t 37), none⟩])
 (.seq (.reg [Jm 39 0,
 Ji 40 (.call (Jf 89) [(.t 39), (.k (.str [125]))])])
 (.seq (.reg [Ji 41 (.load 7 true (.t 3)),
 ⟨none, .store 7 (.t 2) (.t 41), none⟩])
 .ret))))
 .skip))
 (.seq (.reg [Jm 42 0,
 Ji 43 (.call (Jf 89) [(.t 42), (.k (.str [58]))])])
 (.seq (.reg [Jm 44 0,
 Ji 45 (.call (Jf 96) [(.t 44)]),
 Ji 46 (.fieldAddr 4 1 false (.t 3)),
 ⟨none, .store 1 (.t 46) (.t 45), none⟩])
 (.seq (.seq (.reg [Ji 47 (.fieldAddr 0 1 false (.t 3)),
 Ji 48 (.load 1 false (.t 47)),
 Ji 49 (.bin .eql (.t 48) (Jk 1))])
 (.cond (.t 49) (.seq (.reg [Jm 50 0,
 Ji 51 (.call (Jf 89) [(.t 50), (.k (.str [61]))])])
 (.seq (.reg [Jm 52 0,
 Ji 53 (.call (Jf 56) [(.t 52)]),
 Ji 54 (.fieldAddr 5 1 false (.t 3)),
 ⟨none, .store 1 (.t 54) (.t 53), none⟩])
 (.seq (.reg [Jm 55 0,
 Ji 56 (.call (Jf 89) [(.t 55), (.k (.str [59]))])])
 (.seq (.reg [Ji 57 (.load 7 true (.t 3)),
 ⟨none, .store 7 (.t 2) (.t 57), none⟩])
 .ret))))
 .skip))
 (.seq (.reg [Jm 58 0,
 Ji 59 (.call (Jf 89) [(.t 58), (.k (.str [123]))])])
 (.seq (.reg [Jm 60 0,
 Ji 61 (.call (Jf 95) [(.t 60), (.k (.bool false))]),
 Ji 62 (.fieldAddr 3 1 false (.t 3)),
 ⟨none, .store 1 (.t 62) (.t 61), none⟩])
 (.seq (.reg [Jm 63 0,
 Ji 64 (.call (Jf 89) [(.t 63), (.k (.str [114, 101, 116, 117, 114, 110]))])])
 (.seq (.reg [Jm 65 0,
 Ji 66 (.call (Jf 56) [(.t 65)]),
 Ji 67 (.fieldAddr 5 1 false (.t 3)),
 ⟨none, .store 1 (.t 67) (.t 66), none⟩])
 (.seq (.reg [Jm 68 0,
 Ji 69 (.call (Jf 89) [(.t 68), (.k (.str [59]))])])
 (.seq (.reg [Jm 70 0,
 Ji 71 (.call (Jf 89) [(.t 70), (.k (.str [125]))])])
 (.seq (.reg [Ji 72 (.load 7 true (.t 3)),
 ⟨none, .store 7 (.t 2) (.t 72), none⟩])
 .ret))))))))))))))))),
 [], true⟩
def a58 : AFunc := ⟨26, [],
 (.seq (.reg [Jm 4 0,
 Ji 5 (.nilCheck (.t 4)),
 Ji 6 (.fieldAddr 5 2 true (.t 5)),
 Ji 7 (.fieldAddr 0 1 false (.t 6)),
 Ji 8 (.load 1 false (.t 7)),
 Ji 9 (.bin .eql (.t 8) (Jk 0))])
 (.cond (.t 9) (.plan [⟨0, Jm 10 0, []⟩,
 ⟨1, Jm 11 1, []⟩,
 ⟨2, Jm 12 0, []⟩,
 ⟨3, Ji 13 (.nilCheck (.t 12)), []⟩,
 ⟨4, Ji 14 (.fieldAddr 0 1 false (.t 13)), []⟩,
 ⟨5, Ji 15 (.load 1 false (.t 14)), []⟩,
 ⟨6, Jm 16 0, []⟩,
 ⟨7, Ji 17 (.nilCheck (.t 16)), []⟩,
 ⟨8, Ji 18 (.fieldAddr 1 1 false (.t 17)), []⟩,
 ⟨9, Ji 19 (.load 1 false (.t 18)), []⟩,
 ⟨10, Ji 20 (.indexAddr 4 true none (.t 15) (.t 19)), []⟩,
 ⟨11, Ji 21 (.fieldAddr 3 1 false (.t 20)), []⟩,
 ⟨12, Ji 22 (.load 1 false (.t 21)), []⟩,
 ⟨13, Ji 23 (.build [(.int .i64 0), (.int .i64 0)] [(0, 1, (.t 11)), (1, 1, (.t 22))]), []⟩,
 ⟨14, Ji 24 (.nilCheck (.t 10)), []⟩,
 ⟨15, Ji 25 (.fieldAddr 5 2 true (.t 24)), []⟩,
 ⟨16, ⟨none, .store 2 (.t 25) (.t 23), none⟩, []⟩])
 .skip)),
 [], true⟩
def a59 : AFunc := ⟨18, [.tmp 4],
 (.seq (.reg [Ji 2 (.box 2 (.t 0) false),
 Ji 4 (.mov (.k (.bool false)))])
 (.seq (.reg [Jm 5 1,
 Ji 6 (.bin .geq (.t 5) (Jk 0)),
 Jm 7 6,
 ⟨some 8, .mov (.t 1), some (7, true)⟩,
 ⟨some 9, .fieldAddr 0 1 false (.t 2), some (7, true)⟩,
 ⟨some 10, .load 1 false (.t 9), some (7, true)⟩,
 ⟨some 11, .lenSl (.t 10), some (7, true)⟩,
 ⟨some 12, .bin .lss (.t 8) (.t 11), some (7, true)⟩,
 Ji 13 (.pick (.t 7) (.t 12) (.k (.bool false))),
 Jm 14 13,
 ⟨some 15, .load 2 true (.t 2), some (14, true)⟩,
 ⟨some 16, .call (Jf 52) [(.t 15)], some (14, true)⟩,
 Ji 17 (.pick (.t 14) (.t 16) (.k (.bool false))),
 Jm 4 17])
 .ret)),
 [], false⟩
def a60_0 : ACode := (.seq (.reg [Ji 32 (.bin .lss (.t 31) (.t 30))])
 (.seq (.cond (.t 32) .skip
 (.exit 2))
 (.seq (.block 3 (.seq (.reg [Jm 33 31,
 Ji 34 (.indexAddr 9 true none (.t 29) (.t 31)),
 Ji 35 (.load 9 true (.t 34)),
 Ji 7 (.new (.agg [(.int .i64 0), (.str []), (.int .i64 0), (.int .i64 0), (.int .i64 0), (.lst 1 [] .tight), (.str []), (.str []), (.int .i64 0)]) true none),
 Jm 6 33,
 ⟨none, .store 9 (.t 7) (.t 35), none⟩])
 (.seq (.reg [Ji 37 (.load 9 true (.t 7)),
 Ji 38 (.call (Jf 97) [(.t 37)]),
 Jm 36 38,
 Ji 39 (.extract (.t 36) 0),
 Ji 40 (.extract (.t 36) 1),
 Ji 8 (.new (.agg [(.str []), (.int .i64 0), (.int .i64 0), (.int .i64 0)]) true none),
 ⟨none, .store 4 (.t 8) (.t 39), none⟩,
 Jm 9 40])
 (.seq (.reg [Jm 41 9])
 (.cond (.t 41) (.seq (.reg [Jm 42 6,
 Ji 43 (.fieldAddr 3 1 false (.t 8)),
 ⟨none, .store 1 (.t 43) (.t 42), none⟩])
 (.reg [Jm 44 3,
 Ji 45 (.load 4 true (.t 8)),
 Ji 46 (.mkLit 4 [(.str []), (.int .i64 0), (.int .i64 0), (.int .i64 0)] [(0, 4, (.t 45))] false),
 Ji 47 (.append 4 40 (some 47) (.t 44) (.t 46)),
 Jm 3 47]))
 .skip)))))
 (.reg [Ji 48 (.bin .add (.t 31) (Jk 1)),
 Jm 31 48]))))
def a60_1 : ACode := (.seq (.reg [Ji 14 (.bin .lss (.t 13) (.t 12))])
 (.seq (.cond (.t 14) .skip
 (.exit 0))
 (.seq (.block 1 (.seq (.reg [Jm 15 13,
 Ji 16 (.indexAddr 2 true none (.t 11) (.t 13)),
 Ji 17 (.load 2 true (.t 16)),
 Ji 5 (.new (.agg [(.str []), (.int .i64 0)]) true none),
 Jm 4 15,
 ⟨none, .store 2 (.t 5) (.t 17), none⟩])
 (.reg [Jm 18 3,
 Ji 19 (.fieldAddr 0 1 false (.t 5)),
 Ji 20 (.load 1 false (.t 19)),
 Ji 21 (.fieldAddr 1 1 false (.t 5)),
 Ji 22 (.load 1 false (.t 21)),
 Jm 23 4,
 Ji 24 (.build [(.str []), (.int .i64 0), (.int .i64 0), (.int .i64 0)] [(0, 1, (.t 20)), (1, 1, (Jk 1)), (2, 1, (.t 22)), (3, 1, (.t 23))]),
 Ji 25 (.mkLit 4 [(.str []), (.int .i64 0), (.int .i64 0), (.int .i64 0)] [(0, 4, (.t 24))] false),
 Ji 26 (.append 4 40 (some 47) (.t 18) (.t 25)),
 Jm 3 26])))
 (.reg [Ji 27 (.bin .add (.t 13) (Jk 1)),
 Jm 13 27]))))
def a60 : AFunc := ⟨50, [.tmp 2],
 (.seq (.reg [Ji 1 (.box 7 (.t 0) false),
 Ji 2 (.mov (.k (.lst 4 [] .tight)))])
 (.seq (.reg [Ji 3 (.mov (.k (.lst 4 [] .tight)))])
 (.seq (.seq (.reg [Ji 10 (.fieldAddr 2 1 false (.t 1)),
 Ji 11 (.load 1 false (.t 10)),
 Ji 12 (.lenSl (.t 11)),
 Ji 13 (.mov (Jk 0))])
 (.block 0 (.loop a60_1)))
 (.seq (.seq (.reg [Ji 28 (.fieldAddr 3 1 false (.t 1)),
 Ji 29 (.load 1 false (.t 28)),
 Ji 30 (.lenSl (.t 29)),
 Ji 31 (.mov (Jk 0))])
 (.block 2 (.loop a60_0)))
 (.seq (.reg [Jm 49 3,
 Jm 2 49])
 .ret))))),
 [], false⟩
def a61 : AFunc := ⟨17, [.tmp 2],
 (.seq (.reg [Ji 1 (.box 7 (.t 0) false),
 Ji 2 (.mov (.k .nilMap))])
 (.seq (.reg [Ji 6 (.mkMap),
 Ji 3 (.new .nilMap true none),
 ⟨none, .store 1 (.t 3) (.t 6), none⟩])
 (.seq (.seq (.reg [Ji 7 (.load 7 true (.t 1)),
 Ji 8 (.call (Jf 60) [(.t 7)]),
 Ji 9 (.call (Jf 98) [(.t 8)])])
 (.block 0 (.rangeFunc (.t 9) [10, 11] 0)))
 (.seq (.reg [Ji 16 (.load 1 false (.t 3)),
 Jm 2 16])
 .ret)))),
 [((.reg [Ji 5 (.new (.agg [(.str []), (.int .i64 0), (.int .i64 0), (.int .i64 0)]) true none),
 ⟨none, .store 4 (.t 5) (.t 11), none⟩]), (.block 1 (.reg [Ji 12 (.load 1 false (.t 3)),
 Ji 13 (.fieldAddr 0 1 false (.t 5)),
 Ji 14 (.load 1 false (.t 13)),
 Ji 15 (.load 4 true (.t 5)),
 ⟨none, .mapUpdate 1 (.t 12) (.t 14) (.t 15), none⟩])))], true⟩
def a62_0 : ACode := (.seq (.reg [Ji 10 (.bin .lss (.t 9) (.t 8))])
 (.seq (.cond (.t 10) .skip
 (.exit 0))
 (.seq (.block 1 (.seq (.reg [Ji 11 (.indexAddr 9 true none (.t 7) (.t 9)),
 Ji 12 (.load 9 true (.t 11)),
 Ji 5 (.new (.agg [(.int .i64 0), (.str []), (.int .i64 0), (.int .i64 0), (.int .i64 0), (.lst 1 [] .tight), (.str []), (.str []), (.int .i64 0)]) true none),
 ⟨none, .store 9 (.t 5) (.t 12), none⟩])
 (.seq (.seq (.reg [Ji 13 (.fieldAddr 0 1 false (.t 5)),
 Ji 14 (.load 1 false (.t 13)),
 Ji 15 (.bin .leq (.t 14) (Jk 5))])
 (.cond (.t 15) (.reg [Jm 16 3,
 Ji 17 (.fieldAddr 3 1 false (.t 5)),
 Ji 18 (.load 1 false (.t 17)),
 Ji 19 (.mkLit 1 [(.int .i64 0)] [(0, 1, (.t 18))] false),
 Ji 20 (.append 1 8 (some 3) (.t 16) (.t 19)),
 Jm 3 20])
 .skip))
 (.seq (.reg [Ji 21 (.fieldAddr 0 1 false (.t 5)),
 Ji 22 (.load 1 false (.t 21)),
 Ji 23 (.bin .eql (.t 22) (Jk 2)),
 Jm 24 23,
 ⟨some 25, .fieldAddr 0 1 false (.t 5), some (24, false)⟩,
 ⟨some 26, .load 1 false (.t 25), some (24, false)⟩,
 ⟨some 27, .bin .eql (.t 26) (Jk 3), some (24, false)⟩,
 Ji 28 (.pick (.t 24) (.k (.bool true)) (.t 27)),
 Jm 29 28,
 ⟨some 30, .fieldAddr 0 1 false (.t 5), some (29, false)⟩,
 ⟨some 31, .load 1 false (.t 30), some (29, false)⟩,
 ⟨some 32, .bin .eql (.t 31) (Jk 5), some (29, false)⟩,
 Ji 33 (.pick (.t 29) (.k (.bool true)) (.t 32)),
 Jm 34 33,
 ⟨some 35, .fieldAddr 0 1 false (.t 5), some (34, false)⟩,
 ⟨some 36, .load 1 false (.t 35), some (34, false)⟩,
 ⟨some 37, .bin .eql (.t 36) (Jk 7), some (34, false)⟩,
 Ji 38 (.pick (.t 34) (.k (.bool true)) (.t 37))])
 (.cond (.t 38) (.reg [Jm 39 3,
 Ji 40 (.fieldAddr 4 1 false (.t 5)),
 Ji 41 (.load 1 false (.t 40)),
 Ji 42 (.mkLit 1 [(.int .i64 0)] [(0, 1, (.t 41))] false),
 Ji 43 (.append 1 8 (some 3) (.t 39) (.t 42)),
 Jm 3 43])
 .skip)))))
 (.reg [Ji 44 (.bin .add (.t 9) (Jk 1)),
 Jm 9 44]))))
def a62 : AFunc := ⟨54, [.tmp 2],
 (.seq (.reg [Ji 1 (.box 7 (.t 0) false),
 Ji 2 (.mov (.k (.lst 1 [] .tight)))])
 (.seq (.reg [Ji 3 (.mov (.k (.lst 1 [] .tight)))])
 (.seq (.seq (.reg [Ji 6 (.fieldAddr 3 1 false (.t 1)),
 Ji 7 (.load 1 false (.t 6)),
 Ji 8 (.lenSl (.t 7)),
 Ji 9 (.mov (Jk 0))])
 (.block 0 (.loop a62_0)))
 (.seq (.seq (.reg [Ji 45 (.fieldAddr 0 1 false (.t 1)),
 Ji 46 (.load 1 false (.t 45)),
 Ji 47 (.bin .neq (.t 46) (Jk 3))])
 (.cond (.t 47) (.reg [Jm 48 3,
 Ji 49 (.fieldAddr 5 1 false (.t 1)),
 Ji 50 (.load 1 false (.t 49)),
 Ji 51 (.mkLit 1 [(.int .i64 0)] [(0, 1, (.t 50))] false),
 Ji 52 (.append 1 8 (some 3) (.t 48) (.t 51)),
 Jm 3 52])
 .skip))
 (.seq (.reg [Jm 53 3,
 Jm 2 53])
 .ret))))),
 [], false⟩
def a63 : AFunc := ⟨9, [.tmp 4],
 (.seq (.reg [Ji 2 (.box 2 (.t 0) false),
 Ji 3 (.box 1 (.t 1) false),
 Ji 4 (.mov (Jk 0))])
 (.seq (.reg [Ji 5 (.fieldAddr 0 1 false (.t 2)),
 Ji 6 (.load 1 false (.t 5)),
 Ji 7 (.mkFunc 100 [] [(.t 3)]),
 Ji 8 (.call (Jf 99) [(.t 6), (.t 7)]),
 Jm 4 8])
 .ret)),
 [], false⟩
def a64 : AFunc := ⟨24, [.tmp 2, .tmp 3],
 (.seq (.reg [Ji 2 (.mov (.k (.bool false))),
 Ji 3 (.mov (.k (.bool false)))])
 (.seq (.reg [Jm 4 0,
 Ji 5 (.bin .geq (.t 4) (Jk 1)),
 Jm 6 5,
 ⟨some 7, .mov (.t 0), some (6, true)⟩,
 ⟨some 8, .bin .leq (.t 7) (Jk 5), some (6, true)⟩,
 Ji 9 (.pick (.t 6) (.t 8) (.k (.bool false))),
 Jm 10 0,
 Ji 11 (.bin .eql (.t 10) (Jk 2)),
 Jm 12 11,
 ⟨some 13, .mov (.t 0), some (12, false)⟩,
 ⟨some 14, .bin .eql (.t 13) (Jk 3), some (12, false)⟩,
 Ji 15 (.pick (.t 12) (.k (.bool true)) (.t 14)),
 Jm 16 15,
 ⟨some 17, .mov (.t 0), some (16, false)⟩,
 ⟨some 18, .bin .eql (.t 17) (Jk 5), some (16, false)⟩,
 Ji 19 (.pick (.t 16) (.k (.bool true)) (.t 18)),
 Jm 20 19,
 ⟨some 21, .mov (.t 0), some (20, false)⟩,
 ⟨some 22, .bin .eql (.t 21) (Jk 7), some (20, false)⟩,
 Ji 23 (.pick (.t 20) (.k (.bool true)) (.t 22)),
 Jm 2 9,
 Jm 3 23])
 .ret)),
 [], false⟩
def a65_0 : ACode := (.seq (.reg [Ji 34 (.bin .lss (.t 33) (.t 32))])
 (.seq (.cond (.t 34) .skip
 (.exit 2))
 (.seq (.block 3 (.seq (.reg [Jm 35 33,
 Ji 36 (.indexAddr 1 false none (.t 31) (.t 33)),
 Ji 37 (.load 1 false (.t 36)),
 Jm 8 35,
 Jm 9 37])
 (.seq (.seq (.reg [Jm 38 9,
 Ji 39 (.un .not (.t 38))])
 (.cond (.t 39) (.exit 3)
 .skip))
 (.seq (.plan [⟨0, Ji 40 (.load 2 true (.t 1)), []⟩,
 ⟨1, Ji 41 (.load 1 false (.t 6)), []⟩,
 ⟨2, Ji 42 (.fieldAddr 1 1 false (.t 1)), []⟩,
 ⟨3, Ji 43 (.load 1 false (.t 42)), []⟩,
 ⟨4, Jm 44 8, []⟩,
 ⟨5, Ji 45 (.indexAddr 9 true none (.t 43) (.t 44)), []⟩,
 ⟨6, Ji 46 (.load 9 true (.t 45)), []⟩,
 ⟨7, Ji 47 (.call (Jf 104) [(.t 40), (.t 41), (.t 46)]), []⟩])
 (.block 4 (.rangeFunc (.t 47) [48, 49] 0))))))
 (.reg [Ji 54 (.bin .add (.t 33) (Jk 1)),
 Jm 33 54]))))
def a65_1 : ACode := (.seq (.reg [Ji 19 (.bin .lss (.t 18) (.t 17))])
 (.seq (.cond (.t 19) .skip
 (.exit 0))
 (.seq (.block 1 (.seq (.reg [Jm 20 18,
 Jm 5 20])
 (.seq (.reg [Ji 21 (.load 2 true (.t 1)),
 Jm 22 5,
 Ji 23 (.call (Jf 69) [(.t 21), (.t 22)]),
 Ji 6 (.new (.lst 1 [] .tight) true none),
 ⟨none, .store 1 (.t 6) (.t 23), none⟩])
 (.seq (.reg [Ji 24 (.mkFunc 101 [] [(.t 6), (.t 4), (.t 1)]),
 Ji 7 (.new .nilFunc true none),
 ⟨none, .store 1 (.t 7) (.t 24), none⟩])
 (.seq (.reg [Ji 25 (.load 2 true (.t 1)),
 Jm 26 5,
 Ji 27 (.load 1 false (.t 7)),
 Ji 28 (.call (Jf 102) [(.t 25), (.t 26), (.t 27)])])
 (.seq (.reg [Ji 29 (.load 2 true (.t 1)),
 Jm 30 5,
 Ji 31 (.call (Jf 103) [(.t 29), (.t 30)]),
 Ji 32 (.lenSl (.t 31)),
 Ji 33 (.mov (Jk 0))])
 (.block 2 (.loop a65_0))))))))
 (.reg [Ji 55 (.bin .add (.t 18) (Jk 1)),
 Jm 18 55]))))
def a65 : AFunc := ⟨58, [.tmp 2, .tmp 3],
 (.seq (.reg [Ji 1 (.box 2 (.t 0) false),
 Ji 2 (.mov (.k (.lst 2 [] .tight))),
 Ji 3 (.mov (.k (.bool false)))])
 (.seq (.seq (.reg [Ji 12 (.load 2 true (.t 1)),
 Ji 13 (.call (Jf 21) [(.t 12)]),
 Ji 14 (.un .not (.t 13))])
 (.cond (.t 14) (.seq (.reg [Ji 2 (.mov (.k (.lst 2 [] .tight))),
 Ji 3 (.mov (.k (.bool false)))])
 .ret)
 .skip))
 (.seq (.reg [Ji 4 (.new (.lst 2 [] .tight) true none)])
 (.seq (.seq (.reg [Ji 15 (.fieldAddr 0 1 false (.t 1)),
 Ji 16 (.load 1 false (.t 15)),
 Ji 17 (.lenSl (.t 16)),
 Ji 18 (.mov (Jk 0))])
 (.block 0 (.loop a65_1)))
 (.seq (.reg [Ji 56 (.load 1 false (.t 4)),
 Ji 57 (.call (Jf 17) [(.t 56)]),
 Jm 2 57,
 Ji 3 (.mov (.k (.bool true)))])
 .ret))))),
 [((.seq (.reg [Jm 10 48])
 (.reg [Jm 11 49])), (.block 5 (.reg [Ji 50 (.load 1 false (.t 7)),
 Jm 51 10,
 Jm 52 11,
 Ji 53 (.call (.t 50) [(.t 51), (.t 52)])])))], false⟩
def a66 : AFunc := ⟨27, [.tmp 10],
 (.seq (.reg [Ji 6 (.box 2 (.t 1) false),
 Ji 10 (.mov (.k (.lst 2 [] .tight)))])
 (.seq (.seq (.reg [Ji 11 (.load 2 true (.t 6)),
 Jm 12 2,
 Jm 13 3,
 Ji 14 (.call (Jf 42) [(.t 11), (.t 12), (.t 13)]),
 Jm 15 4,
 Ji 16 (.bin .eql (.t 14) (.t 15))])
 (.cond (.t 16) (.seq (.reg [Jm 17 0,
 Jm 10 17])
 .ret)
 .skip))
 (.seq (.reg [Jm 18 0,
 Ji 19 (.fieldAddr 1 1 false (.t 6)),
 Ji 20 (.load 1 false (.t 19)),
 Jm 21 3,
 Ji 22 (.indexAddr 9 true none (.t 20) (.t 21)),
 Ji 23 (.fieldAddr 8 1 false (.t 22)),
 Ji 24 (.load 1 false (.t 23)),
 Ji 25 (.build [(.int .i64 0), (.int .i64 0)] [(0, 1, (Jk 5)), (1, 1, (.t 24))]),
 Ji 26 (.call (Jf 15) [(.t 18), (.t 25)]),
 Jm 10 26])
 .ret))),
 [], false⟩
end Go.Proofs.YtefildelnccljaaGreat

