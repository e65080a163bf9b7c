/- What an argument reads zs, and the abstract value that it is. No condition. -/
import Derived.Test.YtfkmdajlpnkebaaDoorAi23
import Derived.Test.YtfkmdajlpnkebaaDoorRows
import Derived.OpenShut
import Derived.Deep.Slices
namespace Go.Proofs.YtfkmdajlpnkebaaDoor.Ai
open Go

mutual
/-- How much a value is. -/
def AV.bulk : AV → Nat
  | .str s => s.length + 1
  | .agg cs => AV.bulks cs + 1
  | .lst _ es _ => AV.bulks es + 1
  | _ => 1
def AV.bulks : List AV → Nat
  | [] => 0
  | v :: vs => v.bulk + AV.bulks vs
end

theorem bulks_append (a b : List AV) : AV.bulks (a ++ b) = AV.bulks a + AV.bulks b := by
  induction a with
  | nil => simp [AV.bulks]
  | cons x a ih => simp only [List.cons_append, AV.bulks, ih]; omega

theorem bulks_cells (v : AV) : AV.bulks v.cells ≤ v.bulk := by
  cases v <;> simp [AV.cells, AV.bulks, AV.bulk]

theorem bulks_flat (vs : List AV) : AV.bulks (vs.flatMap AV.cells) ≤ AV.bulks vs := by
  induction vs with
  | nil => simp [AV.bulks]
  | cons v vs ih => simp only [List.flatMap_cons, bulks_append, AV.bulks]; have := bulks_cells v; omega

section
variable (P : Program)

/-- Fields, one behind the other. -/
def layOut : List Field → Nat → Option Nat
  | [], o => some o
  | f :: fs, o => if f.offset = o then layOut fs (o + P.cellsOf f.type) else none

/-- A type whose values are numbers, texts, and rows of them. -/
def okType : Nat → TypeId → Bool
  | 0, _ => false
  | n + 1, t => match P.underlying t with
    | some .bool => true
    | some (.int _) => true
    | some .string => true
    | some (.slice e) => okType n e && decide (1 ≤ P.cellsOf e)
    | some (.struct fs) => layOut P fs.toList 0 == some (P.cellsOf t) && fs.toList.all fun f => okType n f.type
    | some (.array k e) => okType n e && P.cellsOf t == k * P.cellsOf e
    | _ => false

def avOf {H : Type} : Nat → TypeId → DataW H → Option AV
  | 0, _, _ => none
  | n + 1, t, d => match P.underlying t, d with
    | some .bool, .lit (.bool b) => some (.bool b)
    | some (.int k), .lit (.int _ x) => some (.int k x)
    | some .string, .lit (.string s) => some (.str s)
    | some (.slice e), .nil => some (.lst (P.cellsOf e) [] .tight)
    | some (.slice e), .slice es sp => (es.mapM (avOf n e)).map fun l => .lst (P.cellsOf e) l (if sp.isEmpty then .tight else .no)
    | some (.struct fs), .agg ps => ((fs.toList.zip ps).mapM fun x => avOf n x.1.type x.2).map fun l => .agg (l.flatMap AV.cells)
    | some (.array _ e), .agg ps => (ps.mapM (avOf n e)).map fun l => .agg (l.flatMap AV.cells)
    | _, _ => none

/-- What a value of a type looks like. -/
def OfType : Nat → TypeId → AV → Prop
  | 0, _, _ => False
  | n + 1, t, a => match P.underlying t with
    | some .bool => ∃ b, a = .bool b
    | some (.int k) => ∃ x, a = .int k x ∧ (Lit.int k x).wf = true
    | some .string => ∃ s, a = .str s ∧ s.length ≤ maxLen
    | some (.slice e) => ∃ es ap, a = .lst (P.cellsOf e) es ap ∧ (ap = .no ∨ ap = .tight) ∧ es.length ≤ maxLen ∧ ∀ x ∈ es, OfType n e x
    | some (.struct fs) => ∃ xs : List AV, a = .agg (xs.flatMap AV.cells) ∧ xs.length = fs.size ∧ ∀ (i : Nat) f x, fs.toList[i]? = some f → xs[i]? = some x → OfType n f.type x
    | some (.array k e) => ∃ xs : List AV, a = .agg (xs.flatMap AV.cells) ∧ xs.length = k ∧ ∀ x ∈ xs, OfType n e x
    | _ => False
end

/-- A value, and the cells that hold it. -/
def RowRep (J : Inj) (agg : Bool) (a : AV) (cs : List Value) : Prop :=
  if agg then ∃ zs, a = .agg zs ∧ Reps J zs cs ∧ zs.all AV.isCell = true else ∃ y, cs = [y] ∧ y.cells = #[y] ∧ Rep J a y ∧ a.isCell = true

section
variable {J : Inj}

theorem RowRep.cells {agg : Bool} {a : AV} {cs : List Value} (h : RowRep J agg a cs) : Reps J a.cells cs ∧ a.cells.all AV.isCell = true := by
  unfold RowRep at h
  split at h
  · obtain ⟨zs, rfl, h1, h2⟩ := h; exact ⟨h1, h2⟩
  · obtain ⟨y, rfl, _, h1, h2⟩ := h
    have : a.cells = [a] := by cases a <;> simp [AV.cells, AV.isCell] at h2 ⊢
    rw [this]
    exact ⟨by simp only [Reps]; exact ⟨y, [], rfl, h1, rfl⟩, by simp [h2]⟩

theorem RowRep.val {agg : Bool} {a : AV} {cs : List Value} (h : RowRep J agg a cs) : ∃ y, Rep J a y ∧ a.isVar = true ∧ y.cells.toList = cs ∧ (agg = true → y = .agg cs.toArray) ∧ (agg = false → cs = [y]) := by
  unfold RowRep at h
  split at h
  · rename_i hg
    obtain ⟨zs, rfl, h1, h2⟩ := h
    exact ⟨.agg cs.toArray, by simp only [Rep]; exact ⟨_, rfl, h1, h2⟩, rfl, rfl, fun _ => rfl, fun e => by simp [e] at hg⟩
  · rename_i hg
    obtain ⟨y, rfl, hy, h1, h2⟩ := h
    exact ⟨y, h1, by cases a <;> simp [AV.isCell, AV.isVar] at h2 ⊢, by rw [hy], fun e => by simp [e] at hg, fun _ => rfl⟩
end

section
variable {P : Program} {J : Inj} {w : World} {H : Type} {enc : TypeId × Value → H} {sp : Nat → Bool} {held : Bool}

theorem cellsAt_spot {a : Addr} {v : Value} (h : w.cell? a = some v) : a.spot = none := by
  unfold World.cell? at h
  split at h
  · split at h
    · cases h
    · rename_i hs; simpa using hs
  · cases h

theorem cells_row (him : ∀ b o v, w.cell? ⟨b, o, none⟩ = some v → J.im b o = some v) {a : Addr} {m : Nat} {cs : List Value} (h : w.cells? 0 a m = some cs) (hs : a.spot = none) : Row J a.block a.off cs ∧ cs.length = m := by
  unfold World.cells? at h
  rw [if_pos (Nat.zero_le _)] at h
  have hl := mapM_some_length h
  simp at hl
  refine ⟨fun i v hv => ?_, hl⟩
  have hi : i < m := by rw [← hl]; exact (List.getElem?_eq_some_iff.1 hv).1
  have := mapM_some_get h i i (by simp [hi])
  rw [hv, add_none hs] at this
  exact him _ _ _ this

theorem cells_spot {a : Addr} {m : Nat} {cs : List Value} (hm : 1 ≤ m) (h : w.cells? 0 a m = some cs) : a.spot = none := by
  unfold World.cells? at h
  rw [if_pos (Nat.zero_le _)] at h
  have hl := mapM_some_length h
  rw [List.length_range] at hl
  have h0 : (List.range m)[0]? = some 0 := List.getElem?_range (by omega)
  have := mapM_some_get h 0 0 h0
  rw [List.getElem?_eq_getElem (by omega)] at this
  exact cellsAt_spot (a := a) (by simpa [Addr.add] using this)

/-- What is read of a type's cells. -/
def Read (n : Nat) (t : TypeId) (J : Inj) (P : Program) (cs : List Value) (d : DataW H) : Prop :=
  ∃ a agg, isAggT P t = some agg ∧ avOf P n t d = some a ∧ RowRep J agg a cs ∧ OfType P n t a ∧ a.bulk ≤ Rows.uptoBulk d

theorem fields_read {n : Nat} {cs : List Value} : ∀ (fs : List Field) (ds : List (DataW H)) (o e : Nat), layOut P fs o = some e → fs.length = ds.length →
    (∀ (i : Nat) f d, fs[i]? = some f → ds[i]? = some d → Read n f.type J P ((cs.drop f.offset).take (P.cellsOf f.type)) d) →
    ∃ xs : List AV, ((fs.zip ds).mapM fun x => avOf P n x.1.type x.2) = some xs ∧ xs.length = fs.length ∧ Reps J (xs.flatMap AV.cells) ((cs.drop o).take (e - o)) ∧ o ≤ e ∧ (xs.flatMap AV.cells).all AV.isCell = true ∧
      (∀ (i : Nat) f x, fs[i]? = some f → xs[i]? = some x → OfType P n f.type x) ∧ AV.bulks xs ≤ Rows.uptoBulkAll ds
  | [], ds, o, e, hl, hlen, h => by
    simp only [layOut, Option.some.injEq] at hl
    subst hl
    exact ⟨[], by simp, rfl, by simp [Reps], Nat.le_refl _, rfl, by simp, by simp [AV.bulks]⟩
  | f :: fs, [], o, e, hl, hlen, h => by simp at hlen
  | f :: fs, d :: ds, o, e, hl, hlen, h => by
    simp only [layOut] at hl
    split at hl
    · rename_i ho
      obtain ⟨a, agg, _, h1, h2, h3, h4⟩ := h 0 f d rfl rfl
      obtain ⟨xs, g1, g2, g3, g4, g5, g6, g7⟩ := fields_read fs ds _ e hl (by simpa using hlen) (fun i f d hf hd => h (i + 1) f d (by simpa using hf) (by simpa using hd))
      refine ⟨a :: xs, by simp [List.mapM_cons, h1, g1], by simp [g2], ?_, by omega, ?_, ?_, ?_⟩
      · rw [ho] at h2
        have e1 : e - o = P.cellsOf f.type + (e - (o + P.cellsOf f.type)) := by omega
        rw [List.flatMap_cons, e1, List.take_add, List.drop_drop]
        exact h2.cells.1.append g3
      · rw [List.flatMap_cons, List.all_append, h2.cells.2, g5]; rfl
      · intro i f' x hf hx
        cases i with
        | zero => simp at hf hx; subst hf hx; exact h3
        | succ i => exact g6 i f' x (by simpa using hf) (by simpa using hx)
      · simp only [AV.bulks, Rows.uptoBulkAll]; omega
    · cases hl

theorem elems_read {n m : Nat} {t : TypeId} {agg : Bool} {b : Nat} (hg : isAggT P t = some agg) (row : Nat → List Value) : ∀ (ds : List (DataW H)) (o : Nat),
    (∀ (i : Nat) d, ds[i]? = some d → Read n t J P (row i) d ∧ Row J b (o + i * m) (row i) ∧ (row i).length = m) →
    ∃ xs : List AV, (ds.mapM (avOf P n t)) = some xs ∧ xs.length = ds.length ∧ Elems J m xs b o ∧ (∀ x ∈ xs, OfType P n t x) ∧ AV.bulks xs ≤ Rows.uptoBulkAll ds := by
  intro ds
  induction ds generalizing row with
  | nil => intro o _; exact ⟨[], by simp, rfl, by simp [Elems], by simp, by simp [AV.bulks]⟩
  | cons d ds ih =>
    intro o h
    obtain ⟨⟨a, _, _, h1, h2, h3, h4⟩, hr, hl⟩ := h 0 d rfl
    obtain ⟨xs, g1, g2, g3, g4, g5⟩ := ih (fun i => row (i + 1)) (o + m) (fun i d hd => by
      have := h (i + 1) d (by simpa using hd)
      refine ⟨this.1, ?_, this.2.2⟩
      have e : o + (i + 1) * m = o + m + i * m := by rw [Nat.add_mul]; omega
      rw [← e]; exact this.2.1)
    obtain ⟨y, hy, hv, hc, _⟩ := h2.val
    refine ⟨a :: xs, by simp [List.mapM_cons, h1, g1], by simp [g2], ?_, ?_, ?_⟩
    · simp only [Elems]
      refine ⟨⟨y, hy, hv, ?_, ?_⟩, g3⟩
      · rw [← Array.length_toList, hc, hl]
      · rw [hc]; simpa using hr
    · intro x hx
      rcases List.mem_cons.1 hx with rfl | hx
      · exact h3
      · exact g4 x hx
    · simp only [AV.bulks, Rows.uptoBulkAll]; omega

theorem array_read {n m : Nat} {t : TypeId} {cs : List Value} : ∀ (ds : List (DataW H)) (o : Nat),
    (∀ (i : Nat) d, ds[i]? = some d → Read n t J P ((cs.drop (o + i * m)).take m) d) →
    ∃ xs : List AV, (ds.mapM (avOf P n t)) = some xs ∧ xs.length = ds.length ∧ Reps J (xs.flatMap AV.cells) ((cs.drop o).take (ds.length * m)) ∧ (xs.flatMap AV.cells).all AV.isCell = true ∧ (∀ x ∈ xs, OfType P n t x) ∧ AV.bulks xs ≤ Rows.uptoBulkAll ds := by
  intro ds
  induction ds with
  | nil => intro o _; exact ⟨[], by simp, rfl, by simp [Reps], rfl, by simp, by simp [AV.bulks]⟩
  | cons d ds ih =>
    intro o h
    obtain ⟨a, _, _, h1, h2, h3, h4⟩ := h 0 d rfl
    obtain ⟨xs, g1, g2, g3, g4, g5, g6⟩ := ih (o + m) (fun i d hd => by
      have := h (i + 1) d (by simpa using hd)
      have e : o + (i + 1) * m = o + m + i * m := by rw [Nat.add_mul]; omega
      rw [← e]; exact this)
    refine ⟨a :: xs, by simp [List.mapM_cons, h1, g1], by simp [g2], ?_, ?_, ?_, ?_⟩
    · have e1 : (d :: ds).length * m = m + ds.length * m := by simp [Nat.add_mul]; omega
      rw [List.flatMap_cons, e1, List.take_add, List.drop_drop]
      refine Reps.append ?_ g3
      simpa using h2.cells.1
    · rw [List.flatMap_cons, List.all_append, h2.cells.2, g4]; rfl
    · intro x hx
      rcases List.mem_cons.1 hx with rfl | hx
      · exact h3
      · exact g5 x hx
    · simp only [AV.bulks, Rows.uptoBulkAll]; omega

theorem read_ok (him : ∀ b o v, w.cell? ⟨b, o, none⟩ = some v → J.im b o = some v) (hsp : ∀ b, sp b = true) : ∀ (n : Nat) (t : TypeId) (cs : List Value) (x : DataW H × List MemPlace) (m : Nat), okType P n t = true →
    DataW.trod enc P w 0 sp held m t cs = some x → Read n t J P cs x.1
  | 0, t, cs, x, m, ht, _ => by cases ht
  | n + 1, t, cs, x, 0, ht, h => by simp [DataW.trod] at h
  | n + 1, t, cs, x, m + 1, ht, h => by
    simp only [okType] at ht
    split at ht
    · rename_i hu
      unfold DataW.trod at h
      rw [hu] at h
      split at h <;> simp_all
      rename_i b
      subst h
      exact ⟨.bool b, false, by simp [isAggT, hu], by simp [avOf, hu], by simp [RowRep, Value.cells, Rep, AV.isCell], by simp [OfType, hu], by simp [AV.bulk, Rows.uptoBulk]⟩
    · rename_i k hu
      unfold DataW.trod at h
      rw [hu] at h
      split at h <;> simp_all
      rename_i k' x' hk
      obtain ⟨⟨rfl, hwf⟩, rfl⟩ := h
      exact ⟨.int k' x', false, by simp [isAggT, hu], by simp [avOf, hu], by simp [RowRep, Value.cells, Rep, AV.isCell], by simp [OfType, hu]; exact hwf, by simp [AV.bulk, Rows.uptoBulk]⟩
    · rename_i hu
      obtain ⟨s, rfl, rfl, hs⟩ := DataW.trod_string hu h
      exact ⟨.str s.data.toList, false, by simp [isAggT, hu], by simp [avOf, hu], by simp [RowRep, Value.cells, Rep, AV.isCell], by simp [OfType, hu]; exact hs, by simp [AV.bulk, Rows.uptoBulk]⟩
    · rename_i e hu
      simp only [Bool.and_eq_true, decide_eq_true_eq] at ht
      obtain ⟨he, hm1⟩ := ht
      have hag : ∃ agg, isAggT P e = some agg := by
        unfold isAggT
        cases n with
        | zero => cases he
        | succ n =>
          simp only [okType] at he
          split at he <;> simp_all
      obtain ⟨agg, hag⟩ := hag
      rcases Deep.open_slice hu h with ⟨rfl, rfl⟩ | ⟨a, len, cap, mm, n', D, Pl, rfl, _, hle, hmax, rfl, rfl, hD⟩
      · refine ⟨.lst (P.cellsOf e) [] .tight, false, by simp [isAggT, hu], by simp [avOf, hu], ?_, ?_, by simp [AV.bulk, AV.bulks, Rows.uptoBulk]⟩
        · simp [RowRep, Value.cells, Rep, AV.isCell]
        · simp only [OfType, hu]; exact ⟨[], .tight, rfl, .inr rfl, Nat.zero_le _, by simp⟩
      · simp only [hsp, if_true] at hD ⊢
        have hspot : 0 < cap → a.spot = none := fun h0 => by
          obtain ⟨cs', hc, _⟩ := hD 0 h0
          have := cells_spot hm1 hc
          simpa [Addr.add] using this
        have hrow : ∀ i, i < cap → ∃ cs', w.cells? 0 (a.add (i * P.cellsOf e)) (P.cellsOf e) = some cs' ∧ Read n e J P cs' (D i) ∧ Row J a.block (a.off + i * P.cellsOf e) cs' ∧ cs'.length = P.cellsOf e := fun i hi => by
          obtain ⟨cs', hc, htr⟩ := hD i hi
          have hn := hspot (by omega)
          rw [add_none hn] at hc
          have := cells_row him hc rfl
          exact ⟨cs', by rw [add_none hn]; exact hc, read_ok him hsp n e cs' _ n' he htr, this.1, this.2⟩
        obtain ⟨row, hrow'⟩ : ∃ row : Nat → List Value, ∀ i, i < cap → Read n e J P (row i) (D i) ∧ Row J a.block (a.off + i * P.cellsOf e) (row i) ∧ (row i).length = P.cellsOf e :=
          ⟨fun i => (w.cells? 0 (a.add (i * P.cellsOf e)) (P.cellsOf e)).getD [], fun i hi => by
            obtain ⟨cs', hc, h1⟩ := hrow i hi
            simp only [hc, Option.getD_some]; exact h1⟩
        obtain ⟨xs, g1, g2, g3, g4, g5⟩ := elems_read (P := P) (J := J) (n := n) (m := P.cellsOf e) (b := a.block) hag row ((List.range len).map D) a.off (fun i d hd => by
          have hi : i < len := by have := (List.getElem?_eq_some_iff.1 hd).1; simpa using this
          simp [hi] at hd
          subst hd
          exact hrow' i (by omega))
        simp at g2
        refine ⟨.lst (P.cellsOf e) xs (if ((List.range (cap - len)).map fun j => D (len + j)).isEmpty then .tight else .no), false, by simp [isAggT, hu], by simp [avOf, hu, g1], ?_, ?_, ?_⟩
        · simp only [RowRep, Bool.false_eq_true, if_false]
          refine ⟨_, rfl, rfl, ?_, rfl⟩
          simp only [Rep]
          refine ⟨fun id hap => ?_, .inr ⟨a, cap, by rw [g2], hspot, by omega, fun ht => ?_, g3⟩⟩
          · split at hap <;> cases hap
          · split at ht
            · rename_i hemp
              simp at hemp
              omega
            · cases ht
        · simp only [OfType, hu]
          refine ⟨xs, _, rfl, ?_, by omega, g4⟩
          split <;> simp
        · simp only [AV.bulk, Rows.uptoBulk]; omega
    · rename_i fs hu
      simp only [Bool.and_eq_true, beq_iff_eq, List.all_eq_true] at ht
      obtain ⟨hlay, hf⟩ := ht
      obtain ⟨xs, n', _, rfl, hlen, hxl, hx⟩ := DataW.trod_struct hu h
      obtain ⟨zs, g1, g2, g3, g4, g5, g6, g7⟩ := fields_read (P := P) (J := J) (n := n) (cs := cs) fs.toList (xs.map (·.1)) 0 _ hlay (by simp [hxl]) (fun i f d hfi hd => by
        simp only [List.getElem?_map, Option.map_eq_some_iff] at hd
        obtain ⟨y, hy, rfl⟩ := hd
        have := hx i f (by simpa using hfi)
        rw [hy] at this
        exact read_ok him hsp n f.type _ _ n' (hf f (List.mem_of_getElem? hfi)) this)
      refine ⟨.agg (zs.flatMap AV.cells), true, by simp [isAggT, hu], by simp [avOf, hu, g1], ?_, ?_, ?_⟩
      · simp only [RowRep, if_true]
        refine ⟨_, rfl, ?_, g5⟩
        have : (cs.drop 0).take (P.cellsOf t - 0) = cs := by simp [← hlen]
        rwa [this] at g3
      · simp only [OfType, hu]
        exact ⟨zs, rfl, by simpa using g2, g6⟩
      · simp only [AV.bulk, Rows.uptoBulk]; have := bulks_flat zs; omega
    · rename_i k e hu
      simp only [Bool.and_eq_true, beq_iff_eq] at ht
      obtain ⟨he, hlay⟩ := ht
      obtain ⟨xs, n', _, rfl, hlen, hxl, hx⟩ := DataW.trod_array hu h
      obtain ⟨zs, g1, g2, g3, g5, g6, g7⟩ := array_read (P := P) (J := J) (n := n) (m := P.cellsOf e) (t := e) (cs := cs) (xs.map (·.1)) 0 (fun i d hd => by
        simp only [List.getElem?_map, Option.map_eq_some_iff] at hd
        obtain ⟨y, hy, rfl⟩ := hd
        have hi : i < k := by rw [← hxl]; exact (List.getElem?_eq_some_iff.1 hy).1
        have := hx i hi
        rw [hy] at this
        rw [Nat.zero_add]
        exact read_ok him hsp n e _ _ n' he this)
      refine ⟨.agg (zs.flatMap AV.cells), true, by simp [isAggT, hu], by simp [avOf, hu, g1], ?_, ?_, ?_⟩
      · simp only [RowRep, if_true]
        refine ⟨_, rfl, ?_, g5⟩
        have : (cs.drop 0).take ((xs.map (·.1)).length * P.cellsOf e) = cs := by simp [hxl, ← hlay, ← hlen]
        rwa [this] at g3
      · simp only [OfType, hu]
        exact ⟨zs, rfl, by simpa [hxl] using g2, g6⟩
      · simp only [AV.bulk, Rows.uptoBulk]; have := bulks_flat zs; omega
    · cases ht
end
end Go.Proofs.YtfkmdajlpnkebaaDoor.Ai
