/- A region whose order is open: any order that its edges allow does what the plan does. No condition. -/
import Derived.Test.YtfkmdajlpnkebaaDoorAi20
namespace Go.Proofs.YtfkmdajlpnkebaaDoor.Ai
open Go

/-! ### The orders that the edges allow -/

def EdgeTo (ops : Array Oper) (i j : Nat) : Prop := ∃ o e, ops[j]? = some o ∧ e ∈ o.after ∧ Region.binds .any e = true ∧ e.on = i

inductive Path (ops : Array Oper) : Nat → Nat → Prop
  | one {i j : Nat} : EdgeTo ops i j → Path ops i j
  | more {i k j : Nat} : EdgeTo ops k j → Path ops i k → Path ops i j

theorem before_path (ops : Array Oper) : ∀ j i, ((Region.before ops).getD j 0).testBit i = true → Path ops i j := by
  have key : ∀ (rest done : List Oper) (acc : Array Nat), ops.toList = done ++ rest → acc.size = done.length → (∀ j i, j < acc.size → (acc.getD j 0).testBit i = true → Path ops i j) →
      ∀ j i, ((rest.foldl (fun acc o => acc.push (o.after.foldl (fun s e => if Region.binds .any e then s ||| 2 ^ e.on ||| acc.getD e.on 0 else s) 0)) acc).getD j 0).testBit i = true → Path ops i j := by
    intro rest
    induction rest with
    | nil =>
      intro done acc _ _ hacc j i h
      simp only [List.foldl_nil] at h
      by_cases hj : j < acc.size
      · exact hacc j i hj h
      · rw [Array.getD_eq_getD_getElem?, Array.getElem?_eq_none (by omega)] at h; simp at h
    | cons o rest ih =>
      intro done acc hops hsz hacc j i h
      simp only [List.foldl_cons] at h
      refine ih (done ++ [o]) _ (by simpa using hops) (by simp [hsz]) ?_ j i h
      intro j i hj hb
      simp only [Array.size_push] at hj
      by_cases hj' : j < acc.size
      · rw [Array.getD_eq_getD_getElem?, Array.getElem?_push_lt hj'] at hb
        refine hacc j i hj' ?_
        rw [Array.getD_eq_getD_getElem?, Array.getElem?_eq_getElem hj']; exact hb
      · have hje : j = acc.size := by omega
        subst hje
        rw [Array.getD_eq_getD_getElem?, Array.getElem?_push_size] at hb
        simp only [Option.getD_some] at hb
        have hoj : ops[acc.size]? = some o := by
          have : ops.toList[acc.size]? = some o := by rw [hops, List.getElem?_append_right (by omega)]; simp [hsz]
          simpa using this
        have bits : ∀ (es : List Edge) (s : Nat), (∀ e ∈ es, e ∈ o.after) → (s.testBit i = true → Path ops i acc.size) →
            (es.foldl (fun s e => if Region.binds .any e then s ||| 2 ^ e.on ||| acc.getD e.on 0 else s) s).testBit i = true → Path ops i acc.size := by
          intro es
          induction es with
          | nil => intro s _ hs h; exact hs h
          | cons e es ihe =>
            intro s hmem hs h
            simp only [List.foldl_cons] at h
            refine ihe _ (fun e' he' => hmem e' (List.mem_cons_of_mem _ he')) ?_ h
            intro hb
            split at hb
            · rename_i hbind
              simp only [Nat.testBit_or, Bool.or_eq_true] at hb
              have hedge : EdgeTo ops e.on acc.size := ⟨o, e, hoj, hmem e (List.mem_cons_self ..), hbind, rfl⟩
              rcases hb with (hb | hb) | hb
              · exact hs hb
              · rw [Nat.testBit_two_pow] at hb
                simp at hb; subst hb; exact .one hedge
              · by_cases hlt : e.on < acc.size
                · exact .more hedge (hacc _ _ hlt hb)
                · rw [Array.getD_eq_getD_getElem?, Array.getElem?_eq_none (by omega)] at hb; simp at hb
            · exact hs hb
        refine bits o.after.toList 0 (fun e he => Array.mem_toList_iff.1 he) (by simp) ?_
        rw [← Array.foldl_toList] at hb; exact hb
  intro j i h
  unfold Region.before at h
  rw [← Array.foldl_toList] at h
  exact key ops.toList [] #[] (by simp) rfl (fun j i hj => by simp at hj) j i h

/-- An order that the edges allow, behind what is done. -/
def Ext (ops : Array Oper) : List Nat → List Nat → Prop
  | _, [] => True
  | D, i :: is => (∀ k, EdgeTo ops k i → k ∈ D) ∧ Ext ops (i :: D) is

theorem Ext.snoc {ops : Array Oper} : ∀ (is : List Nat) (D : List Nat) (i : Nat), Ext ops D is → (∀ k, EdgeTo ops k i → k ∈ is.reverse ++ D) → Ext ops D (is ++ [i])
  | [], D, i, _, h => ⟨by simpa using h, trivial⟩
  | j :: is, D, i, ⟨h1, h2⟩, h => ⟨h1, Ext.snoc is (j :: D) i h2 (fun k hk => by simpa using h k hk)⟩

theorem cover_length : ∀ (n : Nat) (l : List Nat), (∀ i, i < n → i ∈ l) → n ≤ l.length
  | 0, _, _ => Nat.zero_le _
  | n + 1, l, h => by
    have hm := h n (Nat.lt_succ_self n)
    have := cover_length n (l.erase n) (fun i hi => (List.mem_erase_of_ne (by omega)).2 (h i (by omega)))
    rw [List.length_erase_of_mem hm] at this
    have := List.length_pos_of_mem hm
    omega

theorem pigeon : ∀ (n : Nat) (l : List Nat), l.Nodup → (∀ x ∈ l, x < n) → l.length = n → ∀ i, i < n → i ∈ l := by
  intro n l hn hlt hlen i hi
  by_cases h : i ∈ l
  · exact h
  · exfalso
    -- with i, one more than there is room for
    have key : ∀ (n : Nat) (l : List Nat), l.Nodup → (∀ x ∈ l, x < n) → l.length ≤ n := by
      intro n
      induction n with
      | zero => intro l _ hl; cases l with
        | nil => simp
        | cons a l => exact absurd (hl a (by simp)) (by omega)
      | succ n ih =>
        intro l hn hl
        have h1 := ih (l.erase n) (hn.erase n) (fun x hx => by
          have hx' := hn.mem_erase_iff.1 hx
          have := hl x hx'.2
          have := hx'.1
          omega)
        have h2 : l.length ≤ (l.erase n).length + 1 := by
          by_cases hm : n ∈ l
          · rw [List.length_erase_of_mem hm]; omega
          · rw [List.erase_of_not_mem hm]; omega
        omega
    have := key n (i :: l) (List.nodup_cons.2 ⟨h, hn⟩) (fun x hx => by
      rcases List.mem_cons.1 hx with rfl | hx
      · exact hi
      · exact hlt x hx)
    simp at this; omega

theorem linearise_ext {ops : Array Oper} (hac : ∀ i o, ops[i]? = some o → ∀ e ∈ o.after, Region.binds .any e = true → e.on < i) (t : Nat) :
    let l := Region.linearise .any ops t
    l.Nodup ∧ (∀ i, i ∈ l ↔ i < ops.size) ∧ Ext ops [] l := by
  have key : ∀ (fuel t : Nat) (listed : Array Bool) (acc : List Nat), listed.size = ops.size → (∀ i, i < ops.size → (listed.getD i true = true ↔ i ∈ acc)) → acc.Nodup → (∀ i ∈ acc, i < ops.size) → fuel + acc.length = ops.size → Ext ops [] acc.reverse →
      (Region.linearise.go .any ops fuel t listed acc).Nodup ∧ (∀ i, i ∈ Region.linearise.go .any ops fuel t listed acc ↔ i < ops.size) ∧ Ext ops [] (Region.linearise.go .any ops fuel t listed acc) := by
    intro fuel
    induction fuel with
    | zero =>
      intro t listed acc hs hl hn hlt hlen hext
      simp only [Region.linearise.go]
      refine ⟨List.pairwise_reverse.2 (hn.imp Ne.symm), fun i => ?_, hext⟩
      rw [List.mem_reverse]
      exact ⟨hlt i, fun hi => pigeon _ acc hn hlt (by omega) i hi⟩
    | succ fuel ih =>
      intro t listed acc hs hl hn hlt hlen hext
      simp only [Region.linearise.go]
      generalize hrs : ((List.range ops.size).filter fun i => !listed.getD i true && ((ops[i]?).map (·.after.all fun e => !Region.binds .any e || listed.getD e.on false)).getD false) = rs
      have hmem : ∀ i ∈ rs, i < ops.size ∧ i ∉ acc ∧ ∀ k, EdgeTo ops k i → k ∈ acc := by
        intro i hi
        rw [← hrs, List.mem_filter, List.mem_range, Bool.and_eq_true] at hi
        obtain ⟨hi1, hi2, hi3⟩ := hi
        refine ⟨hi1, fun hc => ?_, ?_⟩
        · rw [(hl i hi1).2 hc] at hi2; simp at hi2
        · rintro k ⟨o, e, ho, he, hb, rfl⟩
          rw [ho] at hi3
          simp only [Option.map_some, Option.getD_some] at hi3
          rw [Array.all_eq_true'] at hi3
          have := hi3 e he
          simp only [hb, Bool.not_true, Bool.false_or] at this
          have hk := hac i o ho e he hb
          refine (hl e.on (by omega)).1 ?_
          rw [Array.getD_eq_getD_getElem?] at this ⊢
          rw [Array.getElem?_eq_getElem (by omega)] at this ⊢
          exact this
      have hne : rs ≠ [] := by
        -- the least that is not listed
        have hex : ∃ i, i < ops.size ∧ i ∉ acc := by
          by_cases h : ∃ i, i < ops.size ∧ i ∉ acc
          · exact h
          · exfalso
            have := cover_length ops.size acc (fun j hj => by
              by_cases hjc : j ∈ acc
              · exact hjc
              · exact absurd ⟨j, hj, hjc⟩ h)
            omega
        obtain ⟨i, ⟨hi1, hi2⟩, hmin⟩ : ∃ i, (i < ops.size ∧ i ∉ acc) ∧ ∀ j, j < i → ¬ (j < ops.size ∧ j ∉ acc) := by
          obtain ⟨i, hi⟩ := hex
          induction i using Nat.strongRecOn with
          | _ i ihi =>
            by_cases h : ∃ j, j < i ∧ (j < ops.size ∧ j ∉ acc)
            · obtain ⟨j, hj, hjj⟩ := h; exact ihi j hj hjj
            · exact ⟨i, hi, fun j hj hjj => h ⟨j, hj, hjj⟩⟩
        intro hnil
        have : i ∈ rs := by
          rw [← hrs, List.mem_filter, List.mem_range, Bool.and_eq_true]
          refine ⟨hi1, ?_, ?_⟩
          · cases hv : listed.getD i true with
            | false => rfl
            | true => exact absurd ((hl i hi1).1 hv) hi2
          · rw [Array.getElem?_eq_getElem hi1]
            simp only [Option.map_some, Option.getD_some]
            rw [Array.all_eq_true']
            intro e he
            cases hb : Region.binds .any e with
            | false => rfl
            | true =>
              simp only [Bool.not_true, Bool.false_or]
              have hk := hac i _ (Array.getElem?_eq_getElem hi1) e he hb
              have hin : e.on ∈ acc := by
                by_cases hc : e.on ∈ acc
                · exact hc
                · exact absurd ⟨by omega, hc⟩ (hmin e.on hk)
              have := (hl e.on (by omega)).2 hin
              rw [Array.getD_eq_getD_getElem?] at this ⊢
              rw [Array.getElem?_eq_getElem (by omega)] at this ⊢
              exact this
        rw [hnil] at this; cases this
      have hpos : 0 < rs.length := List.length_pos_iff.2 hne
      have hget : rs[t % rs.length]? = some (rs[t % rs.length]'(Nat.mod_lt _ hpos)) := List.getElem?_eq_getElem _
      rw [hget]
      simp only []
      have hi := hmem _ (List.getElem_mem (Nat.mod_lt t hpos))
      generalize rs[t % rs.length]'(Nat.mod_lt _ hpos) = i at hi
      obtain ⟨hi1, hi2, hi3⟩ := hi
      refine ih (t / rs.length) (listed.setIfInBounds i true) (i :: acc) (by simpa using hs) ?_ (List.nodup_cons.2 ⟨hi2, hn⟩) ?_ (by simp; omega) ?_
      · intro j hj
        rw [Array.getD_eq_getD_getElem?, Array.getElem?_setIfInBounds]
        by_cases hij : i = j
        · subst hij; simp [show i < listed.size by omega]
        · rw [if_neg hij]
          have := hl j hj
          rw [Array.getD_eq_getD_getElem?] at this
          rw [this]; simp [Ne.symm hij]
      · intro j hj
        rcases List.mem_cons.1 hj with rfl | hj
        · exact hi1
        · exact hlt j hj
      · rw [List.reverse_cons]
        exact hext.snoc _ _ _ (fun k hk => by simpa using hi3 k hk)
  exact key ops.size t (Array.replicate ops.size false) [] (by simp) (fun i hi => by simp [Array.getD_eq_getD_getElem?, hi]) List.nodup_nil (fun i h => by simp at h) (by simp) trivial
end Go.Proofs.YtfkmdajlpnkebaaDoor.Ai
