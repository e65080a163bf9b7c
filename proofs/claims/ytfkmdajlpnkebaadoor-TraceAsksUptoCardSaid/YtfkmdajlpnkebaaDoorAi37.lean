/- APPENDS, symbolically: who owns a list's room. No condition. -/
import Derived.Test.YtfkmdajlpnkebaaDoorAi36
namespace Go.Proofs.YtfkmdajlpnkebaaDoor.Ai
open Go

/-- A list whose room is one's own, made behind 'b'. -/
def Own (st : St) (b m : Nat) (ty : Option TypeId) (ap : Ap) (n : Nat) : Prop :=
  (n = 0 ∧ ap = .tight) ∨ (0 < n ∧ ∃ id, ap = .tok id ∧ b ≤ id ∧ st[id]? = some (.tok m n ty))
/-- Not the same room. -/
def Apart (a c : Ap) : Prop := ∀ id, a = .tok id → c ≠ .tok id
theorem Apart.symm {a c : Ap} (h : Apart a c) : Apart c a := fun id h1 h2 => h id h2 h1
theorem Apart.tight {a : Ap} : Apart a .tight := fun _ _ => nofun
theorem Own.nil {st b m ty} : Own st b m ty .tight 0 := .inl ⟨rfl, rfl⟩
theorem Own.snoc {st b m ty ap n} {o : AObj} (h : Own st b m ty ap n) : Own (st ++ [o]) b m ty ap n := by
  rcases h with h | ⟨h0, id, h1, h2, h3⟩
  · exact .inl h
  · refine .inr ⟨h0, id, h1, h2, ?_⟩
    rw [List.getElem?_append_left (List.getElem?_eq_some_iff.1 h3).1]; exact h3
def endAp (n : Nat) : Ap := if n = 0 then .tight else .no

/-- What a step may do to a world: what lies ahead of 'b' stays, what one owns stays. -/
structure Grew (b : Nat) (st st' : St) : Prop where
  take : st'.take b = st.take b
  len : st.length ≤ st'.length
  ok : StOk st → StOk st'
theorem Grew.refl {b st} : Grew b st st := ⟨rfl, Nat.le_refl _, id⟩
theorem Grew.trans {b st st1 st2} (h : Grew b st st1) (g : Grew b st1 st2) : Grew b st st2 := ⟨g.take.trans h.take, Nat.le_trans h.len g.len, fun x => g.ok (h.ok x)⟩

theorem append_own {st : St} {b m bytes : Nat} {ty : Option TypeId} {es ys : List AV} {ap ap0 : Ap} (hb : b ≤ st.length) (ho : Own st b m ty ap es.length) (hys : ys ≠ []) (hlen : es.length + ys.length ≤ great) (hby : bytes ≤ 256) :
    ∃ ap' st', appendA m bytes ty st (.lst m es ap) (.lst m ys ap0) = some (.val (.lst m (es ++ ys) ap') st') ∧ Own st' b m ty ap' (es ++ ys).length ∧ Grew b st st' ∧
      (∀ m2 ty2 ap2 n2, Own st b m2 ty2 ap2 n2 → Apart ap ap2 → Own st' b m2 ty2 ap2 n2 ∧ Apart ap' ap2) := by
  have hpos : 0 < es.length + ys.length := by have := List.length_pos_iff.2 hys; omega
  rcases ho with ⟨h0, rfl⟩ | ⟨h0, id, rfl, hid, htok⟩
  · refine ⟨.tok st.length, st ++ [.tok m (es.length + ys.length) ty], ?_, .inr ⟨by simpa using hpos, st.length, rfl, hb, by simp⟩, ⟨by rw [List.take_append_of_le_length hb], by simp, fun h => h.snoc rfl⟩, fun m2 ty2 ap2 n2 h _ => ⟨h.snoc, ?_⟩⟩
    · simp [appendA, elemsOf, hlen, hby, hys, AV.asLst]
    · intro id h1 h2
      cases h1
      rcases h with ⟨_, h⟩ | ⟨_, id, h, _, h3⟩
      · rw [h] at h2; cases h2
      · rw [h] at h2; cases h2
        have := (List.getElem?_eq_some_iff.1 h3).1
        omega
  · have hlt := (List.getElem?_eq_some_iff.1 htok).1
    have ht : tokIs st id m es.length = true := by simp [tokIs, htok]
    have hy : tokTy st id = ty := by simp [tokTy, htok]
    refine ⟨.tok id, st.set id (.tok m (es.length + ys.length) ty), ?_, .inr ⟨by simpa using hpos, id, rfl, hid, by simp [hlt]⟩, ⟨?_, by simp, ?_⟩, fun m2 ty2 ap2 n2 h hap => ⟨?_, hap⟩⟩
    · simp [appendA, elemsOf, hlen, hby, hys, AV.asLst, ht, hy]
    · rw [List.take_set]
      exact List.set_eq_of_length_le (by simp; omega)
    · intro h
      unfold StOk at *
      rw [List.all_eq_true] at h ⊢
      intro x hx
      rw [List.length_set]
      rcases List.mem_or_eq_of_mem_set hx with hx | rfl
      · exact h x hx
      · rfl
    · rcases h with h | ⟨h0', id2, rfl, hid2, htok2⟩
      · exact .inl h
      · refine .inr ⟨h0', id2, rfl, hid2, ?_⟩
        have : id ≠ id2 := fun h => hap id rfl (by rw [h])
        rw [List.getElem?_set_ne this]; exact htok2

theorem stills_of {n : Nat} {st : St} : ∀ {es : List AV}, (∀ x ∈ es, AV.still n st x = some x) → AV.stills n st es = some es
  | [], _ => rfl
  | x :: es, h => by
    have h1 := h x (List.mem_cons_self ..)
    have h2 : AV.stills n st es = some es := stills_of fun y hy => h y (List.mem_cons_of_mem _ hy)
    simp only [AV.stills, h1, h2]
theorem own_still {st : St} {b m n : Nat} {ty : Option TypeId} {ap : Ap} {es : List AV} (h : Own st b m ty ap n) (hes : AV.stills b st es = some es) : AV.still b st (.lst m es ap) = some (.lst m es (endAp n)) := by
  rcases h with ⟨h0, rfl⟩ | ⟨h0, id, rfl, hid, _⟩
  · simp [AV.still, hes, endAp, h0]
  · simp [AV.still, hes, endAp, show ¬ id < b by omega, show n ≠ 0 by omega]
theorem still_tup2 {n : Nat} {st : St} {a b a' b' : AV} (h1 : AV.still n st a = some a') (h2 : AV.still n st b = some b') : AV.still n st (.tup [a, b]) = some (.tup [a', b']) := by
  simp only [AV.still, AV.stills, h1, h2, Option.map_some]
end Go.Proofs.YtfkmdajlpnkebaaDoor.Ai
