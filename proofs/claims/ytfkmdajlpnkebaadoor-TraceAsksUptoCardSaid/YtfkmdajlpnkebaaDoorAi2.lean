/- What an abstract value stands for, and an abstract store: over a program's world. No condition. -/
import Derived.Test.YtfkmdajlpnkebaaDoorAi1
import Derived.Laws.Sem
import Derived.Calls
namespace Go.Proofs.YtfkmdajlpnkebaaDoor.Ai
open Go

/-- How abstract names lie in a world: the blocks of references; the slices of tokens; the memory that stays. -/
structure Inj where
  ρ : Nat → Option Nat
  τ : Nat → Nat → Option Value
  im : Nat → Nat → Option Value

structure Inj.le (J J' : Inj) : Prop where
  ρ : ∀ r b, J.ρ r = some b → J'.ρ r = some b
  τ : ∀ i n v, J.τ i n = some v → J'.τ i n = some v
  im : ∀ b o v, J.im b o = some v → J'.im b o = some v

theorem Inj.le.refl (J : Inj) : J.le J := ⟨fun _ _ h => h, fun _ _ _ h => h, fun _ _ _ h => h⟩
theorem Inj.le.trans {J J' J'' : Inj} (h : J.le J') (h' : J'.le J'') : J.le J'' :=
  ⟨fun r b e => h'.ρ r b (h.ρ r b e), fun i n v e => h'.τ i n v (h.τ i n v e), fun b o v e => h'.im b o v (h.im b o v e)⟩

/-- Cells that stay, in a row. -/
def Row (J : Inj) (b o : Nat) (xs : List Value) : Prop := ∀ i v, xs[i]? = some v → J.im b (o + i) = some v

/-- What a variable may hold: anything but several results. -/
def AV.isVar : AV → Bool
  | .tup _ => false
  | _ => true

mutual
def Rep (J : Inj) : AV → Value → Prop
  | .bool b, x => x = .bool b
  | .int k n, x => x = .int k n
  | .str s, x => ∃ ba, x = .string ba ∧ ba.data.toList = s
  | .agg cs, x => ∃ arr, x = .agg arr ∧ Reps J cs arr.toList ∧ cs.all AV.isCell = true
  | .tup vs, x => ∃ arr, x = .tuple arr ∧ Reps J vs arr.toList
  | .func fn a b, x => match fn with
    | .func f => ∃ a' b', x = .func (.func f) a' b' ∧ Reps J a a'.toList ∧ Reps J b b'.toList
    | .yield r => a = [] ∧ b = [] ∧ ∃ l, J.ρ r = some l ∧ x = .func (.yield l) #[] #[]
    | _ => False
  | .nilFunc, x => x = .nilFunc
  | .iface t v, x => ∃ y, x = .iface t y ∧ Rep J v y
  | .nilIface, x => x = .nilIface
  | .lst m es ap, x =>
    (∀ id, ap = .tok id → J.τ id es.length = some x) ∧
    ((x = .slice none 0 0 ∧ es = []) ∨
     (∃ a cap, x = .slice (some a) es.length cap ∧ (0 < cap → a.spot = none) ∧ es.length ≤ cap ∧ (ap = .tight → cap = es.length) ∧ Elems J m es a.block a.off))
  | .sl r _ off len cap, x => ∃ b c, J.ρ r = some b ∧ x = .slice (some ⟨b, off, none⟩) len c ∧ len ≤ c ∧ (∀ k, cap = some k → c = k)
  | .ptr r off, x => ∃ b, J.ρ r = some b ∧ x = .pointer (some ⟨b, off, none⟩)
  | .iptr v, x => ∃ a y, x = .pointer (some a) ∧ a.spot = none ∧ Rep J v y ∧ v.isVar = true ∧ Row J a.block a.off y.cells.toList
  | .nilPtr, x => x = .pointer none
  | .map r, x => ∃ b, J.ρ r = some b ∧ x = .map (some b)
  | .nilMap, x => x = .map none
  | .nilSl, x => x = .slice none 0 0
def Reps (J : Inj) : List AV → List Value → Prop
  | [], xs => xs = []
  | v :: vs, xs => ∃ y ys, xs = y :: ys ∧ Rep J v y ∧ Reps J vs ys
def Elems (J : Inj) (m : Nat) : List AV → Nat → Nat → Prop
  | [], _, _ => True
  | e :: es, b, o => (∃ y, Rep J e y ∧ e.isVar = true ∧ y.cells.size = m ∧ Row J b o y.cells.toList) ∧ Elems J m es b (o + m)
end


mutual
theorem Rep.mono {J J' : Inj} (h : J.le J') : ∀ (v : AV) (x : Value), Rep J v x → Rep J' v x
  | .bool _, _, r => by simpa [Rep] using r
  | .int _ _, _, r => by simpa [Rep] using r
  | .str _, _, r => by simpa [Rep] using r
  | .nilFunc, _, r => by simpa [Rep] using r
  | .nilIface, _, r => by simpa [Rep] using r
  | .nilPtr, _, r => by simpa [Rep] using r
  | .nilMap, _, r => by simpa [Rep] using r
  | .nilSl, _, r => by simpa [Rep] using r
  | .agg cs, x, r => by
    simp only [Rep] at r ⊢; obtain ⟨arr, e, h1, h2⟩ := r; exact ⟨arr, e, Reps.mono h cs _ h1, h2⟩
  | .tup vs, x, r => by
    simp only [Rep] at r ⊢; obtain ⟨arr, e, h1⟩ := r; exact ⟨arr, e, Reps.mono h vs _ h1⟩
  | .func fn a b, x, r => by
    cases fn with
    | func f => simp only [Rep] at r ⊢; obtain ⟨a', b', e, h1, h2⟩ := r; exact ⟨a', b', e, Reps.mono h a _ h1, Reps.mono h b _ h2⟩
    | yield l => simp only [Rep] at r ⊢; obtain ⟨e1, e2, l', h1, e⟩ := r; exact ⟨e1, e2, l', h.ρ _ _ h1, e⟩
    | method n => simp only [Rep] at r
    | methodOf t n => simp only [Rep] at r
    | via t p f q => simp only [Rep] at r
  | .iface t v, x, r => by
    simp only [Rep] at r ⊢; obtain ⟨y, e, h1⟩ := r; exact ⟨y, e, Rep.mono h v _ h1⟩
  | .lst m es ap, x, r => by
    simp only [Rep] at r ⊢
    obtain ⟨h1, h2⟩ := r
    refine ⟨fun id e => h.τ _ _ _ (h1 id e), ?_⟩
    rcases h2 with h2 | ⟨a, cap, e, h3, h4, h5, h6⟩
    · exact .inl h2
    · exact .inr ⟨a, cap, e, h3, h4, h5, Elems.mono h m es _ _ h6⟩
  | .sl r _ off len cap, x, q => by
    simp only [Rep] at q ⊢; obtain ⟨b, c, h1, h2⟩ := q; exact ⟨b, c, h.ρ _ _ h1, h2⟩
  | .ptr r off, x, q => by
    simp only [Rep] at q ⊢; obtain ⟨b, h1, h2⟩ := q; exact ⟨b, h.ρ _ _ h1, h2⟩
  | .map r, x, q => by
    simp only [Rep] at q ⊢; obtain ⟨b, h1, h2⟩ := q; exact ⟨b, h.ρ _ _ h1, h2⟩
  | .iptr v, x, r => by
    simp only [Rep] at r ⊢; obtain ⟨a, y, e, h1, h2, h3, h4⟩ := r
    exact ⟨a, y, e, h1, Rep.mono h v _ h2, h3, fun i v hv => h.im _ _ _ (h4 i v hv)⟩
theorem Reps.mono {J J' : Inj} (h : J.le J') : ∀ (vs : List AV) (xs : List Value), Reps J vs xs → Reps J' vs xs
  | [], _, r => by simpa [Reps] using r
  | v :: vs, xs, r => by
    simp only [Reps] at r ⊢; obtain ⟨y, ys, e, h1, h2⟩ := r; exact ⟨y, ys, e, Rep.mono h v _ h1, Reps.mono h vs _ h2⟩
theorem Elems.mono {J J' : Inj} (h : J.le J') (m : Nat) : ∀ (es : List AV) (b o : Nat), Elems J m es b o → Elems J' m es b o
  | [], _, _, _ => by simp [Elems]
  | e :: es, b, o, r => by
    simp only [Elems] at r ⊢
    obtain ⟨⟨y, h1, h2, h3, h4⟩, h5⟩ := r
    exact ⟨⟨y, Rep.mono h e _ h1, h2, h3, fun i v hv => h.im _ _ _ (h4 i v hv)⟩, Elems.mono h m es _ _ h5⟩
end

section
variable {J : Inj}

theorem Reps.length : ∀ {vs : List AV} {xs : List Value}, Reps J vs xs → vs.length = xs.length
  | [], _, h => by simp only [Reps] at h; simp [h]
  | v :: vs, xs, h => by simp only [Reps] at h; obtain ⟨y, ys, rfl, _, h2⟩ := h; simp [Reps.length h2]

theorem Reps.get : ∀ {vs : List AV} {xs : List Value}, Reps J vs xs → ∀ (i : Nat) v, vs[i]? = some v → ∃ x, xs[i]? = some x ∧ Rep J v x
  | [], _, _, i, v, e => by simp at e
  | u :: vs, xs, h, i, v, e => by
    simp only [Reps] at h; obtain ⟨y, ys, rfl, h1, h2⟩ := h
    cases i with
    | zero => simp at e; subst e; exact ⟨y, by simp, h1⟩
    | succ i => simp at e; obtain ⟨x, hx, hr⟩ := Reps.get h2 i v e; exact ⟨x, by simpa using hx, hr⟩

theorem Reps.append : ∀ {vs us : List AV} {xs ys : List Value}, Reps J vs xs → Reps J us ys → Reps J (vs ++ us) (xs ++ ys)
  | [], _, _, _, h, h' => by simp only [Reps] at h; subst h; simpa using h'
  | v :: vs, us, xs, ys, h, h' => by
    simp only [Reps] at h; obtain ⟨y, zs, rfl, h1, h2⟩ := h
    simp only [List.cons_append, Reps]; exact ⟨y, zs ++ ys, rfl, h1, Reps.append h2 h'⟩

theorem Reps.take : ∀ {vs : List AV} {xs : List Value} (n : Nat), Reps J vs xs → Reps J (vs.take n) (xs.take n)
  | [], _, n, h => by simp only [Reps] at h; subst h; simp [Reps]
  | v :: vs, xs, n, h => by
    simp only [Reps] at h; obtain ⟨y, zs, rfl, h1, h2⟩ := h
    cases n with
    | zero => simp [Reps]
    | succ n => simp only [List.take_succ_cons, Reps]; exact ⟨y, _, rfl, h1, Reps.take n h2⟩

theorem Reps.drop : ∀ {vs : List AV} {xs : List Value} (n : Nat), Reps J vs xs → Reps J (vs.drop n) (xs.drop n)
  | [], _, n, h => by simp only [Reps] at h; subst h; simp [Reps]
  | v :: vs, xs, n, h => by
    cases n with
    | zero => simpa using h
    | succ n => simp only [Reps] at h; obtain ⟨y, zs, rfl, h1, h2⟩ := h; simpa using Reps.drop n h2

theorem Reps.set : ∀ {vs : List AV} {xs : List Value} (n : Nat) {v : AV} {x : Value}, Reps J vs xs → Rep J v x → Reps J (vs.set n v) (xs.set n x)
  | [], _, n, _, _, h, _ => by simp only [Reps] at h; subst h; simp [Reps]
  | u :: vs, xs, n, v, x, h, hr => by
    simp only [Reps] at h; obtain ⟨y, zs, rfl, h1, h2⟩ := h
    cases n with
    | zero => simp only [List.set_cons_zero, Reps]; exact ⟨x, zs, rfl, hr, h2⟩
    | succ n => simp only [List.set_cons_succ, Reps]; exact ⟨y, _, rfl, h1, Reps.set n h2 hr⟩

theorem Reps.of_get : ∀ {vs : List AV} {xs : List Value}, vs.length = xs.length → (∀ (i : Nat) v, vs[i]? = some v → ∃ x, xs[i]? = some x ∧ Rep J v x) → Reps J vs xs
  | [], xs, hl, _ => by simp only [Reps]; cases xs with | nil => rfl | cons a b => simp at hl
  | v :: vs, [], hl, _ => by simp at hl
  | v :: vs, x :: xs, hl, h => by
    simp only [Reps]
    obtain ⟨y, hy, hr⟩ := h 0 v (by simp)
    simp at hy; subst hy
    exact ⟨x, xs, rfl, hr, Reps.of_get (by simpa using hl) (fun i u e => by simpa using h (i + 1) u (by simpa using e))⟩

theorem Rep.undef : Rep J .undef Go.undef := by simp [Rep, AV.undef, Go.undef, Reps]

theorem Rep.cells {v : AV} {x : Value} (h : Rep J v x) : Reps J v.cells x.cells.toList := by
  cases v with
  | agg cs => simp only [Rep] at h; obtain ⟨arr, rfl, h1, _⟩ := h; exact h1
  | bool b => simp only [Rep] at h; subst h; simp [AV.cells, Value.cells, Reps, Rep]
  | int k n => simp only [Rep] at h; subst h; simp [AV.cells, Value.cells, Reps, Rep]
  | str s => have h' := h; simp only [Rep] at h; obtain ⟨ba, rfl, _⟩ := h; simpa [AV.cells, Value.cells, Reps] using h'
  | tup vs => have h' := h; simp only [Rep] at h; obtain ⟨ba, rfl, _⟩ := h; simpa [AV.cells, Value.cells, Reps] using h'
  | func fn a b =>
    have h' := h
    cases fn <;> simp only [Rep] at h
    · obtain ⟨a', b', rfl, _⟩ := h; simpa [AV.cells, Value.cells, Reps] using h'
    · obtain ⟨_, _, l, _, rfl⟩ := h; simpa [AV.cells, Value.cells, Reps] using h'
  | nilFunc => simp only [Rep] at h; subst h; simp [AV.cells, Value.cells, Reps, Rep]
  | iface t v => have h' := h; simp only [Rep] at h; obtain ⟨y, rfl, _⟩ := h; simpa [AV.cells, Value.cells, Reps] using h'
  | nilIface => simp only [Rep] at h; subst h; simp [AV.cells, Value.cells, Reps, Rep]
  | lst m es ap =>
    have h' := h; simp only [Rep] at h
    obtain ⟨_, ⟨rfl, _⟩ | ⟨a, cap, rfl, _⟩⟩ := h <;> simpa [AV.cells, Value.cells, Reps] using h'
  | sl r m off len cap => have h' := h; simp only [Rep] at h; obtain ⟨b, c, _, rfl, _⟩ := h; simpa [AV.cells, Value.cells, Reps] using h'
  | ptr r off => have h' := h; simp only [Rep] at h; obtain ⟨b, _, rfl⟩ := h; simpa [AV.cells, Value.cells, Reps] using h'
  | iptr v => have h' := h; simp only [Rep] at h; obtain ⟨a, y, rfl, _⟩ := h; simpa [AV.cells, Value.cells, Reps] using h'
  | nilPtr => simp only [Rep] at h; subst h; simp [AV.cells, Value.cells, Reps, Rep]
  | map r => have h' := h; simp only [Rep] at h; obtain ⟨b, _, rfl⟩ := h; simpa [AV.cells, Value.cells, Reps] using h'
  | nilMap => simp only [Rep] at h; subst h; simp [AV.cells, Value.cells, Reps, Rep]
  | nilSl => simp only [Rep] at h; subst h; simp [AV.cells, Value.cells, Reps, Rep]

theorem Rep.oneCell {v : AV} {x : Value} (h : Rep J v x) (hc : v.isCell = true) : x.oneCell' = true ∧ x.cells = #[x] := by
  cases v with
  | agg cs => simp [AV.isCell] at hc
  | tup vs => simp [AV.isCell] at hc
  | bool b => simp only [Rep] at h; subst h; simp [Value.oneCell', Value.cells]
  | int k n => simp only [Rep] at h; subst h; simp [Value.oneCell', Value.cells]
  | str s => simp only [Rep] at h; obtain ⟨ba, rfl, _⟩ := h; simp [Value.oneCell', Value.cells]
  | func fn a b =>
    cases fn <;> simp only [Rep] at h
    · obtain ⟨a', b', rfl, _⟩ := h; simp [Value.oneCell', Value.cells]
    · obtain ⟨_, _, l, _, rfl⟩ := h; simp [Value.oneCell', Value.cells]
  | nilFunc => simp only [Rep] at h; subst h; simp [Value.oneCell', Value.cells]
  | iface t v => simp only [Rep] at h; obtain ⟨y, rfl, _⟩ := h; simp [Value.oneCell', Value.cells]
  | nilIface => simp only [Rep] at h; subst h; simp [Value.oneCell', Value.cells]
  | lst m es ap => simp only [Rep] at h; obtain ⟨_, ⟨rfl, _⟩ | ⟨a, cap, rfl, _⟩⟩ := h <;> simp [Value.oneCell', Value.cells]
  | sl r m off len cap => simp only [Rep] at h; obtain ⟨b, c, _, rfl, _⟩ := h; simp [Value.oneCell', Value.cells]
  | ptr r off => simp only [Rep] at h; obtain ⟨b, _, rfl⟩ := h; simp [Value.oneCell', Value.cells]
  | iptr v => simp only [Rep] at h; obtain ⟨a, y, rfl, _⟩ := h; simp [Value.oneCell', Value.cells]
  | nilPtr => simp only [Rep] at h; subst h; simp [Value.oneCell', Value.cells]
  | map r => simp only [Rep] at h; obtain ⟨b, _, rfl⟩ := h; simp [Value.oneCell', Value.cells]
  | nilMap => simp only [Rep] at h; subst h; simp [Value.oneCell', Value.cells]
  | nilSl => simp only [Rep] at h; subst h; simp [Value.oneCell', Value.cells]

theorem Reps.getD {vs : List AV} {xs : Array Value} (h : Reps J vs xs.toList) (i : Nat) : Rep J (vs.getD i .undef) (xs.getD i Go.undef) := by
  rw [List.getD_eq_getElem?_getD, Array.getD_eq_getD_getElem?]
  cases hv : vs[i]? with
  | none =>
    have : xs[i]? = none := by
      rw [List.getElem?_eq_none_iff] at hv; rw [Array.getElem?_eq_none_iff]
      have := h.length; simp at this; omega
    rw [this]; exact Rep.undef
  | some v =>
    obtain ⟨x, hx, hr⟩ := h.get i v hv
    have hx' : xs[i]? = some x := by simpa using hx
    rw [hx']; exact hr
end

end Go.Proofs.YtfkmdajlpnkebaaDoor.Ai
