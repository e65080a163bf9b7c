/- Operations: what each does to a world is what the abstract one tells (fifth part: maps, what is laid out, what grows). No condition. -/
import Derived.Test.YtfkmdajlpnkebaaDoorAi9
namespace Go.Proofs.YtfkmdajlpnkebaaDoor.Ai
open Go

/-! ### Elements in rows -/

/-- Elements, one behind the other, as cells. -/
def Chunks (J : Inj) (m : Nat) : List AV → List Value → Prop
  | [], xs => xs = []
  | e :: es, xs => ∃ y ys, xs = y.cells.toList ++ ys ∧ Rep J e y ∧ e.isVar = true ∧ y.cells.size = m ∧ Chunks J m es ys

section
variable {J : Inj} {m : Nat}

theorem Chunks.mono {J' : Inj} (h : J.le J') : ∀ {es : List AV} {xs : List Value}, Chunks J m es xs → Chunks J' m es xs
  | [], _, e => e
  | _ :: _, _, ⟨y, ys, e, h1, h2, h3, h4⟩ => ⟨y, ys, e, Rep.mono h _ _ h1, h2, h3, Chunks.mono h h4⟩

theorem Chunks.length : ∀ {es : List AV} {xs : List Value}, Chunks J m es xs → xs.length = es.length * m
  | [], _, e => by simp only [Chunks] at e; simp [e]
  | _ :: es, _, ⟨y, ys, e, _, _, h3, h4⟩ => by
    subst e
    have := Chunks.length h4
    simp [this, h3, Nat.add_mul]; omega

theorem Chunks.append : ∀ {es es' : List AV} {xs xs' : List Value}, Chunks J m es xs → Chunks J m es' xs' → Chunks J m (es ++ es') (xs ++ xs')
  | [], _, _, _, h, h' => by simp only [Chunks] at h; subst h; simpa using h'
  | _ :: es, _, _, _, ⟨y, ys, e, h1, h2, h3, h4⟩, h' => by
    subst e
    exact ⟨y, ys ++ _, by simp, h1, h2, h3, h4.append h'⟩

theorem Chunks.take : ∀ {es : List AV} {xs : List Value} (n : Nat), Chunks J m es xs → Chunks J m (es.take n) (xs.take (n * m))
  | [], _, n, h => by simp only [Chunks] at h; subst h; simp [Chunks]
  | _ :: es, _, 0, _ => by simp [Chunks]
  | _ :: es, _, n + 1, ⟨y, ys, e, h1, h2, h3, h4⟩ => by
    subst e
    refine ⟨y, ys.take (n * m), ?_, h1, h2, h3, h4.take n⟩
    rw [show (n + 1) * m = y.cells.toList.length + n * m by simp [h3, Nat.add_mul]; omega, List.take_length_add_append]

theorem Chunks.reps : ∀ {es : List AV} {xs : List Value}, Chunks J m es xs → Reps J (flat es) xs
  | [], _, h => by simp only [Chunks] at h; subst h; simp [flat, Reps]
  | _ :: es, _, ⟨y, ys, e, h1, h2, h3, h4⟩ => by
    subst e
    simp only [flat]
    exact h1.cells.append h4.reps

theorem Chunks.isCell : ∀ {es : List AV} {xs : List Value}, Chunks J m es xs → (flat es).all AV.isCell = true
  | [], _, _ => rfl
  | e :: es, _, ⟨y, ys, _, h1, h2, h3, h4⟩ => by
    simp only [flat, List.all_append, Bool.and_eq_true]
    refine ⟨?_, h4.isCell⟩
    cases e <;> simp [AV.isVar] at h2 <;> simp [AV.cells, AV.isCell]
    simp only [Rep] at h1; obtain ⟨_, _, _, hc⟩ := h1
    simpa [AV.isCell] using hc

theorem Elems.of_chunks : ∀ {es : List AV} {xs : List Value} {b o : Nat}, Chunks J m es xs → Row J b o xs → Elems J m es b o
  | [], _, _, _, _, _ => by simp [Elems]
  | _ :: es, _, b, o, ⟨y, ys, e, h1, h2, h3, h4⟩, hr => by
    subst e
    simp only [Elems]
    refine ⟨⟨y, h1, h2, h3, fun i v hv => ?_⟩, Elems.of_chunks h4 (fun i v hv => ?_)⟩
    · refine hr i v ?_
      rw [List.getElem?_append_left (List.getElem?_eq_some_iff.1 hv).1]; exact hv
    · have := hr (m + i) v (by rw [List.getElem?_append_right (by simp [h3])]; simpa [h3] using hv)
      rw [Nat.add_assoc]; exact this

theorem Elems.chunks : ∀ {es : List AV} {b o : Nat}, Elems J m es b o → ∃ xs, Chunks J m es xs ∧ Row J b o xs
  | [], b, o, _ => ⟨[], rfl, fun i v hv => by simp at hv⟩
  | e :: es, b, o, h => by
    simp only [Elems] at h
    obtain ⟨⟨y, h1, h2, h3, h4⟩, h5⟩ := h
    obtain ⟨xs, hx, hr⟩ := h5.chunks
    refine ⟨y.cells.toList ++ xs, ⟨y, xs, rfl, h1, h2, h3, hx⟩, fun i v hv => ?_⟩
    by_cases hi : i < y.cells.toList.length
    · rw [List.getElem?_append_left hi] at hv; exact h4 i v hv
    · rw [List.getElem?_append_right (by omega)] at hv
      have := hr _ v hv
      simp only [Array.length_toList, h3] at hi this
      rw [show o + i = o + m + (i - m) by omega]; exact this

theorem Chunks.of_group {agg : Bool} (hagg : agg = false → m = 1) : ∀ (n : Nat) {cs : List AV} {xs : List Value}, Reps J cs xs → cs.all AV.isCell = true → n * m ≤ cs.length →
    Chunks J m (group m agg n cs) (xs.take (n * m))
  | 0, _, _, _, _, _ => by simp [group, Chunks]
  | n + 1, cs, xs, hr, hc, hl => by
    have hlen := hr.length
    have hmul : (n + 1) * m = m + n * m := by rw [Nat.add_mul, Nat.one_mul]; omega
    have hrest := Chunks.of_group hagg n (hr.drop m) (cs := cs.drop m) (by rw [List.all_eq_true] at hc ⊢; exact fun z hz => hc z (List.mem_of_mem_drop hz)) (by simp; omega)
    simp only [group, Chunks]
    cases agg with
    | true =>
      refine ⟨.agg (xs.take m).toArray, _, ?_, ?_, rfl, by simp [Value.cells]; omega, hrest⟩
      · rw [hmul, List.take_add]; simp [Value.cells]
      · simp only [if_true, Rep]
        exact ⟨_, rfl, by simpa using hr.take m, by rw [List.all_eq_true] at hc ⊢; exact fun z hz => hc z (List.mem_of_mem_take hz)⟩
    | false =>
      have h1 := hagg rfl
      subst h1
      cases cs with
      | nil => simp at hl
      | cons u cs =>
        simp only [Reps] at hr
        obtain ⟨y, ys, rfl, hry, _⟩ := hr
        simp only [List.all_cons, Bool.and_eq_true] at hc
        have := hry.oneCell hc.1
        refine ⟨y, _, ?_, by simpa using hry, by cases u <;> simp_all [AV.isCell, AV.isVar], by simp [this.2], hrest⟩
        rw [this.2, hmul, List.take_add]; simp

theorem Chunks.bytes (s : List UInt8) : Chunks J 1 (s.map byteV) (s.map fun b => Value.int .u8 b.toNat) := by
  induction s with
  | nil => simp [Chunks]
  | cons b s ih => exact ⟨.int .u8 b.toNat, _, rfl, by simp [Rep, byteV], rfl, rfl, ih⟩
end

section
variable {P : Program} {gl : List (Nat × AV)} {K : Sites} {base : World} {J : Inj} {st st' : St} {w : World} {a : Act} {e : Env} {o : Oper} {v : AV}

theorem run_cellsOf {b off : Nat} {xs : List Value} (h : ∀ (j : Nat) v, xs[j]? = some v → w.cell? ⟨b, off + j, none⟩ = some v) (n : Nat) (hn : n ≤ xs.length) :
    (loadCells ⟨b, off, none⟩ n).run P w = .ok (xs.take n).toArray w := by
  have := run_loadCells P w ⟨b, off, none⟩ (xs.take n) (fun j v e => by
    rw [add_none rfl]
    rw [List.getElem?_take] at e; split at e
    · exact h j v e
    · cases e)
  rwa [List.length_take, Nat.min_eq_left hn] at this

/-- What is appended, or copied: its length, and its first cells. -/
theorem r_elems {m : Nat} {u : AV} {x : Value} {ys : List AV} (hm : 1 ≤ m) (hS : Sim K base J st w) (hr : Rep J u x) (h : elemsOf st m u = some ys) :
    ∃ xs, Chunks J m ys xs ∧ ∀ w', w'.heap = w.heap → (Builtin.lenOf x).run P w' = .ok ys.length w' ∧ ∀ n, n ≤ ys.length → (Builtin.firstCells m n x).run P w' = .ok (xs.take (n * m)).toArray w' := by
  cases u <;> simp only [elemsOf] at h <;> try (cases h; done)
  · rename_i s
    split at h
    · rename_i h1; subst h1
      cases h
      simp only [Rep] at hr
      obtain ⟨ba, rfl, rfl⟩ := hr
      refine ⟨_, Chunks.bytes _, fun w' _ => ⟨by simp [Builtin.lenOf], fun n hn => ?_⟩⟩
      simp only [Builtin.firstCells]
      simp only [Sem.run_pure]
      congr 1
      apply Array.toList_inj.1
      simp [ByteArray.data_extract]
    · cases h
  · rename_i m' es ap
    split at h
    · rename_i hmm
      cases h
      simp only [Rep] at hr
      obtain ⟨_, ⟨rfl, rfl⟩ | ⟨ad, cap, rfl, hsp, hcap, _, hel⟩⟩ := hr
      · exact ⟨[], rfl, fun w' _ => ⟨by simp [Builtin.lenOf], fun n hn => by simp [Builtin.firstCells]⟩⟩
      · rcases hmm with rfl | rfl
        · obtain ⟨xs, hc, hrow⟩ := hel.chunks
          have hl := hc.length
          refine ⟨xs, hc, fun w' hw => ⟨by simp [Builtin.lenOf], fun n hn => ?_⟩⟩
          simp only [Builtin.firstCells]
          rcases Nat.eq_zero_or_pos cap with h0 | h0
          · have : n = 0 := by omega
            subst this
            simp [loadCells, loadCellsFrom]
          have hsp := hsp h0
          have had : ad = ⟨ad.block, ad.off, none⟩ := by cases ad; simp at hsp ⊢; exact hsp
          rw [had]
          exact run_cellsOf (fun j v e => by rw [cell_congr (w := w) (by rw [hw])]; exact hS.imOk _ _ _ (hrow j v e)) _ (by rw [hl]; exact Nat.mul_le_mul_right _ hn)
        · refine ⟨[], rfl, fun w' _ => ⟨by simp [Builtin.lenOf], fun n hn => ?_⟩⟩
          have : n = 0 := by simpa using hn
          subst this
          simp [Builtin.firstCells, loadCells, loadCellsFrom]
    · cases h
  · rename_i r m' off n cap
    cases hst : st[r]? with
    | none => simp [hst] at h
    | some ob =>
      cases ob <;> simp only [hst] at h <;> try (cases h; done)
      rename_i cs
      split at h
      · rename_i hh
        obtain ⟨rfl, hle⟩ := hh
        cases h
        simp only [Rep] at hr
        obtain ⟨b, c, hb, rfl, hnc, _⟩ := hr
        obtain ⟨b', cc, tt, h1, ⟨fr, h2, hfr⟩, h3, h4, h5, hty⟩ := hS.obj r _ hst
        rw [hb] at h1; cases h1
        have hlen : (group m' (m' != 1) n (cs.drop off)).length = n := by
          have : ∀ k (l : List AV), (group m' (m' != 1) k l).length = k := by
            intro k; induction k with
            | zero => intro l; rfl
            | succ k ih => intro l; simp [group, ih]
          exact this _ _
        have hagg : (m' != 1) = false → m' = 1 := by simp
        have hck := Chunks.of_group hagg n (h4.drop off) (by rw [List.all_eq_true] at h5 ⊢; exact fun z hz => h5 z (List.mem_of_mem_drop hz)) (by simp; omega)
        refine ⟨_, hck, fun w' hw => ⟨by simp [Builtin.lenOf, hlen], fun k hk => ?_⟩⟩
        rw [hlen] at hk
        simp only [Builtin.firstCells]
        have hkm : k * m' ≤ n * m' := Nat.mul_le_mul_right _ hk
        refine run_cellsOf (fun j v e => ?_) _ (by simp; omega)
        rw [cell_congr (w := w) (by rw [hw]), cell_of_heap h2]
        rw [List.getElem?_take] at e
        split at e
        · rw [List.getElem?_drop, List.getElem?_take] at e
          split at e
          · simpa using e
          · cases e
        · cases e
      · cases h

theorem putV_get : ∀ (xs : List Value) (c : Array Value) (o k : Nat), o + xs.length ≤ c.size → (putV c o xs)[k]? = if o ≤ k ∧ k < o + xs.length then xs[k - o]? else c[k]?
  | [], c, o, k, h => by simp only [putV]; rw [if_neg (by simp only [List.length_nil]; omega)]
  | x :: xs, c, o, k, h => by
    simp only [List.length_cons] at h
    rw [putV, putV_get xs _ (o + 1) k (by simp; omega)]
    by_cases h1 : o + 1 ≤ k ∧ k < o + 1 + xs.length
    · rw [if_pos h1, if_pos (by simp; omega), show k - o = (k - (o + 1)) + 1 by omega]; simp
    · rw [if_neg h1]
      by_cases h2 : k = o
      · subst h2
        rw [if_pos (by simp only [List.length_cons]; omega), Array.getElem?_setIfInBounds_self_of_lt (by omega)]
        simp
      · rw [if_neg (by simp; omega), Array.getElem?_setIfInBounds_ne (by omega)]

/-- The bytes that an append asks for are in reach. -/
theorem cap_bound {need cap by_ : Nat} (h : cap < need) (hg : need ≤ great) (hb : by_ ≤ 256) : ¬ (Builtin.nextslicecap need cap * by_ > 2 ^ 48) := by
  have grow : ∀ r c, c < need → Builtin.growBy need r c ≤ 2 * need + 192 := by
    intro r
    induction r with
    | zero => intro c hc; simp [Builtin.growBy]; omega
    | succ r ih =>
      intro c hc
      simp only [Builtin.growBy]
      split
      · omega
      · by_cases hcc : c + (c + 768) / 4 < need
        · exact ih _ hcc
        · have : ∀ r, Builtin.growBy need r (c + (c + 768) / 4) = c + (c + 768) / 4 := by
            intro r; cases r with
            | zero => rfl
            | succ r => simp only [Builtin.growBy]; rw [if_pos (by omega)]
          rw [this]; omega
  have : Builtin.nextslicecap need cap ≤ 2 * need + 512 := by
    unfold Builtin.nextslicecap
    split
    · omega
    · split
      · omega
      · have := grow 4 cap h; omega
  have h2 : Builtin.nextslicecap need cap * by_ ≤ (2 * need + 512) * 256 := Nat.mul_le_mul this hb
  unfold great at hg
  omega

variable (hS : Sim K base J st w) (hE : Reps J e a.tmps.toList) (hG : GlOk gl J)
include hS hE hG

omit hE hG in
/-- An append that makes a new row. -/
theorem r_appendNew {id m need : Nat} {ty : Option TypeId} {ys : List AV} {xs : List Value} {cap' : Nat} {t : TypeId} {rest : List Value} {w1 : World} {ob : AObj} (hst : st[id]? = some ob)
    (hty : ∀ T, ty = some T → t = T) (hob : (ob = .dead ∧ ∀ k v, J.τ id k ≠ some v) ∨ (∃ m' n0 ty0, ob = .tok m' n0 ty0 ∧ n0 < need))
    (hw1 : w1.heap = w.heap) (ho1 : w1.os = w.os) (hp1 : w1.output = w.output) (hck : Chunks J m ys xs) (hneed : ys.length = need) (hn0 : 0 < cap') (hcap : need ≤ cap')
    (hrest : rest.length = (cap' - need) * m) :
    let c := (xs ++ rest).toArray
    let J' := J.grow id need (.slice (some ⟨w.heap.size, 0, none⟩) need cap') w.heap.size 0 (0 + need * m) c
    J.le J' ∧ Sim K base J' (st.set id (.tok m need ty)) { w1 with heap := w1.heap.push (.cells c t (0, 0)) } ∧ Rep J' (.lst m ys (.tok id)) (.slice (some ⟨w.heap.size, 0, none⟩) need cap') := by
  intro c J'
  have hl := hck.length
  have hs : (w1.heap.push (.cells c t (0, 0))).size = w.heap.size + 1 := by rw [Array.size_push, hw1]
  have hτ : ∀ k v, J.τ id k = some v → k < need ∨ (k = need ∧ v = .slice (some ⟨w.heap.size, 0, none⟩) need cap') := by
    intro k v e
    rcases hob with ⟨_, hn⟩ | ⟨m', n0, ty0, rfl, hlt⟩
    · exact absurd e (hn k v)
    · have := (hS.τlt id k v e).2 m' n0 ty0 hst
      exact .inl (by omega)
  obtain ⟨hle, hsim⟩ := hS.tokSet (id := id) (n := need) (m := m) (ty := ty) hst (by
      rcases hob with h | ⟨m', n0, ty0, h, _⟩
      · exact .inl h
      · exact .inr ⟨m', n0, ty0, h⟩)
    (w' := { w1 with heap := w1.heap.push (.cells c t (0, 0)) }) (a := ⟨w.heap.size, 0, none⟩) (cap := cap') (c := c) (t := t)
    ho1 hp1 (by show _ ≤ (w1.heap.push _).size; rw [hs]; omega)
    (fun b' hb' hne => by show (w1.heap.push _)[b']? = _; rw [push_old _ (by rw [hw1]; exact hb'), hw1])
    (by show (w1.heap.push _)[w.heap.size]? = _; rw [← hw1]; simp)
    hS.size (fun r' o' e1 e2 => absurd (hS.own r' o' _ e1 e2).2.1 (Nat.lt_irrefl _))
    (fun k v e => by rw [hS.imnew (Nat.le_refl _)] at e; cases e) rfl hcap hn0
    (by simp only [Nat.zero_add]; show cap' * m ≤ (xs ++ rest).toArray.size
        simp only [List.size_toArray, List.length_append, hl, hrest, hneed]
        rw [← Nat.add_mul]; exact Nat.le_of_eq (by congr 1; omega))
    (fun k v _ e => by rw [hS.imnew (Nat.le_refl _)] at e; cases e) hτ (fun T h => ⟨hty T h, rfl⟩)
  refine ⟨hle, hsim, ?_⟩
  simp only [Rep]
  refine ⟨fun id' e => ?_, .inr ⟨_, cap', by rw [hneed], fun _ => rfl, by omega, fun e => (by cases e), ?_⟩⟩
  · cases e; simp [J', Inj.grow, hneed]
  · refine Elems.of_chunks (hck.mono hle) (fun i v hv => ?_)
    have hi := (List.getElem?_eq_some_iff.1 hv).1
    rw [hl, hneed] at hi
    show (if w.heap.size = w.heap.size ∧ 0 ≤ 0 + i ∧ 0 + i < 0 + need * m then c[0 + i]? else _) = some v
    rw [if_pos (by omega)]
    show (xs ++ rest).toArray[0 + i]? = some v
    simp only [Nat.zero_add, List.getElem?_toArray]
    rw [List.getElem?_append_left (by rw [hl, hneed]; exact hi)]; exact hv

omit hE hG in
/-- An append into the room that a slice has. -/
theorem r_appendIn {id m n cap : Nat} {ty0 ty : Option TypeId} {ad : Addr} {es ys : List AV} {xs : List Value} {c : Array Value} {t : TypeId} (hst : st[id]? = some (.tok m n ty0)) (hty : ∀ T, ty = some T → t = T ∧ ad.off = 0)
    (hτ : J.τ id n = some (.slice (some ad) n cap)) (hsp : ad.spot = none) (hc0 : 0 < cap) (hh : w.heap[ad.block]? = some (.cells c t (0, 0))) (hsz : ad.off + cap * m ≤ c.size)
    (hbey : ∀ k v, ad.off + n * m ≤ k → J.im ad.block k ≠ some v) (hes : es.length = n) (hel : Elems J m es ad.block ad.off) (hck : Chunks J m ys xs) (hcap : n + ys.length ≤ cap) :
    ∃ J' w', J.le J' ∧ Sim K base J' (st.set id (.tok m (n + ys.length) ty)) w' ∧ Rep J' (.lst m (es ++ ys) (.tok id)) (.slice (some ad) (n + ys.length) cap) ∧
      (storeCells (ad.add (n * m)) xs).run P w = .ok () w' := by
  have hl := hck.length
  have hmul : (n + ys.length) * m = n * m + ys.length * m := Nat.add_mul _ _ _
  have hcm : (n + ys.length) * m ≤ cap * m := Nat.mul_le_mul_right _ hcap
  obtain ⟨w', g1, g2, g3, g4, g5, g6⟩ := run_storeCells P ⟨ad.block, ad.off + n * m, none⟩ rfl t (0, 0) xs w 0 c hh (Clear.zero _) (by simp only [Nat.add_zero]; omega) (hck.reps.oneCells hck.isCell)
  have hown : ownB J id (.tok m n ty0) = some ad.block := by simp [ownB, hτ]; omega
  obtain ⟨o1, o2, o3⟩ := hS.own id _ _ hst hown
  simp only [Nat.add_zero] at g6
  have hget := fun k => putV_get xs c (ad.off + n * m) k (by omega)
  obtain ⟨hle, hsim⟩ := hS.tokSet (id := id) (n := n + ys.length) (m := m) (ty := ty) hst (.inr ⟨m, n, ty0, rfl⟩) (w' := w') (a := ad) (cap := cap) (t := t) g2 g3 (by omega)
    (fun b' _ hne => g5 b' hne) g6 o1 o3
    (fun k v e => by
      rw [hget]
      have hk : k < ad.off + n * m := Nat.lt_of_not_le (fun hk => hbey k v hk e)
      rw [if_neg (by omega)]
      have := hS.imOk _ _ _ e
      rwa [cell_of_heap hh] at this)
    hsp hcap hc0 (by rw [putV_size]; exact hsz) (fun k v hk => hbey k v (by omega))
    (fun k v e => by
      have := (hS.τlt id k v e).2 m n ty0 hst
      by_cases hk : k = n + ys.length
      · have hn : ys.length = 0 := by omega
        have : k = n := by omega
        subst this
        rw [hτ] at e; cases e
        refine .inr ⟨hk, by rw [hn]; rfl⟩
      · exact .inl (by omega)) hty
  refine ⟨_, w', hle, hsim, ?_, by rw [add_none hsp]; exact g1⟩
  simp only [Rep]
  have hlen : (es ++ ys).length = n + ys.length := by simp [hes]
  refine ⟨fun id' e => ?_, .inr ⟨ad, cap, by rw [hlen], fun _ => hsp, by omega, fun e => (by cases e), ?_⟩⟩
  · cases e; simp [Inj.grow, hes]
  · refine (Elems.mono hle _ _ _ _ hel).append (Elems.of_chunks (hck.mono hle) (fun i v hv => ?_))
    have hi := (List.getElem?_eq_some_iff.1 hv).1
    rw [hl] at hi
    rw [hes]
    simp only [Inj.grow]
    rw [if_pos ⟨trivial, by omega, by omega⟩, hget, if_pos (by omega)]
    rw [show ad.off + n * m + i - (ad.off + n * m) = i by omega]; exact hv

end
end Go.Proofs.YtfkmdajlpnkebaaDoor.Ai
