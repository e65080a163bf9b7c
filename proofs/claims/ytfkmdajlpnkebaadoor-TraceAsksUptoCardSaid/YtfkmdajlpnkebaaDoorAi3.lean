/- An abstract store beside a world: what holds of the two, and what keeps it. No condition. -/
import Derived.Test.YtfkmdajlpnkebaaDoorAi2
namespace Go.Proofs.YtfkmdajlpnkebaaDoor.Ai
open Go

def DefRep (J : Inj) : ADef → Deferred → Prop
  | .collected r, d => ∃ b, J.ρ r = some b ∧ d = { target := .collected b, args := #[] }
  | .call f args, d => ∃ cap, d.target = .fn (.func f) cap ∧ Reps J args (d.args ++ cap).toList

def DefReps (J : Inj) : List ADef → List Deferred → Prop
  | [], ds => ds = []
  | d :: ds, xs => ∃ y ys, xs = y :: ys ∧ DefRep J d y ∧ DefReps J ds ys

theorem DefRep.mono {J J' : Inj} (h : J.le J') : ∀ {d : ADef} {x : Deferred}, DefRep J d x → DefRep J' d x
  | .collected _, _, ⟨b, hb, e⟩ => ⟨b, h.ρ _ _ hb, e⟩
  | .call _ _, _, ⟨c, e, hr⟩ => ⟨c, e, Reps.mono h _ _ hr⟩

theorem DefReps.mono {J J' : Inj} (h : J.le J') : ∀ {d : List ADef} {x : List Deferred}, DefReps J d x → DefReps J' d x
  | [], _, e => e
  | _ :: _, _, ⟨y, ys, e, h1, h2⟩ => ⟨y, ys, e, h1.mono h, DefReps.mono h h2⟩

def pendCode : Option APend → Option Code
  | none => none
  | some .ret => some .ret
  | some (.exit id) => some (.exit id)

def RepsM (J : Inj) (es : List (AV × AV)) (ents : List MapEntry) : Prop :=
  es.length = ents.length ∧ ∀ (i : Nat) e, es[i]? = some e → ∃ x, ents[i]? = some x ∧ Rep J e.1 x.key ∧ Rep J e.2 x.val

theorem RepsM.mono {J J' : Inj} (h : J.le J') {es : List (AV × AV)} {xs : List MapEntry} (r : RepsM J es xs) : RepsM J' es xs :=
  ⟨r.1, fun i e he => let ⟨x, hx, h1, h2⟩ := r.2 i e he; ⟨x, hx, Rep.mono h _ _ h1, Rep.mono h _ _ h2⟩⟩

/-- Which code a site has. -/
abbrev Sites := FuncId → Nat → Code → Code → Prop

/-- A row's mark leaves its cells alone. -/
def Clear (fr : Nat × Nat) (n : Nat) : Prop := ∀ k, k < n → ¬ (fr.1 ≤ k ∧ k < fr.2)

theorem Clear.zero (n : Nat) : Clear (0, 0) n := fun k _ h => absurd h.2 (Nat.not_lt_zero k)

def ObjSim (K : Sites) (J : Inj) (w : World) (r : Nat) : AObj → Prop
  | .dead => True
  | .cells ty cs => ∃ b c t, J.ρ r = some b ∧ (∃ fr, w.heap[b]? = some (.cells c t fr) ∧ Clear fr c.size) ∧ cs.length ≤ c.size ∧ Reps J cs (c.toList.take cs.length) ∧ cs.all AV.isCell = true ∧ ∀ T, ty = some T → t = T ∧ c.size = cs.length
  | .tok m n ty => (n = 0 ∧ ∃ s, J.τ r 0 = some (.slice s 0 0)) ∨
      ∃ a cap c t, J.τ r n = some (.slice (some a) n cap) ∧ a.spot = none ∧ 0 < cap ∧ n ≤ cap ∧ w.heap[a.block]? = some (.cells c t (0, 0)) ∧ a.off + cap * m ≤ c.size ∧
        (∀ k v, a.off + n * m ≤ k → J.im a.block k ≠ some v) ∧ ∀ T, ty = some T → t = T ∧ a.off = 0
  | .map es => ∃ b ents clock, J.ρ r = some b ∧ w.heap[b]? = some (.map ents clock) ∧ RepsM J es ents.toList
  | .loop s pend f site ps env d => ∃ b l, J.ρ r = some b ∧ w.heap[b]? = some (.loop l) ∧ l.state = s ∧ l.pending = pendCode pend ∧ K f site l.assign l.body ∧
      l.params.toList = ps ∧ Reps J env l.tmps.toList ∧ J.ρ d = some l.defers
  | .defr calls => ∃ b ds, J.ρ r = some b ∧ w.heap[b]? = some (.deferred ds) ∧
      (match calls with | none => ds = none | some l => ∃ l', ds = some l' ∧ DefReps J l l')

/-- The block that an object has for itself. -/
def ownB (J : Inj) (r : Nat) : AObj → Option Nat
  | .dead => none
  | .tok _ n _ => match J.τ r n with
    | some (.slice (some a) _ cap) => if cap = 0 then none else some a.block
    | _ => none
  | _ => J.ρ r

def AObj.isTok : AObj → Bool
  | .tok _ _ _ => true
  | _ => false

structure Sim (K : Sites) (base : World) (J : Inj) (st : St) (w : World) : Prop where
  os : w.os = base.os
  output : w.output = base.output
  size : base.heap.size ≤ w.heap.size
  old : ∀ b : Nat, b < base.heap.size → w.heap[b]? = base.heap[b]?
  imOk : ∀ b o v, J.im b o = some v → w.cell? ⟨b, o, none⟩ = some v
  ρlt : ∀ r b, J.ρ r = some b → r < st.length ∧ b < w.heap.size
  τlt : ∀ i n v, J.τ i n = some v → i < st.length ∧ ∀ m l ty, st[i]? = some (.tok m l ty) → n ≤ l
  obj : ∀ (r : Nat) o, st[r]? = some o → ObjSim K J w r o
  own : ∀ (r : Nat) o b, st[r]? = some o → ownB J r o = some b → base.heap.size ≤ b ∧ b < w.heap.size ∧ ∀ (r' : Nat) o', st[r']? = some o' → ownB J r' o' = some b → r' = r
  noIm : ∀ (r : Nat) o b, st[r]? = some o → ownB J r o = some b → o.isTok = false → ∀ k v, J.im b k ≠ some v

theorem cell_of_heap {w : World} {b o : Nat} {c : Array Value} {t : TypeId} {fr : Nat × Nat} (h : w.heap[b]? = some (.cells c t fr)) : w.cell? ⟨b, o, none⟩ = c[o]? := by
  simp [World.cell?, h]

theorem lt_of_cell {w : World} {b o : Nat} {v : Value} (h : w.cell? ⟨b, o, none⟩ = some v) : b < w.heap.size := by
  unfold World.cell? at h
  split at h
  · rename_i e; simp only at e; exact (Array.getElem?_eq_some_iff.1 e).1
  · cases h

theorem cell_congr {w w' : World} {b o : Nat} (h : w'.heap[b]? = w.heap[b]?) : w'.cell? ⟨b, o, none⟩ = w.cell? ⟨b, o, none⟩ := by
  simp [World.cell?, h]

theorem heap_lt {w : World} {b : Nat} {o : Obj} (h : w.heap[b]? = some o) : b < w.heap.size := (Array.getElem?_eq_some_iff.1 h).1

theorem push_old {w : World} {b : Nat} (o : Obj) (h : b < w.heap.size) : (w.heap.push o)[b]? = w.heap[b]? := by
  rw [Array.getElem?_push_lt h, Array.getElem?_eq_getElem h]

theorem ownB_le {J J' : Inj} (h : J.le J') {r : Nat} {o : AObj} {b : Nat} (e : ownB J r o = some b) : ownB J' r o = some b := by
  cases o with
  | dead => cases e
  | tok m n ty =>
    simp only [ownB] at e ⊢
    split at e
    · rename_i a _ cap hv; rw [h.τ _ _ _ hv]; exact e
    · cases e
  | cells cs => exact h.ρ _ _ e
  | map es => exact h.ρ _ _ e
  | loop s p f site ps env d => exact h.ρ _ _ e
  | defr c => exact h.ρ _ _ e

/-- What an object is, in a world whose block for it is as it was. -/
theorem ObjSim.frame {K : Sites} {J J' : Inj} {w w' : World} {r : Nat} {o : AObj} (h : ObjSim K J w r o) (hJ : J.le J')
    (hw : ∀ b, ownB J r o = some b → w'.heap[b]? = w.heap[b]?)
    (him : ∀ b, ownB J r o = some b → o.isTok = true → ∀ k v, J'.im b k = some v → J.im b k = some v) : ObjSim K J' w' r o := by
  cases o with
  | dead => trivial
  | cells cs => obtain ⟨b, c, t, h1, ⟨fr, h2, hfr⟩, h3, h4, h5⟩ := h; exact ⟨b, c, t, hJ.ρ _ _ h1, ⟨fr, by rw [hw b h1]; exact h2, hfr⟩, h3, Reps.mono hJ _ _ h4, h5⟩
  | tok m n ty =>
    rcases h with ⟨h1, s, h2⟩ | ⟨a, cap, c, t, h1, h2, h0, h3, h4, h5, h6, h7⟩
    · exact .inl ⟨h1, s, hJ.τ _ _ _ h2⟩
    · have hb : ownB J r (.tok m n ty) = some a.block := by simp [ownB, h1]; omega
      exact .inr ⟨a, cap, c, t, hJ.τ _ _ _ h1, h2, h0, h3, by rw [hw _ hb]; exact h4, h5, fun k v hk e => h6 k v hk (him _ hb rfl k v e), h7⟩
  | map es => obtain ⟨b, c, t, h1, h2, h3⟩ := h; exact ⟨b, c, t, hJ.ρ _ _ h1, by rw [hw b h1]; exact h2, h3.mono hJ⟩
  | loop s p f site ps env d =>
    obtain ⟨b, l, h1, h2, h3, h4, h6, h7, h8, h9⟩ := h
    exact ⟨b, l, hJ.ρ _ _ h1, by rw [hw b h1]; exact h2, h3, h4, h6, h7, Reps.mono hJ _ _ h8, hJ.ρ _ _ h9⟩
  | defr cs =>
    obtain ⟨b, ds, h1, h2, h3⟩ := h
    refine ⟨b, ds, hJ.ρ _ _ h1, by rw [hw b h1]; exact h2, ?_⟩
    cases cs with
    | none => exact h3
    | some l => obtain ⟨l', e, hl⟩ := h3; exact ⟨l', e, hl.mono hJ⟩

/-- What the store says of an object tells its block. -/
theorem ObjSim.own {K : Sites} {J : Inj} {w : World} {r : Nat} {o : AObj} (h : ObjSim K J w r o) (ho : o.isTok = false) (hd : o ≠ .dead) : ∃ b, J.ρ r = some b ∧ ownB J r o = some b := by
  cases o with
  | dead => exact absurd rfl hd
  | tok m n ty => simp [AObj.isTok] at ho
  | cells cs => obtain ⟨b, c, t, h1, _⟩ := h; exact ⟨b, h1, h1⟩
  | map es => obtain ⟨b, c, t, h1, _⟩ := h; exact ⟨b, h1, h1⟩
  | loop s p f site ps env d => obtain ⟨b, l, h1, _⟩ := h; exact ⟨b, h1, h1⟩
  | defr cs => obtain ⟨b, ds, h1, _⟩ := h; exact ⟨b, h1, h1⟩

section
variable {K : Sites} {base : World} {J : Inj} {st : St} {w : World}

/-- Only the heap, and what lies outside, count. -/
theorem Sim.same (h : Sim K base J st w) {w' : World} (hh : w'.heap = w.heap) (ho : w'.os = w.os) (hp : w'.output = w.output) : Sim K base J st w' := by
  refine ⟨ho.trans h.os, hp.trans h.output, hh ▸ h.size, fun b hb => hh ▸ h.old b hb, fun b o v e => ?_, fun r b e => hh ▸ h.ρlt r b e, h.τlt, fun r o e => ?_, fun r o b e e' => hh ▸ h.own r o b e e', h.noIm⟩
  · rw [cell_congr (w := w) (by rw [hh])]; exact h.imOk b o v e
  · exact (h.obj r o e).frame (Inj.le.refl J) (fun b _ => by rw [hh]) (fun _ _ _ _ _ h => h)

/-- A block more, of which nothing is known. -/
theorem Sim.push (h : Sim K base J st w) (o : Obj) : Sim K base J st { w with heap := w.heap.push o } := by
  have hs : (w.heap.push o).size = w.heap.size + 1 := Array.size_push _
  refine ⟨h.os, h.output, by show _ ≤ (w.heap.push o).size; rw [hs]; exact Nat.le_succ_of_le h.size, fun b hb => ?_, fun b o' v e => ?_, fun r b e => ⟨(h.ρlt r b e).1, ?_⟩, h.τlt, fun r o' e => ?_, fun r o' b e e' => ?_, h.noIm⟩
  · show (w.heap.push o)[b]? = _
    rw [push_old o (Nat.lt_of_lt_of_le hb h.size)]; exact h.old b hb
  · have := h.imOk b o' v e
    rw [cell_congr (w := w)]; exact this
    exact push_old o (lt_of_cell this)
  · show b < (w.heap.push o).size
    rw [hs]; exact Nat.lt_succ_of_lt (h.ρlt r b e).2
  · exact (h.obj r o' e).frame (Inj.le.refl J) (fun b hb => push_old o (h.own r o' b e hb).2.1) (fun _ _ _ _ _ h => h)
  · obtain ⟨h1, h2, h3⟩ := h.own r o' b e e'
    exact ⟨h1, by show b < (w.heap.push o).size; rw [hs]; exact Nat.lt_succ_of_lt h2, h3⟩

/-- A block is given to a new reference. -/
def Inj.bind (J : Inj) (r b : Nat) : Inj := { J with ρ := fun i => if i = r then some b else J.ρ i }

theorem Sim.ρnew (h : Sim K base J st w) : J.ρ st.length = none := by
  cases e : J.ρ st.length with
  | none => rfl
  | some b => exact absurd (h.ρlt _ _ e).1 (Nat.lt_irrefl _)

theorem Sim.bind_le (h : Sim K base J st w) (b : Nat) : J.le (J.bind st.length b) :=
  ⟨fun r b' e => by
    show (if r = st.length then some b else J.ρ r) = some b'
    rw [if_neg (by rintro rfl; rw [h.ρnew] at e; cases e)]; exact e, fun _ _ _ e => e, fun _ _ _ e => e⟩

theorem ownB_bind {r b r' : Nat} {o : AObj} (h : r' ≠ r) : ownB (J.bind r b) r' o = ownB J r' o := by
  cases o <;> simp [ownB, Inj.bind, h]

/-- A new object in a new block. -/
theorem Sim.add (h : Sim K base J st w) (o : Obj) (a : AObj) (ha : a.isTok = false) (hd : a ≠ .dead)
    (hobj : ObjSim K (J.bind st.length w.heap.size) { w with heap := w.heap.push o } st.length a) :
    Sim K base (J.bind st.length w.heap.size) (st ++ [a]) { w with heap := w.heap.push o } := by
  have hs : (w.heap.push o).size = w.heap.size + 1 := Array.size_push _
  have hp := h.push o
  have hle := h.bind_le w.heap.size
  have hown : ownB (J.bind st.length w.heap.size) st.length a = some w.heap.size := by
    obtain ⟨b, h1, h2⟩ := hobj.own ha hd
    rw [h2, ← h1]; simp [Inj.bind]
  have hget : ∀ (r : Nat) x, (st ++ [a])[r]? = some x → (r < st.length ∧ st[r]? = some x) ∨ (r = st.length ∧ x = a) := by
    intro r x e
    rcases Nat.lt_trichotomy r st.length with hr | hr | hr
    · rw [List.getElem?_append_left hr] at e; exact .inl ⟨hr, e⟩
    · subst hr; simp at e; exact .inr ⟨rfl, e.symm⟩
    · rw [List.getElem?_eq_none (by simp; omega)] at e; cases e
  refine ⟨hp.os, hp.output, hp.size, hp.old, hp.imOk, fun r b e => ?_, fun i n v e => ?_, fun r x e => ?_, fun r x b e e' => ?_, fun r x b e e' ht => ?_⟩
  · by_cases hr : r = st.length
    · subst hr; simp [Inj.bind] at e; subst e; exact ⟨by simp, by show _ < (w.heap.push o).size; omega⟩
    · simp [Inj.bind, hr] at e; have := hp.ρlt r b e; exact ⟨by simp; omega, this.2⟩
  · obtain ⟨h1, h2⟩ := hp.τlt i n v e
    refine ⟨by simp; omega, fun m l ty' e' => h2 m l ty' ?_⟩
    rwa [List.getElem?_append_left h1] at e'
  · rcases hget r x e with ⟨hr, e⟩ | ⟨rfl, rfl⟩
    · exact (hp.obj r x e).frame hle (fun _ _ => rfl) (fun _ _ _ _ _ h => h)
    · exact hobj
  · have hu : ∀ (r' : Nat) x', r' < st.length → st[r']? = some x' → ownB (J.bind st.length w.heap.size) r' x' = some b → b < w.heap.size ∧ ownB J r' x' = some b := by
      intro r' x' hr' e1 e2
      rw [ownB_bind (by omega)] at e2
      exact ⟨(h.own r' x' b e1 e2).2.1, e2⟩
    rcases hget r x e with ⟨hr, e⟩ | ⟨rfl, rfl⟩
    · obtain ⟨hb, e2⟩ := hu r x hr e e'
      obtain ⟨h1, h2, h3⟩ := hp.own r x b e e2
      refine ⟨h1, h2, fun r' x' e3 e4 => ?_⟩
      rcases hget r' x' e3 with ⟨hr', e3⟩ | ⟨rfl, rfl⟩
      · exact h3 r' x' e3 (hu r' x' hr' e3 e4).2
      · rw [hown] at e4; cases e4; exact absurd hb (Nat.lt_irrefl _)
    · rw [hown] at e'; cases e'
      refine ⟨h.size, by show _ < (w.heap.push o).size; omega, fun r' x' e3 e4 => ?_⟩
      rcases hget r' x' e3 with ⟨hr', e3⟩ | ⟨rfl, _⟩
      · exact absurd (hu r' x' hr' e3 e4).1 (Nat.lt_irrefl _)
      · rfl
  · rcases hget r x e with ⟨hr, e⟩ | ⟨rfl, rfl⟩
    · rw [ownB_bind (by omega)] at e'; exact hp.noIm r x b e e' ht
    · rw [hown] at e'; cases e'
      intro k v hv
      exact absurd (lt_of_cell (h.imOk _ _ _ hv)) (Nat.lt_irrefl _)

/-- An object's own block is written. -/
theorem Sim.upd (h : Sim K base J st w) {r b : Nat} {o : AObj} (ho : st[r]? = some o) (hb : J.ρ r = some b) (ht : o.isTok = false) (hd : o ≠ .dead)
    {w' : World} {a : AObj} (ha : a.isTok = false) (had : a ≠ .dead) (hos : w'.os = w.os) (hout : w'.output = w.output) (hsz : w'.heap.size = w.heap.size)
    (hoth : ∀ b', b' ≠ b → w'.heap[b']? = w.heap[b']?) (hobj : ObjSim K J w' r a) : Sim K base J (st.set r a) w' := by
  have hown : ownB J r o = some b := by obtain ⟨b', h1, h2⟩ := (h.obj r o ho).own ht hd; rw [h2, ← h1, hb]
  have howna : ownB J r a = some b := by obtain ⟨b', h1, h2⟩ := hobj.own ha had; rw [h2, ← h1, hb]
  have hrl : r < st.length := by rcases Nat.lt_or_ge r st.length with h | h; exact h; rw [List.getElem?_eq_none h] at ho; cases ho
  obtain ⟨g1, g2, g3⟩ := h.own r o b ho hown
  have hget : ∀ (i : Nat) x, (st.set r a)[i]? = some x → (i ≠ r ∧ st[i]? = some x) ∨ (i = r ∧ x = a) := by
    intro i x e
    by_cases hi : i = r
    · subst hi; rw [List.getElem?_set_self hrl] at e; cases e; exact .inr ⟨rfl, rfl⟩
    · rw [List.getElem?_set_ne (fun h => hi h.symm)] at e; exact .inl ⟨hi, e⟩
  refine ⟨hos.trans h.os, hout.trans h.output, hsz ▸ h.size, fun b' hb' => ?_, fun b' k v e => ?_, fun i b' e => ?_, fun i n v e => ?_, fun i x e => ?_, fun i x b' e e' => ?_, fun i x b' e e' hx => ?_⟩
  · rw [hoth b' (by omega)]; exact h.old b' hb'
  · by_cases hbb : b' = b
    · subst hbb; exact absurd e (h.noIm r o b' ho hown ht k v)
    · rw [cell_congr (hoth b' hbb)]; exact h.imOk b' k v e
  · have := h.ρlt i b' e; simp; omega
  · obtain ⟨h1, h2⟩ := h.τlt i n v e
    refine ⟨by simpa using h1, fun m l ty' e' => ?_⟩
    rcases hget i _ e' with ⟨_, e'⟩ | ⟨_, e'⟩
    · exact h2 m l ty' e'
    · subst e'; simp [AObj.isTok] at ha
  · rcases hget i x e with ⟨hi, e⟩ | ⟨rfl, rfl⟩
    · refine (h.obj i x e).frame (Inj.le.refl J) (fun b' hb' => hoth b' ?_) (fun _ _ _ _ _ h => h)
      rintro rfl; exact hi (g3 i x e hb')
    · exact hobj
  · rcases hget i x e with ⟨hi, e5⟩ | ⟨rfl, rfl⟩
    · obtain ⟨f1, f2, f3⟩ := h.own i x b' e5 e'
      refine ⟨f1, hsz ▸ f2, fun i' x' e3 e4 => ?_⟩
      rcases hget i' x' e3 with ⟨_, e3⟩ | ⟨h1, h2⟩
      · exact f3 i' x' e3 e4
      · rw [h1, h2, howna] at e4; cases e4; exact absurd (g3 i x e5 e') hi
    · rw [howna] at e'; cases e'
      refine ⟨g1, hsz ▸ g2, fun i' x' e3 e4 => ?_⟩
      rcases hget i' x' e3 with ⟨_, e3⟩ | ⟨h, _⟩
      · exact g3 i' x' e3 e4
      · exact h
  · rcases hget i x e with ⟨hi, e⟩ | ⟨rfl, rfl⟩
    · exact h.noIm i x b' e e' hx
    · rw [howna] at e'; cases e'; exact h.noIm i o b ho hown ht

/-- A new block, all of which stays as it is. -/
def Inj.stay (J : Inj) (b : Nat) (c : Array Value) : Inj := { J with im := fun b' o => if b' = b then c[o]? else J.im b' o }

theorem Sim.imnew (h : Sim K base J st w) {b o : Nat} (hb : w.heap.size ≤ b) : J.im b o = none := by
  cases e : J.im b o with
  | none => rfl
  | some v => exact absurd (lt_of_cell (h.imOk _ _ _ e)) (by omega)

theorem Sim.stay_le (h : Sim K base J st w) (c : Array Value) : J.le (J.stay w.heap.size c) :=
  ⟨fun _ _ e => e, fun _ _ _ e => e, fun b o v e => by
    show (if b = w.heap.size then c[o]? else J.im b o) = some v
    rw [if_neg (by rintro rfl; rw [h.imnew (Nat.le_refl _)] at e; cases e)]; exact e⟩

theorem Sim.addStill (h : Sim K base J st w) (c : Array Value) (t : TypeId) (fr : Nat × Nat) :
    Sim K base (J.stay w.heap.size c) st { w with heap := w.heap.push (.cells c t fr) } := by
  have hp := h.push (.cells c t fr)
  have hle := h.stay_le c
  refine ⟨hp.os, hp.output, hp.size, hp.old, fun b o v e => ?_, hp.ρlt, hp.τlt, fun r x e => ?_, fun r x b e e' => hp.own r x b e e', fun r x b e e' hx k v hv => ?_⟩
  · by_cases hb : b = w.heap.size
    · subst hb
      simp [Inj.stay] at e
      rw [cell_of_heap (c := c) (t := t) (fr := fr) (by simp)]; simpa using e
    · simp [Inj.stay, hb] at e; exact hp.imOk b o v e
  · refine (hp.obj r x e).frame hle (fun _ _ => rfl) (fun b hb _ k v hv => ?_)
    have := (h.own r x b e hb).2.1
    simp [Inj.stay, Nat.ne_of_lt this] at hv; exact hv
  · have := (h.own r x b e e').2.1
    simp [Inj.stay, Nat.ne_of_lt this] at hv; exact hp.noIm r x b e e' hx k v hv

/-- A name more, for nothing yet. -/
theorem Sim.addDead (h : Sim K base J st w) : Sim K base J (st ++ [.dead]) w := by
  have hget : ∀ (r : Nat) x, (st ++ [AObj.dead])[r]? = some x → (r < st.length ∧ st[r]? = some x) ∨ x = .dead := by
    intro r x e
    rcases Nat.lt_trichotomy r st.length with hr | hr | hr
    · rw [List.getElem?_append_left hr] at e; exact .inl ⟨hr, e⟩
    · subst hr; simp at e; exact .inr e.symm
    · rw [List.getElem?_eq_none (by simp; omega)] at e; cases e
  refine ⟨h.os, h.output, h.size, h.old, h.imOk, fun r b e => ?_, fun i n v e => ?_, fun r x e => ?_, fun r x b e e' => ?_, fun r x b e e' ht => ?_⟩
  · have := h.ρlt r b e; simp; omega
  · obtain ⟨h1, h2⟩ := h.τlt i n v e
    refine ⟨by simp; omega, fun m l ty' e' => ?_⟩
    rcases hget i _ e' with ⟨_, e'⟩ | e'
    · exact h2 m l ty' e'
    · cases e'
  · rcases hget r x e with ⟨_, e⟩ | e
    · exact h.obj r x e
    · subst e; trivial
  · rcases hget r x e with ⟨_, e⟩ | e
    · obtain ⟨h1, h2, h3⟩ := h.own r x b e e'
      refine ⟨h1, h2, fun r' x' e3 e4 => ?_⟩
      rcases hget r' x' e3 with ⟨_, e3⟩ | e3
      · exact h3 r' x' e3 e4
      · subst e3; cases e4
    · subst e; cases e'
  · rcases hget r x e with ⟨_, e⟩ | e
    · exact h.noIm r x b e e' ht
    · subst e; cases e'

/-- A token's slice told, and what lies in it. -/
def Inj.grow (J : Inj) (id n : Nat) (v : Value) (b lo hi : Nat) (c : Array Value) : Inj :=
  { J with
    τ := fun i k => if i = id ∧ k = n then some v else J.τ i k
    im := fun b' o => if b' = b ∧ lo ≤ o ∧ o < hi then c[o]? else J.im b' o }

theorem Inj.grow_le {id n : Nat} {v : Value} {b lo hi : Nat} {c : Array Value} (hτ : ∀ u, J.τ id n = some u → u = v) (him : ∀ k u, J.im b k = some u → c[k]? = some u) :
    J.le (J.grow id n v b lo hi c) := by
  refine ⟨fun _ _ e => e, fun i k u e => ?_, fun b' o u e => ?_⟩
  · show (if i = id ∧ k = n then some v else J.τ i k) = some u
    split
    · rename_i hh; obtain ⟨rfl, rfl⟩ := hh; rw [hτ u e]
    · exact e
  · show (if b' = b ∧ lo ≤ o ∧ o < hi then c[o]? else J.im b' o) = some u
    split
    · rename_i hh; obtain ⟨rfl, _, _⟩ := hh; exact him o u e
    · exact e

theorem Sim.tokSet (h : Sim K base J st w) {id n m : Nat} {ty : Option TypeId} {o : AObj} (ho : st[id]? = some o)
    (hd : (o = .dead ∧ ∀ k v, J.τ id k ≠ some v) ∨ ∃ m' n0 ty0, o = .tok m' n0 ty0)
    {w' : World} {a : Addr} {cap : Nat} {c : Array Value} {t : TypeId}
    (hos : w'.os = w.os) (hout : w'.output = w.output) (hsz : w.heap.size ≤ w'.heap.size)
    (hoth : ∀ b', b' < w.heap.size → b' ≠ a.block → w'.heap[b']? = w.heap[b']?)
    (hb : w'.heap[a.block]? = some (.cells c t (0, 0))) (hbase : base.heap.size ≤ a.block)
    (hown : ∀ (r' : Nat) o', st[r']? = some o' → ownB J r' o' = some a.block → r' = id)
    (him : ∀ k v, J.im a.block k = some v → c[k]? = some v) (ha : a.spot = none) (hn : n ≤ cap) (hc0 : 0 < cap) (hcs : a.off + cap * m ≤ c.size)
    (hbey : ∀ k v, a.off + n * m ≤ k → J.im a.block k ≠ some v)
    (hτ : ∀ k v, J.τ id k = some v → k < n ∨ (k = n ∧ v = .slice (some a) n cap)) (hty : ∀ T, ty = some T → t = T ∧ a.off = 0) :
    J.le (J.grow id n (.slice (some a) n cap) a.block a.off (a.off + n * m) c) ∧
    Sim K base (J.grow id n (.slice (some a) n cap) a.block a.off (a.off + n * m) c) (st.set id (.tok m n ty)) w' := by
  have hle : J.le (J.grow id n (.slice (some a) n cap) a.block a.off (a.off + n * m) c) :=
    Inj.grow_le (fun u e => by rcases hτ n u e with h | ⟨_, h⟩; exact absurd h (Nat.lt_irrefl _); exact h) him
  refine ⟨hle, ?_⟩
  have hil : id < st.length := by rcases Nat.lt_or_ge id st.length with h | h; exact h; rw [List.getElem?_eq_none h] at ho; cases ho
  have hotok : o.isTok = true ∨ o = .dead := by rcases hd with ⟨h, _⟩ | ⟨_, _, _, h⟩ <;> subst h <;> simp [AObj.isTok]
  have hget : ∀ (i : Nat) x, (st.set id (.tok m n ty))[i]? = some x → (i ≠ id ∧ st[i]? = some x) ∨ (i = id ∧ x = .tok m n ty) := by
    intro i x e
    by_cases hi : i = id
    · subst hi; rw [List.getElem?_set_self hil] at e; cases e; exact .inr ⟨rfl, rfl⟩
    · rw [List.getElem?_set_ne (fun h => hi h.symm)] at e; exact .inl ⟨hi, e⟩
  have hownB : ∀ (i : Nat) x, i ≠ id → ownB (J.grow id n (.slice (some a) n cap) a.block a.off (a.off + n * m) c) i x = ownB J i x := by
    intro i x hi
    cases x <;> simp [ownB, Inj.grow, hi]
  have hownid : ownB (J.grow id n (.slice (some a) n cap) a.block a.off (a.off + n * m) c) id (.tok m n ty) = some a.block := by
    simp [ownB, Inj.grow]; omega
  have hbl : a.block < w'.heap.size := heap_lt hb
  refine ⟨hos.trans h.os, hout.trans h.output, Nat.le_trans h.size hsz, fun b' hb' => ?_, fun b' k v e => ?_, fun r b' e => ?_, fun i k v e => ?_, fun i x e => ?_, fun i x b' e e' => ?_, fun i x b' e e' hx k v hv => ?_⟩
  · rw [hoth b' (Nat.lt_of_lt_of_le hb' h.size) (by omega)]; exact h.old b' hb'
  · by_cases hbb : b' = a.block
    · subst hbb
      rw [cell_of_heap hb]
      simp only [Inj.grow] at e
      split at e
      · exact e
      · exact him k v e
    · have e' : J.im b' k = some v := by simpa [Inj.grow, hbb] using e
      have := h.imOk b' k v e'
      rw [cell_congr (hoth b' (lt_of_cell this) hbb)]; exact this
  · have := h.ρlt r b' e; simp; omega
  · simp only [Inj.grow] at e
    split at e
    · rename_i hh; obtain ⟨rfl, rfl⟩ := hh
      refine ⟨by simpa using hil, fun m' l ty' e' => ?_⟩
      rw [List.getElem?_set_self hil] at e'; cases e'; exact Nat.le_refl _
    · obtain ⟨h1, h2⟩ := h.τlt i k v e
      refine ⟨by simpa using h1, fun m' l ty' e' => ?_⟩
      rcases hget i _ e' with ⟨_, e6⟩ | ⟨hi, e6⟩
      · exact h2 m' l ty' e6
      · cases e6
        subst hi
        rcases hτ k v e with h | ⟨h, _⟩ <;> omega
  · rcases hget i x e with ⟨hi, e⟩ | ⟨rfl, rfl⟩
    · refine (h.obj i x e).frame hle (fun b' hb' => hoth b' (h.own i x b' e hb').2.1 ?_) (fun b' hb' _ k v hv => ?_)
      · rintro rfl; exact hi (hown i x e hb')
      · have hne : b' ≠ a.block := by rintro rfl; exact hi (hown i x e hb')
        simpa [Inj.grow, hne] using hv
    · refine .inr ⟨a, cap, c, t, by simp [Inj.grow], ha, hc0, hn, hb, hcs, fun k v hk e => ?_, hty⟩
      simp only [Inj.grow] at e
      rw [if_neg (by omega)] at e
      exact hbey k v hk e
  · rcases hget i x e with ⟨hi, e5⟩ | ⟨rfl, rfl⟩
    · rw [hownB i x hi] at e'
      obtain ⟨f1, f2, f3⟩ := h.own i x b' e5 e'
      refine ⟨f1, Nat.lt_of_lt_of_le f2 hsz, fun i' x' e3 e4 => ?_⟩
      rcases hget i' x' e3 with ⟨hi', e3⟩ | ⟨h1, h2⟩
      · rw [hownB i' x' hi'] at e4; exact f3 i' x' e3 e4
      · rw [h1, h2, hownid] at e4; cases e4; exact absurd (hown i x e5 e') hi
    · rw [hownid] at e'; cases e'
      refine ⟨hbase, hbl, fun i' x' e3 e4 => ?_⟩
      rcases hget i' x' e3 with ⟨hi', e3⟩ | ⟨h1, _⟩
      · rw [hownB i' x' hi'] at e4; exact hown i' x' e3 e4
      · exact h1
  · rcases hget i x e with ⟨hi, e5⟩ | ⟨rfl, rfl⟩
    · rw [hownB i x hi] at e'
      have hne : b' ≠ a.block := by rintro rfl; exact hi (hown i x e5 e')
      refine h.noIm i x b' e5 e' hx k v ?_
      simpa [Inj.grow, hne] using hv
    · simp [AObj.isTok] at hx

/-- A token for what has no room. -/
def Inj.tokNil (J : Inj) (id : Nat) (v : Value) : Inj := { J with τ := fun i k => if i = id ∧ k = 0 then some v else J.τ i k }

theorem Sim.τnew (h : Sim K base J st w) (k : Nat) : J.τ st.length k = none := by
  cases e : J.τ st.length k with
  | none => rfl
  | some v => exact absurd (h.τlt _ _ _ e).1 (Nat.lt_irrefl _)

theorem Sim.tokAdd0 (h : Sim K base J st w) (m : Nat) (s : Option Addr) :
    J.le (J.tokNil st.length (.slice s 0 0)) ∧ Sim K base (J.tokNil st.length (.slice s 0 0)) (st ++ [.tok m 0 none]) w := by
  have hle : J.le (J.tokNil st.length (.slice s 0 0)) := by
    refine ⟨fun _ _ e => e, fun i k u e => ?_, fun _ _ _ e => e⟩
    show (if i = st.length ∧ k = 0 then _ else J.τ i k) = some u
    rw [if_neg (by rintro ⟨rfl, _⟩; rw [h.τnew] at e; cases e)]; exact e
  refine ⟨hle, ?_⟩
  have hget : ∀ (r : Nat) x, (st ++ [AObj.tok m 0 none])[r]? = some x → (r < st.length ∧ st[r]? = some x) ∨ (r = st.length ∧ x = .tok m 0 none) := by
    intro r x e
    rcases Nat.lt_trichotomy r st.length with hr | hr | hr
    · rw [List.getElem?_append_left hr] at e; exact .inl ⟨hr, e⟩
    · subst hr; simp at e; exact .inr ⟨rfl, e.symm⟩
    · rw [List.getElem?_eq_none (by simp; omega)] at e; cases e
  have hownB : ∀ (i : Nat) x, i < st.length → ownB (J.tokNil st.length (.slice s 0 0)) i x = ownB J i x := by
    intro i x hi
    cases x <;> simp [ownB, Inj.tokNil, Nat.ne_of_lt hi]
  have hown0 : ownB (J.tokNil st.length (.slice s 0 0)) st.length (.tok m 0 none) = none := by
    cases s <;> simp [ownB, Inj.tokNil]
  refine ⟨h.os, h.output, h.size, h.old, h.imOk, fun r b e => ?_, fun i n v e => ?_, fun r x e => ?_, fun r x b e e' => ?_, fun r x b e e' ht => ?_⟩
  · have := h.ρlt r b e; simp; omega
  · simp only [Inj.tokNil] at e
    split at e
    · rename_i hh; obtain ⟨rfl, rfl⟩ := hh; exact ⟨by simp, fun m l _ _ => Nat.zero_le _⟩
    · obtain ⟨h1, h2⟩ := h.τlt i n v e
      refine ⟨by simp; omega, fun m' l ty' e' => h2 m' l ty' ?_⟩
      rwa [List.getElem?_append_left h1] at e'
  · rcases hget r x e with ⟨hr, e⟩ | ⟨rfl, rfl⟩
    · exact (h.obj r x e).frame hle (fun _ _ => rfl) (fun _ _ _ _ _ h => h)
    · exact .inl ⟨rfl, s, by simp [Inj.tokNil]⟩
  · rcases hget r x e with ⟨hr, e⟩ | ⟨rfl, rfl⟩
    · rw [hownB r x hr] at e'
      obtain ⟨h1, h2, h3⟩ := h.own r x b e e'
      refine ⟨h1, h2, fun r' x' e3 e4 => ?_⟩
      rcases hget r' x' e3 with ⟨hr', e3⟩ | ⟨rfl, rfl⟩
      · rw [hownB r' x' hr'] at e4; exact h3 r' x' e3 e4
      · rw [hown0] at e4; cases e4
    · rw [hown0] at e'; cases e'
  · rcases hget r x e with ⟨hr, e⟩ | ⟨rfl, rfl⟩
    · rw [hownB r x hr] at e'; exact h.noIm r x b e e' ht
    · simp [AObj.isTok] at ht
end

end Go.Proofs.YtfkmdajlpnkebaaDoor.Ai
