/- strings.Builder: copyCheck. No condition. -/
import Derived.Test.YtfkmdajlpnkebaaDoorAi26
namespace Go.Proofs.YtfkmdajlpnkebaaDoor.Ai
open Go

/-- A builder's two cells. -/
def bldOf (st : St) (r T : Nat) : Option (AV × AV) :=
  match st[r]? with
  | some (.cells (some T') [a, b]) => if T' = T then some (a, b) else none
  | _ => none

theorem bldOf_some {st : St} {r T : Nat} {a b : AV} (h : bldOf st r T = some (a, b)) : st[r]? = some (.cells (some T) [a, b]) := by
  unfold bldOf at h
  cases hst : st[r]? with
  | none => rw [hst] at h; cases h
  | some ob =>
    rw [hst] at h
    split at h
    · rename_i e
      split at h
      · rename_i hT; cases h; cases e; rw [hT]
      · cases h
    · cases h

/-- (*strings.Builder).copyCheck, at a builder of its own. -/
def copyA (T : TypeId) : List AV → St → Option (AOut × St)
  | [.ptr r 0], st => match bldOf st r T with
    | some (.nilPtr, b) => some (.ret (.tup []), st.set r (.cells (some T) [.ptr r 0, b]))
    | some (.ptr r' 0, _) => if r' = r then some (.ret (.tup []), st) else none
    | _ => none
  | _, _ => none

/-- How a function of the library ends. -/
def outRes (st' : St) : AOut → Res
  | .ret v => ⟨.ret, ⟨[v], []⟩, st'⟩
  | .pan v => ⟨.pan v, ⟨[], []⟩, st'⟩

def selfP (b : Nat) : Value := .pointer (some ⟨b, 0, none⟩)

theorem copy_task {P : Program} {gl : List (Nat × AV)} {A : AProg} {B : World → Prop} {f T : Nat} (he : ∀ args w, (callFunc f args).run P w = .ok (.enter f args) w)
    (C1 : ∀ (b : Nat) (w : World), w.cell? ⟨b, 0, none⟩ = some (selfP b) → Calls P f #[selfP b] w fun e w' => e = .returned (.tuple #[]) ∧ w' = w)
    (C2 : ∀ (b : Nat) (w : World), w.cell? ⟨b, 0, none⟩ = some (.pointer none) → w.shape? b = some (T, 2) → w.frozen? ⟨b, 0, none⟩ = false → Calls P f #[selfP b] w fun e w' => e = .returned (.tuple #[]) ∧ w' = w.setCell ⟨b, 0, none⟩ (selfP b))
    {args : List AV} {st : St} {o : AOut} {st' : St} (hh : copyA T args st = some (o, st')) :
    TaskOk P gl A B (.call f args) st (outRes st' o) := by
  unfold copyA at hh
  split at hh
  · rename_i r
    cases hbo : bldOf st r T with
    | none => simp [hbo] at hh
    | some ab =>
      obtain ⟨a, b⟩ := ab
      have hst := bldOf_some hbo
      rw [hbo] at hh
      intro base J w cargs hS hG hR
      simp only [Reps, Rep] at hR
      obtain ⟨y, ys, e1, ⟨bl, hb, rfl⟩, rfl⟩ := hR
      obtain rfl : cargs = #[selfP bl] := by apply Array.toList_inj.1; simpa [selfP] using e1
      obtain ⟨b', c, t, h1, ⟨fr, h2, hfr⟩, h3, h4, h5, hty⟩ := hS.obj r _ hst
      rw [hb] at h1; cases h1
      obtain ⟨rfl, hsz⟩ := hty T rfl
      simp only [List.length_cons, List.length_nil, Nat.zero_add, Nat.reduceAdd] at hsz h4
      have hct : c.toList.take 2 = c.toList := List.take_of_length_le (by simp [hsz])
      rw [hct] at h4
      simp only [Reps] at h4
      obtain ⟨x, xs, ex, hx, x2, xs2, ex2, hx2, rfl⟩ := h4
      subst ex2
      obtain rfl : c = #[x, x2] := by apply Array.toList_inj.1; simpa using ex
      have hc0 : w.cell? ⟨bl, 0, none⟩ = some x := by rw [cell_of_heap h2]; rfl
      refine .inl ⟨he _ _, callsIn_wide.2 ?_⟩
      cases a with
      | nilPtr =>
        simp only [Option.some.injEq, Prod.mk.injEq] at hh
        obtain ⟨rfl, rfl⟩ := hh
        simp only [Rep] at hx
        subst hx
        have hshape : w.shape? bl = some (t, 2) := by simp [World.shape?, h2]
        have hfroz : w.frozen? ⟨bl, 0, none⟩ = false := by
          have := hfr 0 (by simp)
          simp only [World.frozen?, h2]
          simp only [Bool.and_eq_false_iff, decide_eq_false_iff_not]
          omega
        refine (C2 bl w hc0 hshape hfroz).mono fun e w' ⟨h1, h2'⟩ => ?_
        subst h2'
        have hh2 := setCell_heap (o := 0) (selfP bl) h2
        refine ⟨J, Inj.le.refl J, hS.upd hst hb rfl (by simp) rfl (by simp) rfl rfl (by simp [World.setCell]) (fun b' hb' => setCell_other _ hb') ?_, .tup [], .tuple #[], rfl, by simp [Rep, Reps], h1⟩
        refine ⟨bl, _, t, hb, ⟨fr, hh2, by simpa using hfr⟩, by simp, ?_, ?_, fun T hT => ⟨Option.some.inj hT, by simp⟩⟩
        · simp [Reps, Rep, selfP, hb]
          exact ⟨_, _, ⟨rfl, rfl⟩, rfl, x2, rfl, hx2⟩
        · simp only [List.all_cons, List.all_nil, Bool.and_true, Bool.and_eq_true] at h5 ⊢
          exact ⟨rfl, h5.2⟩
      | ptr r' off =>
        cases off with
        | zero =>
          simp only at hh
          split at hh
          · rename_i hr
            subst hr
            simp only [Option.some.injEq, Prod.mk.injEq] at hh
            obtain ⟨rfl, rfl⟩ := hh
            simp only [Rep] at hx
            obtain ⟨b2, hb2, rfl⟩ := hx
            rw [hb] at hb2; cases hb2
            refine (C1 bl w hc0).mono fun e w' ⟨h1, h2'⟩ => ?_
            subst h2'
            exact ⟨J, Inj.le.refl J, hS, .tup [], .tuple #[], rfl, by simp [Rep, Reps], h1⟩
          · cases hh
        | succ n => simp at hh
      | _ => simp at hh
  · cases hh
end Go.Proofs.YtfkmdajlpnkebaaDoor.Ai
