/- Part Jn. No condition. -/
import Derived.Test.YtefildelnccljaaGreatJk
import Derived.Test.YtefildelnccljaaGreatJc
import Derived.Test.YtefildelnccljaaGreatJf
set_option linter.unusedVariables false
set_option linter.unusedSimpArgs false
namespace Go.Proofs.YtefildelnccljaaGreat
open Go Ai
theorem fn13 : A.fn 13 = some a13 := by kernel_rfl
theorem prim13 : A.prim 13 = none := by kernel_rfl
def w13_0 : List Nat := a13_0.writes
def w13_1 : List Nat := a13_1.writes
theorem fold_pre {p : Pg} {f m : Nat} (h : ∀ (e : Nat) (l : List Int), l <+: treeN p f e l m) : ∀ (ks l : List Int), l <+: ks.foldl (fun l k => treeN p f k.toNat l m) l
  | [], l => List.prefix_refl _
  | k :: ks, l => (h k.toNat l).trans (fold_pre h ks _)
theorem tree_pre (p : Pg) (m : Nat) : ∀ (f e : Nat) (l : List Int), l <+: treeN p f e l m
  | 0, _, l => List.prefix_refl _
  | f + 1, e, l => by
    rw [treeN]
    split
    · exact List.prefix_refl _
    · exact (List.prefix_append l [(e : Int)]).trans (fold_pre (tree_pre p m f) _ _)
theorem fold_mem {p : Pg} {f m : Nat} : ∀ (ks l : List Int) (k : Int), k ∈ ks → ∃ l', treeN p f k.toNat l' m <+: ks.foldl (fun l k => treeN p f k.toNat l m) l
  | [], l, k, h => by cases h
  | k' :: ks, l, k, h => by
    rcases List.mem_cons.1 h with rfl | h
    · exact ⟨l, fold_pre (tree_pre p m f) ks _⟩
    · exact fold_mem ks _ k h
theorem tree_rng {p : Pg} (hA : Ahead p) (m : Nat) : ∀ (f e : Nat), e < p.xs.length → ∀ (l : List Int), (∀ z ∈ l, 0 ≤ z ∧ z < p.xs.length) → ∀ z ∈ treeN p f e l m, 0 ≤ z ∧ z < p.xs.length
  | 0, _, _, l, h => h
  | f + 1, e, he, l, h => by
    rw [treeN]
    split
    · exact h
    · have hg : p.xs.getD e ex0 = p.xs[e] := by simp [he]
      rw [hg]
      have : ∀ (ks : List Int), (∀ k ∈ ks, 0 ≤ k ∧ k < (e : Int)) → ∀ (l : List Int), (∀ z ∈ l, 0 ≤ z ∧ z < p.xs.length) → ∀ z ∈ ks.foldl (fun l k => treeN p f k.toNat l m) l, 0 ≤ z ∧ z < p.xs.length := by
        intro ks
        induction ks with
        | nil => intro _ l h; exact h
        | cons k ks ih =>
          intro hk l h
          have hk1 := hk k (by simp)
          exact ih (fun x hx => hk x (by simp [hx])) _ (tree_rng hA m f k.toNat (by omega) l h)
      refine this _ (fun k hk => hA e he k hk) _ ?_
      intro z hz
      rcases List.mem_append.1 hz with hz | hz
      · exact h z hz
      · simp at hz; omega
theorem tree_all {p : Pg} (hA : Ahead p) {m : Nat} (v1 v2 : List Vr) : ∀ (f e : Nat), e < f → e < p.xs.length → ∀ (l : List Int), (treeN p f e l m).length < m → (∀ z ∈ treeN p f e l m, (p.xs.getD z.toNat ex0).k ≠ 3) → (tysF p v1).getD e 0 = (tysF p v2).getD e 0
  | 0, _, h, _, _, _, _ => by omega
  | f + 1, e, hef, he, l, hlen, hall => by
    have hl := (tree_pre p m (f + 1) e l).length_le
    have hg : p.xs.getD e ex0 = p.xs[e] := by simp [he]
    have hlm : ¬ m ≤ l.length := fun h => by rw [treeN, if_pos h] at hlen; omega
    rw [treeN, if_neg hlm, hg] at hlen hall
    have h3 : p.xs[e].k ≠ 3 := by
      have := hall e ((fold_pre (tree_pre p m f) _ _).subset (by simp))
      simpa [he] using this
    have ih : ∀ k ∈ partsF p.xs[e], (tysF p v1).getD k.toNat 0 = (tysF p v2).getD k.toNat 0 := by
      intro k hk
      obtain ⟨l', hp'⟩ := fold_mem (p := p) (f := f) (m := m) _ (l ++ [(e : Int)]) k hk
      have hk1 := hA e he k hk
      have hle := hp'.length_le
      exact tree_all hA v1 v2 f k.toNat (by omega) (by omega) l' (by omega) (fun z hz => hall z (hp'.subset hz))
    rw [tys_get hA v1 he, tys_get hA v2 he]
    generalize p.xs[e] = x at *
    simp only [tyX, if_neg h3]
    by_cases h19 : x.k = 19
    · simp only [if_pos h19]
    · simp only [if_neg h19]
      by_cases h15 : x.k = 15
      · simp only [if_pos h15]; exact ih _ (parts_k15 h15)
      · simp only [if_neg h15]
        by_cases h16 : x.k = 16 ∨ x.k = 17 ∨ x.k = 18
        · simp only [if_pos h16]; exact ih _ (parts_k16 h16)
        · simp only [if_neg h16]
theorem placesLaw {p : Pg} (hp : p.Ok) (e' : Int) : runL A (.seqc 13 [p.av, .int .i64 e']) [] = some ⟨.ret, ⟨[.bool true], []⟩, []⟩ := by
  have h34 := great8_call hp (st := []) StOk.nil
  cases hg : great8 p with
  | true =>
    rw [hg] at h34
    simp only [Pg.av] at h34
    refine (task_of_aw (N := 62) prim13 fn13 rfl rfl StOk.nil ?_).2
    intro e he ha K hK
    have a0 := ha 0
    have a1 := ha 1
    clear ha
    simp [Pg.av] at a0 a1
    simp [a13, he, a0, a1, alive8_call, h34]
    exact hK _ _ _ (.inl rfl) (by simp) ⟨_, rfl, by simp [he]⟩
  | false =>
  obtain ⟨hg1, hsm⟩ := small8 hg
  have hM := faults_small hg1
  have h23 := refRight_call hp hM (st := []) StOk.nil
  rw [hg] at h34
  cases hr : rightN p with
  | false =>
    rw [hr] at h23
    simp only [Pg.av] at h34 h23
    refine (task_of_aw (N := 62) prim13 fn13 rfl rfl StOk.nil ?_).2
    intro e he ha K hK
    have a0 := ha 0
    have a1 := ha 1
    clear ha
    simp [Pg.av] at a0 a1
    simp [a13, he, a0, a1, alive8_call, h34, h23]
    exact hK _ _ _ (.inl rfl) (by simp) ⟨_, rfl, by simp [he]⟩
  | true =>
  rw [hr] at h23
  have hS := right_sound hp hr
  have hA := hS.ahead
  have hds := hp.ds
  have hxs := hp.xs
  by_cases h1 : 0 ≤ e'
  · obtain ⟨e0, rfl⟩ := Int.eq_ofNat_of_zero_le h1
    by_cases h2 : e0 < p.xs.length
    · obtain ⟨v', s', q1, q2, q3⟩ := tree_call hp hA (st := []) (M := 400) (by omega) p.xs.length e0 h2 h2 [] (.lst 1 [] .tight) [] (by simp) (.refl StOk.nil) .nil
      obtain ⟨o, rfl⟩ := q2.eq
      have hm4 : may4 p = true := by have := hS.may; simp [may7] at this; exact this.2
      have hlen := hsm hm4 e0 h2
      have hrng := tree_rng hA 400 p.xs.length e0 h2 [] (by simp)
      have hall := fun v1 v2 => tree_all hA (m := 400) v1 v2 p.xs.length e0 h2 h2 [] hlen
      have hofs : ∀ d : Int, runL A (.call 41 [p.av, .int .i64 d, .int .i64 e0]) s' = some ⟨.ret, ⟨[.int .i64 (ofP p d e0)], []⟩, s'⟩ := fun d => of41_call hp hM (d := d) (e' := e0) q3.ok
      clear q2
      generalize treeN p p.xs.length e0 [] 400 = T at *
      have h1' : ¬ (e0 : Int) < 0 := by omega
      have h2' : ¬ p.xs.length ≤ e0 := by omega
      have h2'' : ¬ (p.xs.length : Int) ≤ (e0 : Int) := by omega
      simp only [Pg.av] at h34 h23 q1 hofs
      refine (task_of_aw (N := 62) prim13 fn13 rfl rfl StOk.nil ?_).2
      intro e he ha K hK
      have a0 := ha 0
      have a1 := ha 1
      clear ha
      simp [Pg.av] at a0 a1
      simp at q1
      simp [a13, he, a0, a1, alive8_call, h34, h23, h1', h2', h2'', q1, ints]
      have hV : (∀ z ∈ T, (p.xs.getD z.toNat ex0).k ≠ 3) → ∀ j : Nat, j < p.ds.length → ofP p j e0 = ofP p 0 e0 := by
        intro hz j hj
        have ha : ∀ i : Nat, i < p.ds.length → allF p i = tysF p (varsP p i) := fun i hi => by simp [allF, hr, hi]
        have := hall (varsP p j) (varsP p (0 : Nat)) hz
        rw [ofP, ofP, if_pos (by omega), if_pos (by omega), ha j hj, show ((0 : Int)) = ((0 : Nat) : Int) from rfl, ha 0 (by omega)]
        simpa using this
      clear hall
      refine aw_loop (W := w13_1) rfl (fun m e ds s => ds = [] ∧ s = s' ∧ ∃ j : Nat, j + m = T.length ∧ (∀ z ∈ T.take j, (p.xs.getD z.toNat ex0).k ≠ 3) ∧ AX.ev e (.t 6) = .int .i64 j) T.length ⟨rfl, rfl, 0, by simp, by simp, by simp [he]⟩ ?_
      rintro m e1 ds s hs ⟨rfl, rfl, j, hm, hk3, g6⟩ K1 kn kx
      have he1 : e1.length = 62 := by simp [hs.1, he]
      have g1 := hs.ev 1 rfl (v := .int .i64 e0) (by simp [he, a1])
      have g2 := hs.ev 2 rfl (v := .iptr p.av) (by simp [he, a0, Pg.av])
      have g5 := hs.ev 5 rfl (v := .lst 1 (ints T) o) (by simp [he, ints])
      simp only [Pg.av] at g2
      by_cases hj : j < T.length
      · have hgv := ints_get hj
        obtain ⟨z1, z2⟩ := hrng T[j] (List.getElem_mem hj)
        obtain ⟨z, hz⟩ : ∃ z, z = T[j] := ⟨_, rfl⟩
        have htk : T.take (j + 1) = T.take j ++ [T[j]] := by rw [List.take_add_one, List.getElem?_eq_getElem hj]; rfl
        rw [← hz] at z1 z2 hgv htk
        obtain ⟨c, rfl⟩ := Int.eq_ofNat_of_zero_le z1
        have hc : c < p.xs.length := by omega
        have hgx : (p.xs.map Ex.av)[c]'(by simpa using hc) = .agg p.xs[c].cs := by simp [Ex.av]
        have hgd : p.xs.getD c ex0 = p.xs[c] := by simp [hc]
        have w1 : IntKind.i64.wrap ((j : Int) + 1) = (j : Int) + 1 := wrap_i64 (by omega) (by omega)
        simp only [Ex.cs] at hgx
        by_cases hk : p.xs[c].k = 3
        · generalize p.xs[c] = x at *
          simp [a13_1, g1, g2, g5, g6, he1, hj, hgv, ints_length, hc, hgx, hk]
          refine kx _ _ _ _ nofun fun hs' => ?_
          simp
          exact hK _ _ _ (.inl rfl) (by simp) ⟨_, rfl, by simp [he1]⟩
        · have hk3' : ∀ y ∈ T.take (j + 1), (p.xs.getD y.toNat ex0).k ≠ 3 := by
            intro y hy
            rw [htk] at hy
            rcases List.mem_append.1 hy with hy | hy
            · exact hk3 y hy
            · rw [List.mem_singleton] at hy
              subst hy
              rw [Int.toNat_natCast, hgd]; exact hk
          clear hgd
          generalize p.xs[c] = x at *
          simp [a13_1, g1, g2, g5, g6, he1, hj, hgv, ints_length, hc, hgx, hk, w1]
          exact kn (m - 1) _ _ _ (by omega) ⟨rfl, rfl, j + 1, by omega, hk3', by simp [he1]⟩
      · have hjl : j = T.length := by omega
        rw [hjl, List.take_length] at hk3
        have hV := hV hk3
        simp [a13_1, g5, g6, he1, hj, ints_length]
        refine kx _ _ _ _ nofun fun hs' => ?_
        clear kn kx hs hs'
        simp [he1]
        refine aw_loop (W := w13_0) rfl (fun m e ds s1 => ds = [] ∧ s1 = s ∧ ∃ j : Nat, j + m = p.ds.length ∧ AX.ev e (.t 7) = .int .i64 j) p.ds.length ⟨rfl, rfl, 0, by simp, by simp [he1]⟩ ?_
        rintro m e2 ds s1 hs ⟨rfl, rfl, i, hm, g7⟩ K2 kn kx
        have he2 : e2.length = 62 := by simp [hs.1, he1]
        have g1 := hs.ev 1 rfl (v := .int .i64 e0) (by simp [he1, g1])
        have g2 := hs.ev 2 rfl (v := .iptr p.av) (by simp [he1, g2, Pg.av])
        simp only [Pg.av] at g2
        by_cases hi : i < p.ds.length
        · have h41 := hofs i
          have h410 := hofs 0
          rw [hV i hi] at h41
          generalize ofP p 0 e0 = V at *
          have w1 : IntKind.i64.wrap ((i : Int) + 1) = (i : Int) + 1 := wrap_i64 (by omega) (by omega)
          simp [a13_0, g1, g2, g7, he2, hi, h41, h410, w1, Ai.beq_refl]
          exact kn (m - 1) _ _ _ (by omega) ⟨rfl, rfl, i + 1, by omega, by simp [he2]⟩
        · simp [a13_0, g2, g7, he2, hi]
          refine kx _ _ _ _ nofun fun hs' => ?_
          simp
          exact hK _ _ _ (.inl rfl) (by simp) ⟨_, rfl, by simp [he2]⟩
    · have h1' : ¬ (e0 : Int) < 0 := by omega
      have h2' : p.xs.length ≤ e0 := by omega
      have h2'' : (p.xs.length : Int) ≤ (e0 : Int) := by omega
      simp only [Pg.av] at h34 h23
      refine (task_of_aw (N := 62) prim13 fn13 rfl rfl StOk.nil ?_).2
      intro e he ha K hK
      have a0 := ha 0
      have a1 := ha 1
      clear ha
      simp [Pg.av] at a0 a1
      simp [a13, he, a0, a1, alive8_call, h34, h23, h1', h2', h2'']
      exact hK _ _ _ (.inl rfl) (by simp) ⟨_, rfl, by simp [he]⟩
  · have h1' : e' < 0 := by omega
    simp only [Pg.av] at h34 h23
    refine (task_of_aw (N := 62) prim13 fn13 rfl rfl StOk.nil ?_).2
    intro e he ha K hK
    have a0 := ha 0
    have a1 := ha 1
    clear ha
    simp [Pg.av] at a0 a1
    simp [a13, he, a0, a1, alive8_call, h34, h23, h1']
    exact hK _ _ _ (.inl rfl) (by simp) ⟨_, rfl, by simp [he]⟩
end Go.Proofs.YtefildelnccljaaGreat

namespace Go.Proofs.YtefildelnccljaaGreat
open Go Ai
set_option maxRecDepth 100000 in
theorem runsTypesPlaces (avs : List AV) (h : ArgsOf Tryz.prog 8 Tryz.f13.params.toList avs) (hb : AV.bulks avs ≤ 1048576) : ∃ st ds, runL A (.seqc 13 avs) [] = some ⟨.ret, ⟨[.bool true], ds⟩, st⟩ := by
  rw [Tryz.params13] at h
  simp only [ArgsOf] at h
  obtain ⟨a, _, rfl, h1, c, _, rfl, h3, rfl⟩ := h
  obtain ⟨p, rfl, hp⟩ := of_prog h1
  obtain ⟨n, rfl, _⟩ := ofType_int Tryz.underlying3 h3
  simp only [AV.bulks] at hb
  exact ⟨_, _, placesLaw (hp (by omega)) n⟩
end Go.Proofs.YtefildelnccljaaGreat

