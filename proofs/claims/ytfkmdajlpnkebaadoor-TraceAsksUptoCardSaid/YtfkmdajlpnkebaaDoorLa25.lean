/- Chapter 25: TraceBetween and TraceAsks: their runs. No condition. -/
import Derived.Test.YtfkmdajlpnkebaaDoorAt25
namespace Go.Proofs.YtfkmdajlpnkebaaDoor
open Go Ai

/-! What the numbers at a place are like. -/
theorem rangeOf_true : ∀ (its : List (Nat × Int)) (lo hi : Int), ∃ lo' hi', rangeOf (lo, hi, true) its = (lo', hi', true) ∧ lo' ≤ lo ∧ hi ≤ hi' ∧ (∀ p ∈ its, lo' ≤ p.2 ∧ p.2 ≤ hi') ∧ (hi' = hi ∨ ∃ p ∈ its, p.2 = hi')
  | [], lo, hi => ⟨lo, hi, rfl, Int.le_refl _, Int.le_refl _, by simp, .inl rfl⟩
  | p :: its, lo, hi => by
    obtain ⟨lo', hi', h1, h2, h3, h4, h5⟩ := rangeOf_true its (if p.2 < lo then p.2 else lo) (if hi < p.2 then p.2 else hi)
    refine ⟨lo', hi', h1, ?_, ?_, ?_, ?_⟩
    · split at h2 <;> omega
    · split at h3 <;> omega
    · intro q hq
      rcases List.mem_cons.1 hq with rfl | hq
      · split at h2 <;> split at h3 <;> omega
      · exact h4 q hq
    · rcases h5 with h5 | ⟨q, hq, h5⟩
      · split at h5
        · exact .inr ⟨p, by simp, h5.symm⟩
        · exact .inl h5
      · exact .inr ⟨q, by simp [hq], h5⟩
theorem rangeOf_spec {its : List (Nat × Int)} {x : Int × Int × Bool} (h : rangeOf (0, 0, false) its = x) : x.2.2 = !its.isEmpty ∧ (∀ p ∈ its, x.1 ≤ p.2 ∧ p.2 ≤ x.2.1) ∧ (its ≠ [] → ∃ p ∈ its, p.2 = x.2.1) := by
  cases its with
  | nil => subst h; exact ⟨rfl, by simp, by simp⟩
  | cons p its =>
    obtain ⟨lo', hi', h1, h2, h3, h4, h5⟩ := rangeOf_true its p.2 p.2
    have e : rangeOf (0, 0, false) (p :: its) = rangeOf (p.2, p.2, true) its := rfl
    rw [e, h1] at h
    subst h
    refine ⟨rfl, ?_, fun _ => ?_⟩
    · intro q hq
      rcases List.mem_cons.1 hq with rfl | hq
      · exact ⟨h2, h3⟩
      · exact h4 q hq
    · rcases h5 with h5 | ⟨q, hq, h5⟩
      · exact ⟨p, by simp, h5.symm⟩
      · exact ⟨q, by simp [hq], h5⟩
theorem chg_le : ∀ (its : List (Nat × Int)) (n : Int) (last : Option Int), n ≤ chg n last its ∧ chg n last its ≤ n + its.length
  | [], n, none => by simp [chg]
  | [], n, some _ => by simp [chg]
  | p :: its, n, none => by
    have := chg_le its n (some p.2)
    simp only [chg, List.length_cons]; omega
  | p :: its, n, some u => by
    simp only [chg, List.length_cons]
    have h1 := chg_le its n (some p.2)
    have h2 := chg_le its (n + 1) (some p.2)
    by_cases hu : u = p.2
    · simp [hu]; omega
    · simp [hu]; omega
theorem chg_spec (its : List (Nat × Int)) : 0 ≤ chg 0 none its ∧ chg 0 none its ≤ its.length ∧ (its = [] ∨ chg 0 none its < its.length) := by
  cases its with
  | nil => simp [chg]
  | cons p its =>
    have := chg_le its 0 (some p.2)
    simp only [chg, List.length_cons]
    refine ⟨by omega, by omega, .inr (by omega)⟩
theorem whenOf_hit {v : Int} : ∀ {its : List (Nat × Int)}, (∃ p ∈ its, v ≤ p.2) → 0 ≤ whenOf v its
  | p :: its, h => by
    simp only [whenOf]
    split
    · omega
    · rename_i hn
      apply whenOf_hit
      obtain ⟨q, hq, hv⟩ := h
      rcases List.mem_cons.1 hq with rfl | hq
      · exact absurd hv hn
      · exact ⟨q, hq, hv⟩

theorem fn6 : A.fn 6 = some a6 := by kernel_rfl
theorem prim6 : A.prim 6 = none := by kernel_rfl
theorem fn5 : A.fn 5 = some a5 := by kernel_rfl
theorem prim5 : A.prim 5 = none := by kernel_rfl
def w6_0 : List Nat := a6_0.writes
def w5_0 : List Nat := a5_0.writes

theorem law6_run {ms : List Mk} {b : Bool} {en c : Int} (hl : ms.length ≤ 2000000) (hb : ms.length + sizes ms ≤ 10000000) : runL A (.seqc 6 [trAv ms (apOf b) en, .int .i64 c]) [] = some ⟨.ret, ⟨[.bool true], []⟩, []⟩ := by
  refine (task_of_aw (N := 82) prim6 fn6 rfl rfl StOk.nil ?_).2
  intro e he ha K hK
  have a0 := ha 0
  have a1 := ha 1
  clear ha
  simp [trAv] at a0 a1
  have hg := great_call (ms := ms) (ap := apOf b) (en := en) (ns := []) (ap2 := .tight) hl (by simpa [names] using hb) (by simp) (by simp) StOk.nil
  obtain ⟨its, hits⟩ : ∃ its, itsFrom c 0 ms = its := ⟨_, rfl⟩
  obtain ⟨x, hx⟩ : ∃ x, rangeOf (0, 0, false) its = x := ⟨_, rfl⟩
  have h14 := range_call (b := b) (en := en) (c := c) hl StOk.nil (x := x) (by rw [hits]; exact hx)
  have h13 := ref_at_call (b := b) (en := en) (c := c) hl StOk.nil hits
  have h16 := changes_call (b := b) (en := en) (c := c) hl StOk.nil
  have h15 := when_call (b := b) (en := en) (c := c) (v := x.2.1) hl StOk.nil
  rw [hits] at h16 h15
  obtain ⟨s1, s2, s3⟩ := rangeOf_spec hx
  obtain ⟨c0, c1, c2⟩ := chg_spec its
  have hle := itsFrom_len (c := c) (n := 0) (l := ms)
  rw [hits] at hle
  simp [trAv] at hg h14 h13 h16 h15
  cases hgr : great ms [] en with
  | true =>
    simp [a6, he, a0, a1, alive_call, hg, hgr]
    exact hK _ _ _ (.inl rfl) (by simp) ⟨_, rfl, by simp [he]⟩
  | false =>
    simp [a6, he, a0, a1, alive_call, hg, hgr, h14, h13]
    refine aw_loop (W := w6_0) rfl (fun k e ds st' => ds = [] ∧ st' = [] ∧ ∃ i : Nat, i + k = its.length ∧ AX.ev e (.t 10) = .int .i64 i) its.length ⟨rfl, rfl, 0, by omega, by simp [he]⟩ ?_
    rintro k e1 ds st' hs ⟨rfl, rfl, i, hk, g10⟩ K1 kn kx
    have he1 : e1.length = 82 := by simp [hs.1, he]
    have g2 := hs.ev 2 rfl (v := .iptr (trAv ms (apOf b) en)) (by simp [he, trAv])
    have g1 := hs.ev 1 rfl (v := .int .i64 c) (by simp [a1])
    have g5 := hs.ev 5 rfl (v := .int .i64 x.1) (by simp [he])
    have g6 := hs.ev 6 rfl (v := .int .i64 x.2.1) (by simp [he])
    have g7 := hs.ev 7 rfl (v := .bool x.2.2) (by simp [he])
    have g8 := hs.ev 8 rfl (v := .lst 1 (valsAv its) (endAp its.length)) (by simp [he])
    simp only [trAv] at g2
    by_cases hi : i < its.length
    · obtain ⟨p, hp, hp', hd⟩ := aGetAt hi
      have hm := List.mem_of_getElem? hp
      have w2 : IntKind.i64.wrap ((i : Int) + 1) = (i : Int) + 1 := wrap_i64 (by omega) (by omega)
      have hne : its.isEmpty = false := by cases its <;> simp at hi ⊢
      obtain ⟨b1, b2⟩ := s2 p hm
      have b1' : ¬ p.2 < x.1 := by omega
      have b2' : ¬ x.2.1 < p.2 := by omega
      rw [s1, hne] at g7
      simp [a6_0, valsAv, g5, g6, g7, g8, g10, he1, hi, hp', b1', b2', w2]
      exact kn (k - 1) _ _ _ (by omega) ⟨rfl, rfl, i + 1, by omega, by simp [he1]⟩
    · have : i = its.length := by omega
      subst this
      simp [a6_0, valsAv, g8, g10, he1]
      refine kx _ _ _ _ nofun fun hs' => ?_
      by_cases hne : its = []
      · have hx2 : x.2.2 = false := by rw [s1, hne]; rfl
        have hc : chg 0 none its = 0 := by rw [hne]; rfl
        have hlen : its.length = 0 := by rw [hne]; rfl
        rw [hx2] at g7
        simp [g2, g1, g5, g6, g7, g8, he1, h16, h15, valsAv, hc, hlen]
        exact hK _ _ _ (.inl rfl) (by simp) ⟨_, rfl, by simp [he1]⟩
      · have hx2 : x.2.2 = true := by rw [s1]; cases its <;> simp at hne ⊢
        have hc : chg 0 none its < its.length := by rcases c2 with h | h; exact absurd h hne; exact h
        have hlen : ¬ its.length = 0 := by cases its <;> simp at hne ⊢
        have hw : 0 ≤ whenOf x.2.1 its := whenOf_hit (by obtain ⟨p, hp, h⟩ := s3 hne; exact ⟨p, hp, by omega⟩)
        rw [hx2] at g7
        simp [g2, g1, g5, g6, g7, g8, he1, h16, h15, valsAv, hc, c1, hne, hlen, hw]
        exact hK _ _ _ (.inl rfl) (by simp) ⟨_, rfl, by simp [he1]⟩

def prevOf (its : List (Nat × Int)) : Nat → Option Int
  | 0 => none
  | k + 1 => (its[k]?).map (·.2)

set_option maxHeartbeats 4000000 in
theorem law5_0 {its : List (Nat × Int)} {v : Int} {x : Int × Int × Bool} {ap1 ap2 : Ap} (hl : its.length ≤ 2000000) (hx : rangeOf (0, 0, false) its = x) {e : Env} {Q : PostQ} (he : e.length = 128)
    (h7 : AX.ev e (.t 7) = .lst 1 (valsAv its) ap1) (h8 : AX.ev e (.t 8) = .lst 1 (marksAv its) ap2) (h2 : AX.ev e (.t 2) = .int .i64 v) (h12 : AX.ev e (.t 12) = .int .i64 (-1)) (h13 : AX.ev e (.t 13) = .int .i64 0) (h14 : AX.ev e (.t 14) = .int .i64 0) (h15 : AX.ev e (.t 15) = .int .i64 0) (h16 : AX.ev e (.t 16) = .int .i64 0)
    (hQ : ∀ e', Same w5_0 e e' → AX.ev e' (.t 12) = .int .i64 (whenOf v its) → AX.ev e' (.t 13) = .int .i64 (chg 0 none its) → AX.ev e' (.t 14) = .int .i64 x.1 → AX.ev e' (.t 15) = .int .i64 x.2.1 → Q (.exit 0) e' [] []) :
    AW A 5 none (.loop a5_0) e [] [] Q := by
  refine aw_loop (W := w5_0) rfl (fun m e ds st' => ds = [] ∧ st' = [] ∧ ∃ (k : Nat) (a b n wh : Int), k + m = its.length ∧ rangeOf (a, b, decide (0 < k)) (its.drop k) = x ∧ (-1 ≤ wh ∧ (if wh < 0 then whenOf v (its.drop k) else wh) = whenOf v its) ∧
      (0 ≤ n ∧ n ≤ k ∧ chg n (prevOf its k) (its.drop k) = chg 0 none its) ∧ AX.ev e (.t 16) = .int .i64 k ∧ AX.ev e (.t 14) = .int .i64 a ∧ AX.ev e (.t 15) = .int .i64 b ∧ AX.ev e (.t 13) = .int .i64 n ∧ AX.ev e (.t 12) = .int .i64 wh) its.length
    ⟨rfl, rfl, 0, 0, 0, 0, -1, by omega, by simpa using hx, ⟨by omega, by simp⟩, ⟨by omega, by omega, rfl⟩, h16, h14, h15, h13, h12⟩ ?_
  rintro m e1 ds st' hs ⟨rfl, rfl, k, a, b, n, wh, hk, hr, ⟨hw0, hw⟩, ⟨hn0, hn1, hn⟩, g16, g14, g15, g13, g12⟩ K kn kx
  have he1 : e1.length = 128 := by simp [hs.1, he]
  have g7 := hs.ev 7 rfl h7
  have g8 := hs.ev 8 rfl h8
  have g2 := hs.ev 2 rfl h2
  by_cases hi : k < its.length
  · obtain ⟨p, hp, hp', hd⟩ := aGetAt hi
    rw [hd] at hr hw hn
    have w2 : IntKind.i64.wrap ((k : Int) + 1) = (k : Int) + 1 := wrap_i64 (by omega) (by omega)
    have w3 : IntKind.i64.wrap (n + 1) = n + 1 := wrap_i64 (by omega) (by omega)
    have hprev : prevOf its (k + 1) = some p.2 := by simp [prevOf, hp]
    have hwh : (if (if wh < 0 ∧ v ≤ p.2 then (p.1 : Int) else wh) < 0 then whenOf v (its.drop (k + 1)) else (if wh < 0 ∧ v ≤ p.2 then (p.1 : Int) else wh)) = whenOf v its := by
      rw [← hw]
      simp only [whenOf]
      by_cases h1 : wh < 0 <;> by_cases h2 : v ≤ p.2 <;> simp [h1, h2] <;> omega
    have hwh0 : -1 ≤ (if wh < 0 ∧ v ≤ p.2 then (p.1 : Int) else wh) := by split <;> omega
    by_cases hk0 : k = 0
    · subst hk0
      simp at g16
      by_cases h1 : wh < 0 <;> by_cases h2 : v ≤ p.2
      all_goals
        simp [a5_0, valsAv, marksAv, g7, g8, g2, g16, g14, g15, g13, g12, he1, hi, hp', h1, h2, w3]
        refine kn (m - 1) _ _ _ (by omega) ⟨rfl, rfl, 1, p.2, p.2, n, (if wh < 0 ∧ v ≤ p.2 then (p.1 : Int) else wh), by omega, hr, ⟨hwh0, hwh⟩, ⟨hn0, by omega, by rw [hprev]; exact hn⟩, by simp [he1]; rfl, by simp [he1], by simp [he1], by simp [he1, g13], by simp [he1, h1, h2, g12]⟩
    · have hj : k - 1 < its.length := by omega
      obtain ⟨q, hq, hq', _⟩ := aGetAt hj
      have w4 : IntKind.i64.wrap ((k : Int) - 1) = ((k - 1 : Nat) : Int) := by rw [wrap_i64 (by omega) (by omega)]; omega
      have hk1 : 0 < k := by omega
      have hpr : prevOf its k = some q.2 := by
        obtain ⟨j, rfl⟩ : ∃ j, k = j + 1 := ⟨k - 1, by omega⟩
        simp only [Nat.add_sub_cancel] at hq
        simp [prevOf, hq]
      rw [hpr] at hn
      have hr2 : rangeOf ((if p.2 < a then p.2 else a), (if b < p.2 then p.2 else b), decide (0 < k + 1)) (its.drop (k + 1)) = x := by
        simp only [hk1, decide_true] at hr
        simp only [Nat.succ_pos, decide_true]
        exact hr
      by_cases h5 : q.2 = p.2
      · by_cases h3 : p.2 < a <;> by_cases h4 : b < p.2 <;> by_cases h1 : wh < 0 <;> by_cases h2 : v ≤ p.2
        all_goals
          simp [a5_0, valsAv, marksAv, g7, g8, g2, g16, g14, g15, g13, g12, he1, hi, hp', hj, hq', h1, h2, h3, h4, h5, w2, w3, w4, hk0, hk1]
          refine kn (m - 1) _ _ _ (by omega) ⟨rfl, rfl, k + 1, (if p.2 < a then p.2 else a), (if b < p.2 then p.2 else b), n, (if wh < 0 ∧ v ≤ p.2 then (p.1 : Int) else wh), by omega, hr2, ⟨hwh0, hwh⟩, ⟨by omega, by omega, by rw [hprev, ← hn]; simp [chg, h5]⟩, by simp [he1], by simp [he1, h3, g14], by simp [he1, h4, g15], by simp [he1, g13], by simp [he1, h1, h2, g12]⟩
      · have h5' : ¬ p.2 = q.2 := fun h => h5 h.symm
        by_cases h3 : p.2 < a <;> by_cases h4 : b < p.2 <;> by_cases h1 : wh < 0 <;> by_cases h2 : v ≤ p.2
        all_goals
          simp [a5_0, valsAv, marksAv, g7, g8, g2, g16, g14, g15, g13, g12, he1, hi, hp', hj, hq', h1, h2, h3, h4, h5', w2, w3, w4, hk0, hk1]
          refine kn (m - 1) _ _ _ (by omega) ⟨rfl, rfl, k + 1, (if p.2 < a then p.2 else a), (if b < p.2 then p.2 else b), n + 1, (if wh < 0 ∧ v ≤ p.2 then (p.1 : Int) else wh), by omega, hr2, ⟨hwh0, hwh⟩, ⟨by omega, by omega, by rw [hprev, ← hn]; simp [chg, h5]⟩, by simp [he1], by simp [he1, h3, g14], by simp [he1, h4, g15], by simp [he1, g13], by simp [he1, h1, h2, g12]⟩
  · have : k = its.length := by omega
    subst this
    simp [rangeOf] at hr
    simp [whenOf] at hw
    simp at hn
    simp [a5_0, valsAv, g7, g16, he1]
    refine kx _ _ _ _ nofun fun hs' => ?_
    refine hQ _ hs' ?_ ?_ ?_ ?_
    · simp [g12]
      split at hw <;> omega
    · have hn' : n = chg 0 none its := by rw [← hn]; cases prevOf its its.length <;> rfl
      simp [g13, hn']
    · rw [← hr]; simp [g14]
    · rw [← hr]; simp [g15]

theorem law5_run {ms : List Mk} {b : Bool} {en c v : Int} (hl : ms.length ≤ 2000000) (hb : ms.length + sizes ms ≤ 10000000) : runL A (.seqc 5 [trAv ms (apOf b) en, .int .i64 c, .int .i64 v]) [] = some ⟨.ret, ⟨[.bool true], []⟩, []⟩ := by
  refine (task_of_aw (N := 128) prim5 fn5 rfl rfl StOk.nil ?_).2
  intro e he ha K hK
  have a0 := ha 0
  have a1 := ha 1
  have a2 := ha 2
  clear ha
  simp [trAv] at a0 a1 a2
  have hg := great_call (ms := ms) (ap := apOf b) (en := en) (ns := []) (ap2 := .tight) hl (by simpa [names] using hb) (by simp) (by simp) StOk.nil
  obtain ⟨its, hits⟩ : ∃ its, itsFrom c 0 ms = its := ⟨_, rfl⟩
  obtain ⟨x, hx⟩ : ∃ x, rangeOf (0, 0, false) its = x := ⟨_, rfl⟩
  have h14 := range_call (b := b) (en := en) (c := c) hl StOk.nil (x := x) (by rw [hits]; exact hx)
  have h13 := ref_at_call (b := b) (en := en) (c := c) hl StOk.nil hits
  have h16 := changes_call (b := b) (en := en) (c := c) hl StOk.nil
  have h15 := when_call (b := b) (en := en) (c := c) (v := v) hl StOk.nil
  rw [hits] at h16 h15
  obtain ⟨s1, s2, s3⟩ := rangeOf_spec hx
  have hle := itsFrom_len (c := c) (n := 0) (l := ms)
  rw [hits] at hle
  simp [trAv] at hg h14 h13 h16 h15
  cases hgr : great ms [] en with
  | true =>
    simp [a5, he, a0, a1, alive_call, hg, hgr]
    exact hK _ _ _ (.inl rfl) (by simp) ⟨_, rfl, by simp [he]⟩
  | false =>
    simp [a5, he, a0, a1, alive_call, hg, hgr, h14, h13]
    refine law5_0 (its := its) (v := v) (x := x) (ap1 := endAp its.length) (ap2 := endAp its.length) (by omega) hx (by simp [he]) (by simp [he]) (by simp [he]) (by simp [a2]) (by simp [he]) (by simp [he]) (by simp [he]) (by simp [he]) (by simp [he]) ?_
    intro e1 hs g12 g13 g14 g15
    have he1 : e1.length = 128 := by simp [hs.1, he]
    have g3 := hs.ev 3 rfl (v := .iptr (trAv ms (apOf b) en)) (by simp [he, trAv])
    have g1 := hs.ev 1 rfl (v := .int .i64 c) (by simp [a1])
    have g2 := hs.ev 2 rfl (v := .int .i64 v) (by simp [a2])
    have g9 := hs.ev 9 rfl (v := .int .i64 x.1) (by simp [he])
    have g10 := hs.ev 10 rfl (v := .int .i64 x.2.1) (by simp [he])
    have g11 := hs.ev 11 rfl (v := .bool x.2.2) (by simp [he])
    have g7 := hs.ev 7 rfl (v := .lst 1 (valsAv its) (endAp its.length)) (by simp [he])
    simp only [trAv] at g3
    have hx2 : x.2.2 = decide (0 < its.length) := by rw [s1]; cases its <;> simp
    rw [hx2] at g11
    simp [g3, g1, g2, g9, g10, g11, g7, g12, g13, g14, g15, he1, h16, h15, valsAv]
    exact hK _ _ _ (.inl rfl) (by simp) ⟨_, rfl, by simp [he1]⟩
end Go.Proofs.YtfkmdajlpnkebaaDoor
