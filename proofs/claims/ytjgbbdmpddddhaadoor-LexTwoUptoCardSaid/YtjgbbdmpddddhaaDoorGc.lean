/- Chapter 03: the lexer, run. No condition. -/
import Derived.Test.YtjgbbdmpddddhaaDoorGb
import Derived.Test.YtjgbbdmpddddhaaDoorEd
set_option linter.unusedVariables false
set_option linter.unusedSimpArgs false
namespace Go.Proofs.YtjgbbdmpddddhaaDoor
open Go Ai

theorem fn38 : A.fn 38 = some a38 := by kernel_rfl
theorem prim38 : A.prim 38 = none := by kernel_rfl
theorem fn39 : A.fn 39 = some a39 := by kernel_rfl
theorem prim39 : A.prim 39 = none := by kernel_rfl
theorem fn40 : A.fn 40 = some a40 := by kernel_rfl
theorem prim40 : A.prim 40 = none := by kernel_rfl
theorem fn41 : A.fn 41 = some a41 := by kernel_rfl
theorem prim41 : A.prim 41 = none := by kernel_rfl
theorem fn42 : A.fn 42 = some a42 := by kernel_rfl
theorem prim42 : A.prim 42 = none := by kernel_rfl
theorem fn37 : A.fn 37 = some a37 := by kernel_rfl
theorem prim37 : A.prim 37 = none := by kernel_rfl
theorem fn24 : A.fn 24 = some a24 := by kernel_rfl
theorem prim24 : A.prim 24 = none := by kernel_rfl
theorem fn43 : A.fn 43 = some a43 := by kernel_rfl
theorem prim43 : A.prim 43 = none := by kernel_rfl

theorem byte_eq {c : UInt8} {n : Nat} (hn : n < 256) : (c = UInt8.ofNat n) ↔ c.toNat = n := by
  constructor
  · rintro rfl; simp only [UInt8.toNat_ofNat']; omega
  · intro h; apply UInt8.toNat_inj.1; rw [h]; simp only [UInt8.toNat_ofNat']; omega
theorem all_bytes {p : UInt8 → Prop} (h : ∀ n : Fin 256, p (UInt8.ofNat n)) (c : UInt8) : p c := by
  have := h ⟨c.toNat, c.toNat_lt⟩
  simpa using this

theorem gap_call {c : UInt8} {st : St} (hst : StOk st) : runL A (.call 38 [byteV c]) st = some ⟨.ret, ⟨[.bool (gapB c)], []⟩, st⟩ := by
  refine (task_of_aw (N := 17) prim38 fn38 rfl rfl hst ?_).1
  intro e he ha K hK
  have a0 := ha 0
  clear ha
  simp [byteV] at a0
  have b1 : ∀ n : Nat, n < 256 → (c.toNat = n ↔ c = UInt8.ofNat n) := fun n hn => (byte_eq hn).symm
  have i1 : ∀ n : Nat, ((c.toNat : Int) = (n : Int)) ↔ c.toNat = n := fun n => by omega
  by_cases h1 : c.toNat = 32
  · have : gapB c = true := by simp [gapB, (b1 32 (by decide)).1 h1]
    simp [a38, he, a0, h1]
    exact hK _ _ _ (.inl rfl) (by simp) ⟨_, rfl, by simp [he, this, AV.still]⟩
  · have h1' : ¬ (c.toNat : Int) = 32 := by omega
    by_cases h2 : c.toNat = 9
    · have : gapB c = true := by simp [gapB, (b1 9 (by decide)).1 h2]
      simp [a38, he, a0, h1, h1', h2]
      exact hK _ _ _ (.inl rfl) (by simp) ⟨_, rfl, by simp [he, this, AV.still]⟩
    · have h2' : ¬ (c.toNat : Int) = 9 := by omega
      by_cases h3 : c.toNat = 10
      · have : gapB c = true := by simp [gapB, (b1 10 (by decide)).1 h3]
        simp [a38, he, a0, h1, h1', h2, h2', h3]
        exact hK _ _ _ (.inl rfl) (by simp) ⟨_, rfl, by simp [he, this, AV.still]⟩
      · have h3' : ¬ (c.toNat : Int) = 10 := by omega
        have hd : gapB c = decide (c.toNat = 13) := by
          have e1 : ¬ c = 32 := fun h => h1 ((b1 32 (by decide)).2 h)
          have e2 : ¬ c = 9 := fun h => h2 ((b1 9 (by decide)).2 h)
          have e3 : ¬ c = 10 := fun h => h3 ((b1 10 (by decide)).2 h)
          simp only [gapB, e1, e2, e3]
          have := b1 13 (by decide)
          rw [Bool.eq_iff_iff]; simp [this]
        simp [a38, he, a0, h1, h1', h2, h2', h3, h3']
        refine hK _ _ _ (.inl rfl) (by simp) ⟨_, rfl, ?_⟩
        simp [he, hd, AV.still]
        omega
def nlB (c : UInt8) : Bool := !decide (c = 10)
theorem nl_call {c : UInt8} {st : St} (hst : StOk st) : runL A (.call 39 [byteV c]) st = some ⟨.ret, ⟨[.bool (nlB c)], []⟩, st⟩ := by
  refine (task_of_aw (N := 5) prim39 fn39 rfl rfl hst ?_).1
  intro e he ha K hK
  have a0 := ha 0
  clear ha
  simp [byteV] at a0
  have b1 := byte_eq (c := c) (n := 10) (by decide)
  have b1' : c = 10 ↔ c.toNat = 10 := b1
  by_cases h : c.toNat = 10
  · simp [a39, he, a0, h]
    exact hK _ _ _ (.inl rfl) (by simp) ⟨_, rfl, by simp [he, nlB, b1'.2 h, AV.still]⟩
  · have h' : ¬ (c.toNat : Int) = 10 := by omega
    have h2 : ¬ c = 10 := fun hh => h (b1'.1 hh)
    simp [a39, he, a0, h, h']
    exact hK _ _ _ (.inl rfl) (by simp) ⟨_, rfl, by simp [he, nlB, h2, AV.still]⟩
theorem dig_call {c : UInt8} {st : St} (hst : StOk st) : runL A (.call 42 [byteV c]) st = some ⟨.ret, ⟨[.bool (digB c)], []⟩, st⟩ := by
  refine (task_of_aw (N := 9) prim42 fn42 rfl rfl hst ?_).1
  intro e he ha K hK
  have a0 := ha 0
  clear ha
  simp [byteV] at a0
  by_cases h1 : 48 ≤ c.toNat
  · have h1' : (48 : Int) ≤ (c.toNat : Int) := by omega
    by_cases h2 : c.toNat ≤ 57
    · have h2' : (c.toNat : Int) ≤ 57 := by omega
      have : digB c = true := digB_iff.2 ⟨h1, h2⟩
      simp [a42, he, a0, h1, h1', h2, h2']
      exact hK _ _ _ (.inl rfl) (by simp) ⟨_, rfl, by simp [he, this, AV.still]⟩
    · have h2' : ¬ (c.toNat : Int) ≤ 57 := by omega
      have : digB c = false := by rw [← Bool.not_eq_true, digB_iff]; omega
      simp [a42, he, a0, h1, h1', h2, h2']
      exact hK _ _ _ (.inl rfl) (by simp) ⟨_, rfl, by simp [he, this, AV.still]⟩
  · have h1' : ¬ (48 : Int) ≤ (c.toNat : Int) := by omega
    have : digB c = false := by rw [← Bool.not_eq_true, digB_iff]; omega
    simp [a42, he, a0, h1, h1']
    exact hK _ _ _ (.inl rfl) (by simp) ⟨_, rfl, by simp [he, this, AV.still]⟩
set_option maxRecDepth 100000 in
theorem or32 (c : UInt8) : IntKind.u8.wrap ((BitVec.ofInt IntKind.u8.bits (c.toNat : Int) ||| BitVec.ofInt IntKind.u8.bits 32).toNat : Int) = ((c ||| 32).toNat : Int) :=
  all_bytes (p := fun c => IntKind.u8.wrap ((BitVec.ofInt IntKind.u8.bits (c.toNat : Int) ||| BitVec.ofInt IntKind.u8.bits 32).toNat : Int) = ((c ||| 32).toNat : Int)) (by decide +kernel) c
theorem letB_or (c : UInt8) : letB c = ((decide (97 ≤ (c ||| 32).toNat) && decide ((c ||| 32).toNat ≤ 122)) || decide (c.toNat = 95)) :=
  all_bytes (p := fun c => letB c = ((decide (97 ≤ (c ||| 32).toNat) && decide ((c ||| 32).toNat ≤ 122)) || decide (c.toNat = 95))) (by decide +kernel) c
theorem let_call {c : UInt8} {st : St} (hst : StOk st) : runL A (.call 40 [byteV c]) st = some ⟨.ret, ⟨[.bool (letB c)], []⟩, st⟩ := by
  refine (task_of_aw (N := 15) prim40 fn40 rfl rfl hst ?_).1
  intro e he ha K hK
  have a0 := ha 0
  clear ha
  simp [byteV] at a0
  have ho := or32 c
  have hl := letB_or c
  obtain ⟨q, hq⟩ : ∃ q : Nat, q = (c ||| 32).toNat := ⟨_, rfl⟩
  rw [← hq] at ho hl
  simp at ho
  by_cases h1 : 97 ≤ q
  · have h1' : (97 : Int) ≤ (q : Int) := by omega
    by_cases h2 : q ≤ 122
    · have h2' : (q : Int) ≤ 122 := by omega
      simp [h1, h2] at hl
      simp [a40, he, a0, ho, h1, h1', h2, h2']
      exact hK _ _ _ (.inl rfl) (by simp) ⟨_, rfl, by simp [he, hl, AV.still]⟩
    · have h2' : ¬ (q : Int) ≤ 122 := by omega
      simp [h1, h2] at hl
      simp [a40, he, a0, ho, h1, h1', h2, h2']
      exact hK _ _ _ (.inl rfl) (by simp) ⟨_, rfl, by simp [he, hl, AV.still]; omega⟩
  · have h1' : ¬ (97 : Int) ≤ (q : Int) := by omega
    simp [h1] at hl
    simp [a40, he, a0, ho, h1, h1']
    exact hK _ _ _ (.inl rfl) (by simp) ⟨_, rfl, by simp [he, hl, AV.still]; omega⟩
theorem inn_call {c : UInt8} {st : St} (hst : StOk st) : runL A (.call 41 [byteV c]) st = some ⟨.ret, ⟨[.bool (innB c)], []⟩, st⟩ := by
  refine (task_of_aw (N := 9) prim41 fn41 rfl rfl hst ?_).1
  intro e he ha K hK
  have a0 := ha 0
  clear ha
  simp at a0
  have h1 := let_call (c := c) hst
  have h2 := dig_call (c := c) hst
  cases hl : letB c with
  | true =>
    rw [hl] at h1
    simp [a41, he, a0, h1]
    exact hK _ _ _ (.inl rfl) (by simp) ⟨_, rfl, by simp [he, innB, hl, AV.still]⟩
  | false =>
    rw [hl] at h1
    simp [a41, he, a0, h1, h2]
    exact hK _ _ _ (.inl rfl) (by simp) ⟨_, rfl, by simp [he, innB, hl, AV.still]⟩

def w37_0 : List Nat := a37_0.writes
theorem run_call {p : UInt8 → Bool} {g : FuncId} {s : List UInt8} {i : Nat} (hs : s.length ≤ 1000000000) {st : St} (hst : StOk st) (hp : ∀ c, runL A (.call g [byteV c]) st = some ⟨.ret, ⟨[.bool (p c)], []⟩, st⟩) (hi : i ≤ s.length) :
    runL A (.call 37 [.str s, .int .i64 i, .func (.func g) [] []]) st = some ⟨.ret, ⟨[.int .i64 (i + ((s.drop i).takeWhile p).length : Nat)], []⟩, st⟩ := by
  refine (task_of_aw (N := 21) prim37 fn37 rfl rfl hst ?_).1
  intro e he ha K hK
  have a0 := ha 0
  have a1 := ha 1
  have a2 := ha 2
  clear ha
  simp at a0 a1 a2
  simp [a37, he, a0]
  refine aw_loop (W := w37_0) rfl (fun m e ds st' => ds = [] ∧ st' = st ∧ ∃ j : Nat, j + m = s.length ∧ AX.ev e (.t 1) = .int .i64 j ∧ j + ((s.drop j).takeWhile p).length = i + ((s.drop i).takeWhile p).length) (s.length - i)
    ⟨rfl, rfl, i, by omega, by simp [a1], rfl⟩ ?_
  rintro m e1 ds st' hs' ⟨rfl, rfl, j, hm, g1, hj⟩ K1 kn kx
  have he1 : e1.length = 21 := by simp [hs'.1, he]
  have g0 := hs'.ev 0 rfl (v := .str s) (by simp [a0])
  have g2 := hs'.ev 2 rfl (v := .func (.func g) [] []) (by simp [a2])
  cases m with
  | zero =>
    have : j = s.length := by omega
    subst this
    simp at hj
    simp [a37_0, g0, g1, he1]
    refine kx _ _ _ _ nofun fun hs' => ?_
    simp [g1, he1]
    exact hK _ _ _ (.inl rfl) (by simp) ⟨_, rfl, by simp [he1, AV.still]; omega⟩
  | succ m =>
    have hlt : j < s.length := by omega
    have hdr : s.drop j = s[j] :: s.drop (j + 1) := List.drop_eq_getElem_cons hlt
    obtain ⟨c, hc⟩ : ∃ c, c = s[j] := ⟨_, rfl⟩
    rw [hdr, ← hc, List.takeWhile_cons] at hj
    have hpc := hp c
    have hn : ¬ (j : Int) < 0 := by omega
    have w1 : IntKind.i64.wrap ((j : Int) + 1) = (j : Int) + 1 := wrap_i64 (by omega) (by omega)
    cases hb : p c with
    | false =>
      rw [hb] at hpc
      simp [hb] at hj
      simp [a37_0, g0, g1, g2, he1, hlt, hn, ← hc, hpc]
      refine kx _ _ _ _ nofun fun hs' => ?_
      simp [g1, he1]
      exact hK _ _ _ (.inl rfl) (by simp) ⟨_, rfl, by simp [he1, AV.still]; omega⟩
    | true =>
      rw [hb] at hpc
      simp [hb] at hj
      simp [a37_0, g0, g1, g2, he1, hlt, hn, ← hc, hpc, w1]
      exact kn m _ _ _ (by omega) ⟨rfl, rfl, j + 1, by omega, by simp [he1], by omega⟩

/-! Gaps. -/
theorem skip_gaps : ∀ l : List UInt8, skipN false l = (l.takeWhile gapB).length + skipN false (l.drop (l.takeWhile gapB).length)
  | [] => by simp [skipN]
  | c :: l => by
    rw [List.takeWhile_cons]
    by_cases hg : gapB c = true
    · have h35 : ¬ c = 35 := by intro h; subst h; revert hg; decide
      rw [if_pos hg, skipN, if_neg h35, if_pos hg, List.length_cons, List.drop_succ_cons, skip_gaps l]
      omega
    · rw [if_neg hg]; simp
theorem skip_com : ∀ l : List UInt8, skipN true l = (l.takeWhile nlB).length + skipN false (l.drop (l.takeWhile nlB).length)
  | [] => by simp [skipN]
  | c :: l => by
    rw [List.takeWhile_cons]
    by_cases hc : c = 10
    · subst hc
      have : nlB 10 = false := by decide
      rw [this]
      simp [skipN, gapB]
    · have : nlB c = true := by simp [nlB, hc]
      rw [this, if_pos rfl, skipN, List.length_cons, List.drop_succ_cons]
      have h := skip_com l
      rw [show (!decide (c = 10)) = true by simp [hc], h]; omega
theorem skip_35 (l : List UInt8) : skipN false (35 :: l) = ((35 :: l).takeWhile nlB).length + skipN false ((35 :: l).drop ((35 :: l).takeWhile nlB).length) := by
  have : nlB 35 = true := by decide
  rw [skipN, if_pos rfl, List.takeWhile_cons, this, if_pos rfl, List.length_cons, List.drop_succ_cons, skip_com]; omega
theorem tw_le (p : UInt8 → Bool) (s : List UInt8) {i : Nat} (h : i ≤ s.length) : i + ((s.drop i).takeWhile p).length ≤ s.length := by
  have := takeWhile_len p (s.drop i)
  rw [List.length_drop] at this; omega
def w24_0 : List Nat := a24_0.writes
theorem skip_call {s : List UInt8} {i : Nat} (hs : s.length ≤ 1000000000) {st : St} (hst : StOk st) (hi : i ≤ s.length) :
    runL A (.call 24 [.str s, .int .i64 i]) st = some ⟨.ret, ⟨[.int .i64 (i + skipN false (s.drop i) : Nat)], []⟩, st⟩ := by
  refine (task_of_aw (N := 22) prim24 fn24 rfl rfl hst ?_).1
  intro e he ha K hK
  have a0 := ha 0
  have a1 := ha 1
  clear ha
  simp at a0 a1
  simp [a24, he, a0]
  refine aw_loop (W := w24_0) rfl (fun m e ds st' => ds = [] ∧ st' = st ∧ ∃ j : Nat, j + m = s.length ∧ AX.ev e (.t 1) = .int .i64 j ∧ j + skipN false (s.drop j) = i + skipN false (s.drop i)) (s.length - i)
    ⟨rfl, rfl, i, by omega, by simp [a1], rfl⟩ ?_
  rintro m e1 ds st' hs' ⟨rfl, rfl, j, hm, g1, hj⟩ K1 kn kx
  have he1 : e1.length = 22 := by simp [hs'.1, he]
  have g0 := hs'.ev 0 rfl (v := .str s) (by simp [a0])
  have r1 := run_call (p := gapB) (g := 38) (s := s) (i := j) hs hst (fun c => gap_call hst) (by omega)
  have hle1 := tw_le gapB s (i := j) (by omega)
  have hg := skip_gaps (s.drop j)
  rw [List.drop_drop] at hg
  obtain ⟨j1, hj1⟩ : ∃ j1, j1 = j + ((s.drop j).takeWhile gapB).length := ⟨_, rfl⟩
  rw [← hj1] at r1 hle1 hg
  by_cases hend : s.length ≤ j1
  · have : j1 = s.length := by omega
    have hend' : (s.length : Int) ≤ (j1 : Int) := by omega
    have hz : skipN false (s.drop j1) = 0 := by rw [this]; simp [skipN]
    simp [a24_0, g0, g1, he1, r1, hend, hend']
    refine kx _ _ _ _ nofun fun hs' => ?_
    exact hK _ _ _ (.inl rfl) (by simp) ⟨_, rfl, by simp [he1, AV.still]; omega⟩
  · have hlt : j1 < s.length := by omega
    have hend' : ¬ (s.length : Int) ≤ (j1 : Int) := by omega
    have hn : ¬ (j1 : Int) < 0 := by omega
    have hdr : s.drop j1 = s[j1] :: s.drop (j1 + 1) := List.drop_eq_getElem_cons hlt
    obtain ⟨c, hc⟩ : ∃ c, c = s[j1] := ⟨_, rfl⟩
    rw [← hc] at hdr
    have b35 : c = 35 ↔ c.toNat = 35 := byte_eq (c := c) (n := 35) (by decide)
    by_cases h35 : c = 35
    · have h35' : c.toNat = 35 := b35.1 h35
      have r2 := run_call (p := nlB) (g := 39) (s := s) (i := j1) hs hst (fun c => nl_call hst) (by omega)
      have hle2 := tw_le nlB s (i := j1) (by omega)
      have hk := skip_35 (s.drop (j1 + 1))
      rw [← h35, ← hdr, List.drop_drop] at hk
      have hpos : 0 < ((s.drop j1).takeWhile nlB).length := by
        rw [hdr, List.takeWhile_cons, h35, show nlB 35 = true by decide]; simp
      obtain ⟨j2, hj2⟩ : ∃ j2, j2 = j1 + ((s.drop j1).takeWhile nlB).length := ⟨_, rfl⟩
      rw [← hj2] at r2 hle2 hk
      simp [a24_0, g0, g1, he1, r1, hend, hend', hlt, hn, ← hc, byteV, h35', r2]
      exact kn (s.length - j2) _ _ _ (by omega) ⟨rfl, rfl, j2, by omega, by simp [he1], by omega⟩
    · have h35' : ¬ c.toNat = 35 := fun h => h35 (b35.2 h)
      have h35'' : ¬ (c.toNat : Int) = 35 := by omega
      have hng : gapB c = false := by
        have hd : (s.drop j).drop ((s.drop j).takeWhile gapB).length = c :: s.drop (j1 + 1) := by rw [List.drop_drop, ← hj1]; exact hdr
        exact takeWhile_stop hd
      have hz : skipN false (s.drop j1) = 0 := by rw [hdr, skipN, if_neg h35, if_neg (by rw [hng]; simp)]
      simp [a24_0, g0, g1, he1, r1, hend, hend', hlt, hn, ← hc, byteV, h35', h35'']
      refine kx _ _ _ _ nofun fun hs' => ?_
      exact hK _ _ _ (.inl rfl) (by simp) ⟨_, rfl, by simp [he1, AV.still]; omega⟩

theorem number_call {s : List UInt8} {i : Nat} (hs : s.length ≤ 1000000000) {st : St} (hst : StOk st) (hi : i ≤ s.length) :
    runL A (.call 43 [.str s, .int .i64 i]) st = some ⟨.ret, ⟨[.int .i64 (i + numLen (s.drop i) : Nat)], []⟩, st⟩ := by
  refine (task_of_aw (N := 32) prim43 fn43 rfl rfl hst ?_).1
  intro e he ha K hK
  have a0 := ha 0
  have a1 := ha 1
  clear ha
  simp at a0 a1
  have r1 := run_call (p := digB) (g := 42) (s := s) (i := i) hs hst (fun c => dig_call hst) hi
  have hle1 := tw_le digB s hi
  have hnum : numLen (s.drop i) = numAfter ((s.drop i).takeWhile digB).length (s.drop (i + ((s.drop i).takeWhile digB).length)) := by
    rw [numLen, List.drop_drop]
  obtain ⟨a, ha'⟩ : ∃ a, a = ((s.drop i).takeWhile digB).length := ⟨_, rfl⟩
  obtain ⟨j, hj⟩ : ∃ j, j = i + a := ⟨_, rfl⟩
  rw [← ha'] at r1 hle1 hnum
  rw [← hj] at r1 hle1 hnum
  have w1 : IntKind.i64.wrap ((j : Int) + 1) = (j : Int) + 1 := wrap_i64 (by omega) (by omega)
  have fin : ∀ (k : Nat) (E : Env), k = i + numLen (s.drop i) → (∃ vs, resultsA st E a43.results = some vs ∧ oneOf vs = .int .i64 k) → K .ret E [] st := by
    rintro k E hk ⟨vs, h1, h2⟩
    refine hK _ _ _ (.inl rfl) (by simp) ⟨vs, h1, ?_⟩
    rw [h2, hk]; simp [AV.still]
  by_cases h1 : j + 1 < s.length
  · have h1' : (j : Int) + 1 < (s.length : Int) := by omega
    have hlt : j < s.length := by omega
    have hn : ¬ (j : Int) < 0 := by omega
    have hn1 : ¬ (j : Int) + 1 < 0 := by omega
    have ht1 : ((j : Int) + 1).toNat = j + 1 := by omega
    have hdr : s.drop j = s[j] :: s[j + 1] :: s.drop (j + 1 + 1) := by
      rw [List.drop_eq_getElem_cons hlt, List.drop_eq_getElem_cons h1]
    obtain ⟨c, hc⟩ : ∃ c, c = s[j] := ⟨_, rfl⟩
    obtain ⟨d, hd⟩ : ∃ d, d = s[j + 1] := ⟨_, rfl⟩
    have hdr2 : s.drop (j + 1) = d :: s.drop (j + 1 + 1) := by rw [hd]; exact List.drop_eq_getElem_cons h1
    rw [← hc, ← hd] at hdr
    rw [hdr] at hnum
    simp only [numAfter] at hnum
    have b46 : c = 46 ↔ c.toNat = 46 := byte_eq (c := c) (n := 46) (by decide)
    by_cases h46 : c = 46
    · have h46' : c.toNat = 46 := b46.1 h46
      rw [if_pos h46, ← hdr2] at hnum
      have hdc := dig_call (c := d) hst
      cases hdd : digB d with
      | true =>
        rw [hdd] at hdc
        rw [hdd, if_pos rfl] at hnum
        have r2 := run_call (p := digB) (g := 42) (s := s) (i := j + 1) hs hst (fun c => dig_call hst) (by omega)
        simp at r2
        simp [a43, he, a0, a1, r1, w1, h1', hlt, hn, hn1, ht1, ← hc, ← hd, byteV, h46', h1]
        simp [byteV] at hdc
        simp [he, a0, hdc, r2, w1]
        exact fin (j + 1 + ((s.drop (j + 1)).takeWhile digB).length) _ (by omega) ⟨_, rfl, by simp [he]⟩
      | false =>
        rw [hdd] at hdc
        rw [hdd] at hnum
        simp at hnum
        simp [byteV] at hdc
        simp [a43, he, a0, a1, r1, w1, h1', hlt, hn, hn1, ht1, ← hc, ← hd, byteV, h46', h1, hdc]
        exact fin j _ (by omega) ⟨_, rfl, by simp [he]⟩
    · have h46' : ¬ c.toNat = 46 := fun h => h46 (b46.2 h)
      have h46'' : ¬ (c.toNat : Int) = 46 := by omega
      rw [if_neg h46] at hnum
      simp [a43, he, a0, a1, r1, w1, h1', hlt, hn, ← hc, byteV, h46', h46'']
      exact fin j _ (by omega) ⟨_, rfl, by simp [he]⟩
  · have h1' : ¬ (j : Int) + 1 < (s.length : Int) := by omega
    have hnum2 : numLen (s.drop i) = a := by
      rw [hnum]
      cases hz : s.drop j with
      | nil => rfl
      | cons c z =>
        have hlen := congrArg List.length hz
        simp at hlen
        have : z = [] := List.eq_nil_of_length_eq_zero (by omega)
        subst this
        simp [numAfter]
    simp [a43, he, a0, a1, r1, w1, h1']
    exact fin j _ (by omega) ⟨_, rfl, by simp [he]⟩
end Go.Proofs.YtjgbbdmpddddhaaDoor

namespace Go.Proofs.YtjgbbdmpddddhaaDoor
open Go Ai

theorem prim33 : A.prim 33 = some (pureP fieldsA) := rfl
theorem prim55 : A.prim 55 = some (pureP indexByteA) := rfl
theorem fn21 : A.fn 21 = some a21 := by kernel_rfl
theorem prim21 : A.prim 21 = none := by kernel_rfl
theorem fn13 : A.fn 13 = some a13 := by kernel_rfl
theorem prim13 : A.prim 13 = none := by kernel_rfl
theorem fn45 : A.fn 45 = some a45 := by kernel_rfl
theorem prim45 : A.prim 45 = none := by kernel_rfl
theorem fn54 : A.fn 54 = some a54 := by kernel_rfl
theorem prim54 : A.prim 54 = none := by kernel_rfl
theorem fn66 : A.fn 66 = some a66 := by kernel_rfl
theorem prim66 : A.prim 66 = none := by kernel_rfl
theorem fn25 : A.fn 25 = some a25 := by kernel_rfl
theorem prim25 : A.prim 25 = none := by kernel_rfl

def allT : List UInt8 := [102, 117, 110, 32, 110, 111, 100, 101, 32, 104, 121, 98, 114, 105, 100, 32, 108, 101, 116, 32, 100, 101, 114, 32, 105, 110, 105, 116, 32, 114, 101, 115, 101, 116, 32, 111, 110, 32, 117, 112, 32, 109, 101, 109, 32, 109, 111, 100, 101, 32, 102, 114, 111, 109, 32, 103, 111, 116, 111, 32, 111, 117, 116, 32, 105, 102, 32, 116, 104, 101, 110, 32, 101, 108, 115, 101, 32, 112, 114, 101, 32, 102, 98, 121, 32, 116, 114, 117, 101, 32, 102, 97, 108, 115, 101, 32, 110, 111, 116, 32, 97, 110, 100, 32, 111, 114, 32, 105, 115, 32, 115, 113, 114, 116, 32, 114, 101, 116, 117, 114, 110, 32, 115, 101, 116, 32, 102, 105, 120, 32, 98, 111, 111, 108]
set_option maxRecDepth 100000 in
theorem fields_all : Lib.fields allT = wordsL := by decide +kernel
def twosL : List (List UInt8) := [[45, 62], [60, 61], [61, 61]]
theorem fields_two : Lib.fields [45, 62, 32, 60, 61, 32, 61, 61] = twosL := by decide +kernel
theorem fields_all_call {st : St} : runL A (.call 33 [.str allT]) st = some ⟨.ret, ⟨[.lst 1 (wordsL.map AV.str) .tight], []⟩, st⟩ :=
  runL_pure prim33 (by
    have h : allT.length < 4294967281 ∧ (allT.all fun b => decide (b.toNat < 128)) = true := by decide +kernel
    simp only [fieldsA, if_pos h, fields_all])
theorem fields_two_call {st : St} : runL A (.call 33 [.str [45, 62, 32, 60, 61, 32, 61, 61]]) st = some ⟨.ret, ⟨[.lst 1 (twosL.map AV.str) .tight], []⟩, st⟩ :=
  runL_pure prim33 (by
    have h : ([45, 62, 32, 60, 61, 32, 61, 61] : List UInt8).length < 4294967281 ∧ (([45, 62, 32, 60, 61, 32, 61, 61] : List UInt8).all fun b => decide (b.toNat < 128)) = true := by decide +kernel
    simp only [fieldsA, if_pos h, fields_two])

/-! Words. -/
def esOf (ws : List (List UInt8)) : List (AV × AV) := ws.map fun w => (.str w, .bool true)
theorem find_in {x : List UInt8} : ∀ (ws : List (List UInt8)) (n : Nat), x ∈ ws → ∃ k, findKey (.str x) (esOf ws) n = some (some (k, .bool true))
  | [], n, h => by simp at h
  | w :: ws, n, h => by
    show ∃ k, findKey (.str x) ((.str w, .bool true) :: esOf ws) n = _
    simp only [findKey, sameKey]
    by_cases hx : x = w
    · subst hx; exact ⟨n, by simp⟩
    · have hb : (x == w) = false := by rw [beq_eq_false_iff_ne]; exact hx
      rw [hb]
      rw [List.mem_cons] at h
      rcases h with h | h
      · exact absurd h hx
      · exact find_in ws (n + 1) h
theorem find_out {x : List UInt8} : ∀ (ws : List (List UInt8)) (n : Nat), x ∉ ws → findKey (.str x) (esOf ws) n = some none
  | [], n, _ => rfl
  | w :: ws, n, h => by
    show findKey (.str x) ((.str w, .bool true) :: esOf ws) n = _
    rw [List.mem_cons, not_or] at h
    have hb : (x == w) = false := by rw [beq_eq_false_iff_ne]; exact h.1
    simp only [findKey, sameKey, hb]
    exact find_out ws (n + 1) h.2
def wEs : List (AV × AV) := esOf wordsL
def w21_0 : List Nat := a21_0.writes
theorem words_nodup : wordsL.Nodup := by decide +kernel
theorem words_call {st : St} : runL A (.call 21 []) st = some ⟨.ret, ⟨[.map st.length], []⟩, st ++ [.map wEs]⟩ := by
  refine (task_of_aw_keep (N := 15) prim21 fn21 rfl rfl ?_).1
  intro e he ha K hK
  clear ha
  have hf := fields_all_call (st := st ++ [.map []])
  simp only [allT] at hf
  simp [a21, he, hf]
  refine aw_loop (W := w21_0) rfl (fun m e ds st' => ds = [] ∧ ∃ i : Nat, i + m = wordsL.length ∧ AX.ev e (.t 7) = .int .i64 i ∧ st' = st ++ [.map (esOf (wordsL.take i))]) wordsL.length
    ⟨rfl, 0, by simp, by simp [he], by simp [esOf]⟩ ?_
  rintro m e1 ds st' hs' ⟨rfl, i, hm, g7, rfl⟩ K1 kn kx
  have he1 : e1.length = 15 := by simp [hs'.1, he]
  have g1 := hs'.ev 1 rfl (v := .map st.length) (by simp [he])
  have g5 := hs'.ev 5 rfl (v := .lst 1 (wordsL.map AV.str) .tight) (by simp [he])
  have g6 := hs'.ev 6 rfl (v := .int .i64 wordsL.length) (by simp [he])
  have hwl : wordsL.length = 30 := rfl
  cases m with
  | zero =>
    have : i = wordsL.length := by omega
    subst this
    rw [List.take_length]
    simp [a21_0, g6, g7, he1]
    refine kx _ _ _ _ nofun fun hs' => ?_
    simp [g1, he1]
    exact hK _ _ (.inl rfl) ⟨_, rfl, by simp [he1]⟩
  | succ m =>
    have hi : i < wordsL.length := by omega
    have hi' : (i : Int) < (wordsL.length : Int) := by omega
    have hn : ¬ (i : Int) < 0 := by omega
    have w1 : IntKind.i64.wrap ((i : Int) + 1) = (i : Int) + 1 := wrap_i64 (by omega) (by omega)
    obtain ⟨w, hw⟩ : ∃ w, w = wordsL[i] := ⟨_, rfl⟩
    have hnot : w ∉ wordsL.take i := by
      intro hmem
      have hsp : wordsL.take i ++ wordsL.drop i = wordsL := List.take_append_drop i wordsL
      have hnd := words_nodup
      rw [← hsp, List.nodup_append] at hnd
      exact hnd.2.2 w hmem w (by rw [List.drop_eq_getElem_cons hi, hw]; exact List.mem_cons_self ..) rfl
    have hfk := find_out (x := w) (wordsL.take i) 0 hnot
    have htk : esOf (wordsL.take (i + 1)) = esOf (wordsL.take i) ++ [(.str w, .bool true)] := by
      rw [show wordsL.take (i + 1) = wordsL.take i ++ [w] by rw [hw]; simp]
      simp [esOf]
    simp [a21_0, g1, g5, g6, g7, he1, hi, hi', hn, ← hw, hfk, keyKind, w1]
    exact kn m _ _ _ (by omega) ⟨rfl, i + 1, by omega, by simp [he1], by rw [htk]⟩
theorem find_words (x : List UInt8) : (∃ k, findKey (.str x) wEs 0 = some (some (k, .bool true)) ∧ wordB x = true) ∨ findKey (.str x) wEs 0 = some none ∧ wordB x = false := by
  by_cases h : x ∈ wordsL
  · obtain ⟨k, hk⟩ := find_in wordsL 0 h
    exact .inl ⟨k, hk, by simp [wordB, h]⟩
  · exact .inr ⟨find_out wordsL 0 h, by simp [wordB, h]⟩
theorem word_call {s : List UInt8} {st : St} (hst : StOk st) : runL A (.call 13 [.str s]) st = some ⟨.ret, ⟨[.bool (wordB s)], []⟩, st⟩ := by
  refine (task_of_aw (N := 6) prim13 fn13 rfl rfl hst ?_).1
  intro e he ha K hK
  have a0 := ha 0
  clear ha
  simp at a0
  have hw := words_call (st := st)
  rcases find_words s with ⟨k, hf, hb⟩ | ⟨hf, hb⟩
  · simp [a13, he, a0, hw, keyKind, mapOf, hf]
    exact hK _ _ _ (.inl rfl) (by simp) ⟨_, rfl, by simp [he, hb, AV.still]⟩
  · simp [a13, he, a0, hw, keyKind, mapOf, hf]
    exact hK _ _ _ (.inl rfl) (by simp) ⟨_, rfl, by simp [he, hb, AV.still]⟩

/-! Signs. -/
def preB (w s : List UInt8) : Bool := decide (w.length ≤ s.length) && decide (s.take w.length = w)
theorem pre_call {s w : List UInt8} {st : St} (hst : StOk st) : runL A (.call 54 [.str s, .str w]) st = some ⟨.ret, ⟨[.bool (preB w s)], []⟩, st⟩ := by
  have h66 : runL A (.call 66 [.str s, .str w]) st = some ⟨.ret, ⟨[.bool (preB w s)], []⟩, st⟩ := by
    refine (task_of_aw (N := 18) prim66 fn66 rfl rfl hst ?_).1
    intro e he ha K hK
    have a0 := ha 0
    have a1 := ha 1
    clear ha
    simp at a0 a1
    by_cases h : w.length ≤ s.length
    · have h' : (w.length : Int) ≤ (s.length : Int) := by omega
      simp [a66, he, a0, a1, h, h', bound]
      exact hK _ _ _ (.inl rfl) (by simp) ⟨_, rfl, by simp [he, preB, h, AV.still]⟩
    · have h' : ¬ (w.length : Int) ≤ (s.length : Int) := by omega
      simp [a66, he, a0, a1, h, h']
      exact hK _ _ _ (.inl rfl) (by simp) ⟨_, rfl, by simp [he, preB, h, AV.still]⟩
  refine (task_of_aw (N := 8) prim54 fn54 rfl rfl hst ?_).1
  intro e he ha K hK
  have a0 := ha 0
  have a1 := ha 1
  clear ha
  simp at a0 a1
  simp [a54, he, a0, a1, h66]
  exact hK _ _ _ (.inl rfl) (by simp) ⟨_, rfl, by simp [he, AV.still]⟩
theorem ones_index (c : UInt8) : decide (0 ≤ Lib.indexByte ones c) = decide (c ∈ ones) :=
  all_bytes (p := fun c => decide (0 ≤ Lib.indexByte ones c) = decide (c ∈ ones)) (by decide +kernel) c
theorem pre_two {c d : UInt8} {r : List UInt8} {a b : UInt8} : preB [a, b] (c :: d :: r) = (decide (c = a) && decide (d = b)) := by
  simp [preB]
theorem pre_one {c : UInt8} {a b : UInt8} : preB [a, b] [c] = false := by simp [preB]
def w45_0 : List Nat := a45_0.writes
/-- The first of the signs of two bytes. -/
def firstTwo (s : List UInt8) (i : Nat) : Option (List UInt8) := (twosL.drop i).find? fun w => preB w s
theorem sign_call {c : UInt8} {l : List UInt8} {st : St} (hst : StOk st) :
    runL A (.call 45 [.str (c :: l)]) st = some ⟨.ret, ⟨[.str ((c :: l).take (signLen (c :: l)))], []⟩, st⟩ := by
  refine (task_of_aw (N := 22) prim45 fn45 rfl rfl hst ?_).1
  intro e he ha K hK
  have a0 := ha 0
  clear ha
  simp at a0
  have hf := fields_two_call (st := st)
  simp [a45, he, a0, hf]
  have fin : ∀ E : Env, (∃ vs, resultsA st E a45.results = some vs ∧ oneOf vs = .str ((c :: l).take (signLen (c :: l)))) → K .ret E [] st := by
    rintro E ⟨vs, h1, h2⟩
    refine hK _ _ _ (.inl rfl) (by simp) ⟨vs, h1, ?_⟩
    rw [h2]; simp [AV.still]
  have hsome : ∀ w, firstTwo (c :: l) 0 = some w → (c :: l).take (signLen (c :: l)) = w := by
    intro w hw
    cases l with
    | nil => simp [firstTwo, twosL, pre_one] at hw
    | cons d r =>
      simp only [firstTwo, twosL, List.drop_zero, List.find?_cons, pre_two, List.find?_nil] at hw
      have h45 : ∀ a b : UInt8, (decide (c = a) && decide (d = b)) = true → c = a ∧ d = b := by
        intro a b h; simpa using h
      split at hw
      · rename_i h; obtain ⟨rfl, rfl⟩ := h45 _ _ h; cases hw; simp [signLen, twoB]
      · split at hw
        · rename_i h; obtain ⟨rfl, rfl⟩ := h45 _ _ h; cases hw; simp [signLen, twoB]
        · split at hw
          · rename_i h; obtain ⟨rfl, rfl⟩ := h45 _ _ h; cases hw; simp [signLen, twoB]
          · cases hw
  have hnone : firstTwo (c :: l) 0 = none → (c :: l).take (signLen (c :: l)) = if c ∈ ones then [c] else [] := by
    intro hw
    cases l with
    | nil => simp only [signLen]; split <;> simp
    | cons d r =>
      simp only [firstTwo, twosL, List.drop_zero, List.find?_cons, pre_two, List.find?_nil] at hw
      have : twoB c d = false := by
        split at hw
        · cases hw
        · rename_i h1
          split at hw
          · cases hw
          · rename_i h2
            split at hw
            · cases hw
            · rename_i h3
              simp only [twoB, h1, h2, h3]; rfl
      simp only [signLen, this]
      split
      · rename_i h; cases h
      · split <;> simp
  refine aw_loop (W := w45_0) rfl (fun m e ds st' => ds = [] ∧ st' = st ∧ ∃ i : Nat, i + m = 3 ∧ AX.ev e (.t 7) = .int .i64 i ∧ firstTwo (c :: l) i = firstTwo (c :: l) 0) 3
    ⟨rfl, rfl, 0, by simp, by simp [he], rfl⟩ ?_
  rintro m e1 ds st' hs' ⟨rfl, rfl, i, hm, g7, hft⟩ K1 kn kx
  have he1 : e1.length = 22 := by simp [hs'.1, he]
  have g0 := hs'.ev 0 rfl (v := .str (c :: l)) (by simp [a0])
  have g5 := hs'.ev 5 rfl (v := .lst 1 (twosL.map AV.str) .tight) (by simp [he])
  have g6 := hs'.ev 6 rfl (v := .int .i64 3) (by simp [he, twosL])
  cases m with
  | zero =>
    have : i = 3 := by omega
    subst this
    have hw := hnone (by rw [← hft]; rfl)
    have hix : runL A (.call 55 [.str [40, 41, 123, 125, 44, 59, 58, 61, 43, 45, 42, 47, 60, 46], byteV c]) st' = some ⟨.ret, ⟨[.int .i64 (Lib.indexByte ones c)], []⟩, st'⟩ :=
      runL_pure prim55 (by
        have := c.toNat_lt
        simp [indexByteA, byteV]
        exact ⟨by omega, by rfl⟩)
    simp [byteV] at hix
    have hon := ones_index c
    simp [a45_0, g6, g7, he1]
    refine kx _ _ _ _ nofun fun hs' => ?_
    by_cases hc : c ∈ ones
    · rw [if_pos hc] at hw
      have h0 : 0 ≤ Lib.indexByte ones c := by simpa [hc] using hon
      have hle1 : (1 : Int) ≤ (l.length : Int) + 1 := by omega
      simp [g0, he1, byteV, hix, h0, bound, hle1]
      exact fin _ ⟨_, rfl, by rw [hw]; simp [he1]⟩
    · rw [if_neg hc] at hw
      have h0 : ¬ 0 ≤ Lib.indexByte ones c := by simpa [hc] using hon
      simp [g0, he1, byteV, hix, h0]
      exact fin _ ⟨_, rfl, by rw [hw]; simp [he1]⟩
  | succ m =>
    have hi : i < 3 := by omega
    have hi' : (i : Int) < 3 := by omega
    have hi2 : i < twosL.length := hi
    have hn : ¬ (i : Int) < 0 := by omega
    have w1 : IntKind.i64.wrap ((i : Int) + 1) = (i : Int) + 1 := wrap_i64 (by omega) (by omega)
    obtain ⟨w, hw⟩ : ∃ w, w = twosL[i] := ⟨_, rfl⟩
    have hp := pre_call (s := c :: l) (w := w) hst
    have hdr : firstTwo (c :: l) i = if preB w (c :: l) then some w else firstTwo (c :: l) (i + 1) := by
      rw [firstTwo, List.drop_eq_getElem_cons hi2, List.find?_cons, ← hw]
      cases preB w (c :: l) <;> rfl
    cases hb : preB w (c :: l) with
    | true =>
      rw [hb] at hp hdr
      have hr := hsome w (by rw [← hft, hdr]; rfl)
      simp [a45_0, g0, g5, g6, g7, he1, hi, hi', hi2, hn, ← hw, hp]
      refine kx _ _ _ _ nofun fun hs' => ?_
      exact fin _ ⟨_, rfl, by rw [hr]; simp [he1]⟩
    | false =>
      rw [hb] at hp hdr
      simp [a45_0, g0, g5, g6, g7, he1, hi, hi', hi2, hn, ← hw, hp, w1]
      exact kn m _ _ _ (by omega) ⟨rfl, rfl, i + 1, by omega, by simp [he1], by rw [← hft, hdr]; simp⟩

/-! A token. -/
def Tok.av (t : Tok) : AV := .agg [.int .i64 t.kind, .str t.text, .int .i64 t.v, .int .i64 t.pos]
theorem tok_low (n : Nat) (t : Tok) : AV.lowB n t.av = true := by simp [Tok.av, AV.lowB, AV.lowsB]
theorem valP_parse (o : Option (List UInt8 × List UInt8)) : parseV o = .tup [.int .i64 (match o with
    | none => (0, false)
    | some p => if 9223372036854775807 < sizeN p then (0, false) else ((sizeN p : Int), true) : Int × Bool).1, .bool (match o with
    | none => (0, false)
    | some p => if 9223372036854775807 < sizeN p then (0, false) else ((sizeN p : Int), true) : Int × Bool).2] := by
  cases o with
  | none => rfl
  | some p => simp only [parseV]; split <;> rfl
theorem dec_call {x : List UInt8} (hx : x.length ≤ 1000000000) {st : St} (hst : StOk st) :
    runL A (.call 44 [.str x]) st = some ⟨.ret, ⟨[.tup [.int .i64 (valP x).1, .bool (valP x).2]], []⟩, st⟩ := by
  rw [parse_call hx hst, valP_parse]; rfl

theorem take_tw (p : UInt8 → Bool) : ∀ l : List UInt8, l.take (l.takeWhile p).length = l.takeWhile p
  | [] => rfl
  | a :: l => by
    rw [List.takeWhile_cons]
    split
    · simp [take_tw p l]
    · rfl
theorem numAfter_le : ∀ (a : Nat) (z : List UInt8), numAfter a z ≤ a + z.length
  | a, [] => by simp [numAfter]
  | a, [d] => by simp only [numAfter]; split <;> simp
  | a, d :: c :: r => by
    have := takeWhile_len digB (c :: r)
    simp only [numAfter]
    simp only [List.length_cons] at this ⊢
    split
    · split <;> omega
    · omega
theorem numLen_le (l : List UInt8) : numLen l ≤ l.length := by
  have h1 := numAfter_le (l.takeWhile digB).length (l.drop (l.takeWhile digB).length)
  have h2 := takeWhile_len digB l
  rw [List.length_drop] at h1
  unfold numLen; omega
set_option maxHeartbeats 2000000 in
theorem token_call {s : List UInt8} {i r : Nat} (hs : s.length ≤ 1000000) {st : St} (hst : StOk st) (hi : i < s.length) (hr : st[r]? = some (.map wEs)) :
    runL A (.call 25 [.str s, .int .i64 i, .map r]) st = some ⟨.ret, ⟨[.tup [(tokOf (s.drop i) i).1.av, .bool (tokOf (s.drop i) i).2]], []⟩, st⟩ := by
  refine (task_of_aw (N := 69) prim25 fn25 rfl rfl hst ?_).1
  intro e he ha K hK
  have a0 := ha 0
  have a1 := ha 1
  have a2 := ha 2
  clear ha
  simp at a0 a1 a2
  have hrl := (List.getElem?_eq_some_iff.1 hr).1
  have hdr : s.drop i = s[i] :: s.drop (i + 1) := List.drop_eq_getElem_cons hi
  obtain ⟨c, hc⟩ : ∃ c, c = s[i] := ⟨_, rfl⟩
  rw [← hc] at hdr
  have hn : ¬ (i : Int) < 0 := by omega
  have st1 : StOk (st ++ [.cells none [.int .i64 0, .str [], .int .i64 0, .int .i64 0]]) := hst.snoc rfl
  have hcell : ∀ a b c d, StOk (st ++ [.cells none [.int .i64 0, .str [], .int .i64 0, .int .i64 0], .cells none [.int .i64 a, .str b, .int .i64 c, .int .i64 d]]) := fun a b c d => by
    have := st1.snoc (o := .cells none [.int .i64 a, .str b, .int .i64 c, .int .i64 d]) rfl
    simpa using this
  have hlet := let_call (c := c) (hcell 0 [] 0 i)
  simp [byteV] at hlet
  have hr' : ∀ xs, (st ++ xs)[r]? = some (.map wEs) := fun xs => by rw [List.getElem?_append_left hrl]; exact hr
  have fin : ∀ (E : Env) (k : Nat) (x : List UInt8) (v : Int) (ok : Bool) (st' : St), st' = st ++ [.cells none [.int .i64 k, .str x, .int .i64 v, .int .i64 i], .cells none [.int .i64 k, .str x, .int .i64 v, .int .i64 i]] →
      E.length = 69 → AX.ev E (.t 6) = .ptr st.length 0 → AX.ev E (.t 7) = .bool ok → tokOf (s.drop i) i = (⟨k, x, v, i⟩, ok) → K .ret E [] st' := by
    rintro E k x v ok st' rfl hE h6 h7 htok
    refine hK _ _ _ (.inl rfl) (by simp) ⟨[.agg [.int .i64 k, .str x, .int .i64 v, .int .i64 i], .bool ok], ?_, ?_⟩
    · have h7' : E[7]'(by omega) = .bool ok := by simpa [AX.ev, List.getD_eq_getElem?_getD, hE] using h7
      have h6' : E[6]'(by omega) = .ptr st.length 0 := by simpa [AX.ev, List.getD_eq_getElem?_getD, hE] using h6
      simp [a25, resultsA, h6, h6', h7', hE, resA, takeVar]
    · rw [htok]; simp [oneOf, AV.still, AV.stills, Tok.av]
  rw [hdr, tokOf_cons, ← hdr] at fin
  cases hl : letB c with
  | true =>
    rw [hl] at hlet
    simp only [hl, if_true] at fin
    have hrun := run_call (p := innB) (g := 41) (s := s) (i := i) (by omega) (hcell 0 [] 0 i) (fun c => inn_call (hcell 0 [] 0 i)) (by omega)
    have hle := tw_le innB s (i := i) (by omega)
    have htake : (s.take (i + ((s.drop i).takeWhile innB).length)).drop i = (s.drop i).takeWhile innB := by
      rw [List.drop_take, Nat.add_sub_cancel_left]
      exact take_tw innB (s.drop i)
    obtain ⟨j, hj⟩ : ∃ j, j = i + ((s.drop i).takeWhile innB).length := ⟨_, rfl⟩
    obtain ⟨x, hx⟩ : ∃ x, x = (s.drop i).takeWhile innB := ⟨_, rfl⟩
    have hij : (i : Int) ≤ (j : Int) := by omega
    have hij' : i ≤ j := by omega
    have hjs : (j : Int) ≤ (s.length : Int) := by rw [hj]; omega
    have hjs' : j ≤ s.length := by rw [hj]; exact hle
    rw [← hj] at hrun htake
    rw [← hx] at htake fin
    by_cases h16 : x.length ≤ 16
    · have h16' : (x.length : Int) ≤ 16 := by omega
      rcases find_words x with ⟨k, hf, hb⟩ | ⟨hf, hb⟩
      · simp [a25, he, a0, a1, a2, hi, hn, ← hc, byteV, hlet, hrun, takeVar, putCells, bound, hij, hij', hjs, hjs', htake, hr', hf, keyKind, mapOf, h16, h16']
        exact fin _ 3 x 0 true _ (by simp) (by simp [he]) (by simp [he]) (by simp [he]) (by simp [hb, h16])
      · simp [a25, he, a0, a1, a2, hi, hn, ← hc, byteV, hlet, hrun, takeVar, putCells, bound, hij, hij', hjs, hjs', htake, hr', hf, keyKind, mapOf, h16, h16']
        exact fin _ 1 x 0 true _ (by simp) (by simp [he]) (by simp [he]) (by simp [he]) (by simp [hb, h16])
    · have h16' : ¬ (x.length : Int) ≤ 16 := by omega
      rcases find_words x with ⟨k, hf, hb⟩ | ⟨hf, hb⟩
      · simp [a25, he, a0, a1, a2, hi, hn, ← hc, byteV, hlet, hrun, takeVar, putCells, bound, hij, hij', hjs, hjs', htake, hr', hf, keyKind, mapOf, h16, h16']
        exact fin _ 3 x 0 false _ (by simp) (by simp [he]) (by simp [he]) (by simp [he]) (by simp [hb, h16])
      · simp [a25, he, a0, a1, a2, hi, hn, ← hc, byteV, hlet, hrun, takeVar, putCells, bound, hij, hij', hjs, hjs', htake, hr', hf, keyKind, mapOf, h16, h16']
        exact fin _ 1 x 0 false _ (by simp) (by simp [he]) (by simp [he]) (by simp [he]) (by simp [hb, h16])
  | false =>
    rw [hl] at hlet
    have hdig := dig_call (c := c) (hcell 0 [] 0 i)
    simp [byteV] at hdig
    simp only [hl, Bool.false_eq_true, if_false] at fin
    cases hd : digB c with
    | true =>
      rw [hd] at hdig
      simp only [hd, if_true] at fin
      have hnum := number_call (s := s) (i := i) (by omega) (hcell 0 [] 0 i) (by omega)
      have hle : i + numLen (s.drop i) ≤ s.length := by
        have := numLen_le (s.drop i)
        rw [List.length_drop] at this; omega
      have htake : (s.take (i + numLen (s.drop i))).drop i = (s.drop i).take (numLen (s.drop i)) := by
        rw [List.drop_take, Nat.add_sub_cancel_left]
      obtain ⟨j, hj⟩ : ∃ j, j = i + numLen (s.drop i) := ⟨_, rfl⟩
      obtain ⟨x, hx⟩ : ∃ x, x = (s.drop i).take (numLen (s.drop i)) := ⟨_, rfl⟩
      have hij : (i : Int) ≤ (j : Int) := by omega
      have hij' : i ≤ j := by omega
      have hjs : (j : Int) ≤ (s.length : Int) := by rw [hj]; omega
      have hjs' : j ≤ s.length := by rw [hj]; exact hle
      rw [← hj] at hnum htake
      rw [← hx] at htake fin
      have hxl : x.length ≤ 1000000000 := by rw [hx, List.length_take]; omega
      have hdec := fun a b c d => dec_call (x := x) hxl (hcell a b c d)
      simp [a25, he, a0, a1, a2, hi, hn, ← hc, byteV, hlet, hdig, hnum, takeVar, putCells, bound, hij, hij', hjs, hjs', htake, hdec]
      exact fin _ 2 x (valP x).1 (valP x).2 _ (by simp) (by simp [he]) (by simp [he]) (by simp [he]) rfl
    | false =>
      rw [hd] at hdig
      simp only [hd, Bool.false_eq_true, if_false] at fin
      have hsg := fun a b c' d => sign_call (c := c) (l := s.drop (i + 1)) (hcell a b c' d)
      have htake : (s.take s.length).drop i = c :: s.drop (i + 1) := by rw [List.take_length, hdr]
      obtain ⟨x, hx⟩ : ∃ x, x = (c :: s.drop (i + 1)).take (signLen (c :: s.drop (i + 1))) := ⟨_, rfl⟩
      rw [← hdr] at hx
      simp only [← hdr, ← hx] at hsg fin
      have hle : (i : Int) ≤ (s.length : Int) := by omega
      have hle' : i ≤ s.length := by omega
      have hxn : decide (signLen (s.drop i) ≠ 0) = !decide (x = []) := by
        rw [Bool.eq_iff_iff]
        simp [hx, hdr]
      rw [hxn] at fin
      simp [a25, he, a0, a1, a2, hi, hn, ← hc, byteV, hlet, hdig, takeVar, putCells, bound, hle, hle', hsg]
      exact fin _ 4 x 0 (!decide (x = [])) _ (by simp) (by simp [he]) (by simp [he]) (by simp [he]) rfl
end Go.Proofs.YtjgbbdmpddddhaaDoor

namespace Go.Proofs.YtjgbbdmpddddhaaDoor
open Go Ai

theorem fn16 : A.fn 16 = some a16 := by kernel_rfl
theorem prim16 : A.prim 16 = none := by kernel_rfl
theorem fn23 : A.fn 23 = some a23 := by kernel_rfl
theorem prim23 : A.prim 23 = none := by kernel_rfl
theorem fn9 : A.fn 9 = some a9 := by kernel_rfl
theorem prim9 : A.prim 9 = none := by kernel_rfl

theorem tokens_call {s : List UInt8} {st : St} (hst : StOk st) : runL A (.call 16 [.str s]) st = some ⟨.ret, ⟨[.func (.func 23) [] [.iptr (.str s)]], []⟩, st⟩ := by
  refine (task_of_aw (N := 4) prim16 fn16 rfl rfl hst ?_).1
  intro e he ha K hK
  have a0 := ha 0
  clear ha
  simp at a0
  simp [a16, he, a0]
  exact hK _ _ _ (.inl rfl) (by simp) ⟨_, rfl, by simp [he, AV.still, AV.lowB, AV.lowsB]⟩

/-- Where the token behind this one begins. -/
def nextAt (s : List UInt8) (i : Nat) : Nat := i + (tokOf (s.drop i) i).1.text.length + skipN false (s.drop (i + (tokOf (s.drop i) i).1.text.length))
def endTok (n : Nat) : Tok := ⟨5, [], 0, n⟩
theorem low_wEs (n : Nat) : AObj.lowB n (.map wEs) = true := by
  simp only [AObj.lowB, List.all_eq_true]
  intro x hx
  simp only [wEs, esOf, List.mem_map] at hx
  obtain ⟨w, _, rfl⟩ := hx
  rfl
def w23_0 : List Nat := a23_0.writes
theorem toks_run {s : List UInt8} {r : Nat} (hs : s.length ≤ 1000000) {st0 : St} (J : Nat → St → Prop) (S : St → Prop)
    (hok : ∀ i st, J i st → StOk st)
    (hJ : ∀ i st o, J i st → AObj.lowB (st.length + 1) o = true → J i (st ++ [o]))
    (hround : ∀ i st, i < s.length → J i st → ∃ b st', runL A (.round r [(tokOf (s.drop i) i).1.av, .bool (tokOf (s.drop i) i).2]) st = some ⟨.ret, ⟨[.bool b], []⟩, st'⟩ ∧ Steady st0.length st st' ∧
      (b = true → (tokOf (s.drop i) i).2 = true ∧ J (nextAt s i) st') ∧ (b = false → S st'))
    (hend : ∀ st, J s.length st → ∃ b st', runL A (.round r [(endTok s.length).av, .bool true]) st = some ⟨.ret, ⟨[.bool b], []⟩, st'⟩ ∧ S st')
    (h0 : J (skipN false s) st0) :
    ∃ st3, runL A (.seqc 23 [.func (.yield r) [] [], .iptr (.str s)]) st0 = some ⟨.ret, ⟨[.tup []], []⟩, st3⟩ ∧ S st3 := by
  refine Exists.elim (task_of_aw_keep_ex (A := A) (f := 23) (F := a23) (args := [.func (.yield r) [] [], .iptr (.str s)]) (v := .tup []) (N := 38) (st := st0) S prim23 fn23 rfl rfl ?_) fun st3 h => ⟨st3, h.2.2, h.1⟩
  intro e he ha K hK
  have a0 := ha 0
  have a1 := ha 1
  clear ha
  simp at a0 a1
  have hw := words_call (st := st0)
  have h1 := hJ _ _ _ h0 (low_wEs _)
  have hsk := skip_call (s := s) (i := 0) (by omega) (hok _ _ h1) (by omega)
  simp at hsk
  have hsl := skipN_le false s
  simp [a23, he, a0, a1, hw, hsk]
  refine aw_loop (W := w23_0) rfl (fun m e ds st0' => ds = [] ∧ ∃ i : Nat, i + m = s.length ∧ J i st0' ∧ st0'[st0.length]? = some (.map wEs) ∧ AX.ev e (.t 4) = .int .i64 i) (s.length - skipN false s)
    ⟨rfl, skipN false s, by omega, h1, by simp, by simp [he]⟩ ?_
  rintro m e1 ds st' hs' ⟨rfl, i, hm, hJi, hmap, g4⟩ K1 kn kx
  have he1 : e1.length = 38 := by simp [hs'.1, he]
  have g0 := hs'.ev 0 rfl (v := .func (.yield r) [] []) (by simp [he, a0])
  have g1 := hs'.ev 1 rfl (v := .iptr (.str s)) (by simp [he, a1])
  have g3 := hs'.ev 3 rfl (v := .map st0.length) (by simp [he])
  by_cases hi : i < s.length
  · have htok := token_call (s := s) (i := i) hs (hok _ _ hJi) hi hmap
    obtain ⟨x, hx⟩ : ∃ x, x = (tokOf (s.drop i) i).1 := ⟨_, rfl⟩
    have hJ2 := hJ _ _ (.cells none x.av.cells) hJi (by have := tok_low (st'.length + 1) x; simpa [Tok.av, AObj.lowB, AV.lowB] using this)
    obtain ⟨b, st2, hr, hsd, hb1, hb2⟩ := hround _ _ hi hJ2
    rw [← hx] at hr htok
    simp [Tok.av] at hr htok
    have hmap2 : st2[st0.length]? = some (.map wEs) := hsd _ _ (Nat.le_refl _) nofun (Steady.app 0 _ _ _ _ (Nat.zero_le _) nofun hmap)
    have hlen : st0.length ≤ st'.length := by have := (List.getElem?_eq_some_iff.1 hmap).1; omega
    have hc : st2[st'.length]? = some (.cells none x.av.cells) := hsd _ _ hlen nofun (by simp)
    simp [Tok.av] at hc
    cases b with
    | false =>
      simp [a23_0, g0, g1, g3, g4, he1, hi, htok, hr]
      refine kx _ _ _ _ nofun fun hs' => ?_
      exact hK _ _ _ (.inl rfl) (hb2 rfl) ⟨_, rfl, rfl⟩
    | true =>
      obtain ⟨hb, hJn⟩ := hb1 rfl
      have hle : i + x.text.length ≤ s.length := by
        have hd := List.drop_eq_getElem_cons hi
        have := tokOf_le (c := s[i]) (l := s.drop (i + 1)) (p := i) (x := x) (by rw [← hd, hx, ← hb])
        rw [← hd, List.length_drop] at this; omega
      have hsk := skip_call (s := s) (i := i + x.text.length) (by omega) (hok _ _ hJn) hle
      simp at hsk
      have w1 : IntKind.i64.wrap ((i : Int) + x.text.length) = (i : Int) + x.text.length := wrap_i64 (by omega) (by omega)
      have hnx : nextAt s i = i + x.text.length + skipN false (s.drop (i + x.text.length)) := by rw [nextAt, hx]
      have hpos : 0 < x.text.length := by
        have hd := List.drop_eq_getElem_cons hi
        have := tokOf_pos (c := s[i]) (l := s.drop (i + 1)) (pos := i) (by rw [← hd]; exact hb)
        rwa [← hd, ← hx] at this
      have hsl := skipN_le false (s.drop (i + x.text.length))
      rw [List.length_drop] at hsl
      rw [hnx] at hJn
      simp [a23_0, g0, g1, g3, g4, he1, hi, htok, hr, hc, w1, hsk]
      exact kn (s.length - (i + x.text.length + skipN false (s.drop (i + x.text.length)))) _ _ _ (by omega) ⟨rfl, _, by omega, hJn, hmap2, by simp [he1]⟩
  · have : i = s.length := by omega
    subst this
    obtain ⟨b, st2, hr, hS⟩ := hend _ hJi
    simp [Tok.av, endTok] at hr
    simp [a23_0, g0, g1, g4, he1]
    refine kx _ _ _ _ nofun fun hs' => ?_
    simp [g0, g1, he1, putCells, hr]
    exact hK _ _ _ (.inr rfl) hS ⟨_, rfl, rfl⟩
end Go.Proofs.YtjgbbdmpddddhaaDoor

namespace Go.Proofs.YtjgbbdmpddddhaaDoor
open Go Ai

def outAv (us : List Tok) (ap : Ap) : AV := if us = [] then .lst 1 [] .tight else .lst 4 (us.map Tok.av) ap
theorem outAv_cells (us : List Tok) (ap : Ap) : (outAv us ap).cells = [outAv us ap] := by unfold outAv; split <;> rfl
theorem outAv_isCell (us : List Tok) (ap : Ap) : (outAv us ap).isCell = true := by unfold outAv; split <;> rfl
attribute [simp] outAv_cells outAv_isCell
theorem appendA_nil {m m' bytes : Nat} {ty : Option TypeId} {st : St} {ap : Ap} {y : AV} : appendA m bytes ty st (.lst m' [] ap) y = appendA m bytes ty st (.lst m [] ap) y := by
  simp [appendA, AV.asLst]
theorem own_app_out {st : St} {b : Nat} {us : List Tok} {ap : Ap} {x : Tok} (hb : b ≤ st.length) (ho : OwnW st b 4 (some 32) ap us.length) (h0 : us = [] → ap = .tight) (hlen : us.length < 1000000) {y : AV} (hy : y = .lst 4 [x.av] .tight) :
    ∃ ap' st', appendA 4 40 (some 32) st (outAv us ap) y = some (.val (outAv (us ++ [x]) ap') st') ∧ Own st' b 4 (some 32) ap' (us ++ [x]).length ∧ Grew b st st' ∧ Steady b st st' := by
  subst hy
  have e : appendA 4 40 (some 32) st (outAv us ap) (.lst 4 [x.av] .tight) = appendA 4 40 (some 32) st (.lst 4 (us.map Tok.av) ap) (.lst 4 [x.av] .tight) := by
    unfold outAv
    split
    · rename_i h; rw [h0 h, h]; exact appendA_nil
    · rfl
  obtain ⟨ap', st', h1, h2, h3, _⟩ := append_own (bytes := 40) (ap0 := .tight) (ys := [x.av]) (es := us.map Tok.av) hb (by simpa using ho) (by simp) (by simp [Ai.great]; omega) (by omega)
  refine ⟨ap', st', ?_, by simpa using h2, h3, append_steady h1⟩
  rw [e, h1]
  simp [outAv]

def E9 (e : Env) (b : Nat) : Prop := e.length = 26 ∧ AX.ev e (.t 2) = .ptr b 0 ∧ AX.ev e (.t 3) = .ptr (b + 1) 0 ∧ AX.ev e (.t 4) = .ptr (b + 2) 0
def C9 (st0 : St) (env : Env) (us : List Tok) (ap : Ap) (s : LoopState) (p : Option APend) (f1 f2 : Int) : St :=
  st0 ++ [.cells none [.lst 1 [] .tight], .cells none [.int .i64 f1, .int .i64 f2], .cells none [outAv us ap], .defr (some []), .loop s p 9 0 [13, 14] env (st0.length + 3)]
theorem C9_len {st0 env us ap s p f1 f2} : (C9 st0 env us ap s p f1 f2).length = st0.length + 5 := by simp [C9]
theorem out_low {st : St} {b : Nat} {us : List Tok} {ap : Ap} (h : OwnW st b 4 (some 32) ap us.length) : AV.lowB st.length (outAv us ap) = true := by
  unfold outAv
  split
  · rfl
  · exact own_low h (lows_all fun x hx => by obtain ⟨t, _, rfl⟩ := List.mem_map.1 hx; exact tok_low _ t)

theorem lex_round {st0 : St} {env : Env} (hE : E9 env st0.length) {us : List Tok} {ap : Ap} {x : Tok} {ok : Bool} {l st : St} (hst : st = C9 st0 env us ap .ready none 0 0 ++ l) (hok : StOk st) (how : OwnW st (st0.length + 5) 4 (some 32) ap us.length)
    (h0 : us = [] → ap = .tight) (hlen : us.length < 1000000) :
    ∃ b st', runL A (.round (st0.length + 4) [x.av, .bool ok]) st = some ⟨.ret, ⟨[.bool b], []⟩, st'⟩ ∧ Steady (st0.length + 5) st st' ∧ b = ok ∧
      (ok = true → ∃ ap' l', st' = C9 st0 env (us ++ [x]) ap' .ready none 0 0 ++ l' ∧ StOk st' ∧ Own st' (st0.length + 5) 4 (some 32) ap' (us ++ [x]).length) ∧
      (ok = false → ∃ us' ap' l', st' = C9 st0 env us' ap' .done (some .ret) 1 x.pos ++ l') := by
  obtain ⟨he, h2, h3, h4⟩ := hE
  have hlp : st[st0.length + 4]? = some (.loop .ready none 9 0 [13, 14] env (st0.length + 3)) := by rw [hst]; simp [C9]
  have hlt := (List.getElem?_eq_some_iff.1 hlp).1
  refine Exists.elim (round_of_aw2 (A := A) (fn := 9) (r := st0.length + 4) (F := a9) (site := 0) (ps := [13, 14]) (env := env) (d := st0.length + 3) (pend := none) (args := [x.av, .bool ok]) (st := st)
    (asg := (a9.sites.getD 0 (.skip, .skip)).1) (body := (a9.sites.getD 0 (.skip, .skip)).2) (env1 := ((((env.set 13 x.av).set 14 (.bool ok)).set 5 (.ptr st.length 0)).set 6 (.bool ok))) (st1 := st ++ [.cells none x.av.cells])
    (G := fun b st' => Steady (st0.length + 5) st st' ∧ b = ok ∧
      (ok = true → ∃ ap' l', st' = C9 st0 env (us ++ [x]) ap' .ready none 0 0 ++ l' ∧ StOk st' ∧ Own st' (st0.length + 5) 4 (some 32) ap' (us ++ [x]).length) ∧
      (ok = false → ∃ us' ap' l', st' = C9 st0 env us' ap' .done (some .ret) 1 x.pos ++ l'))
    fn9 rfl rfl hlp (by simp [a9, he, Tok.av, putCells]) (by rw [List.getElem?_append_left hlt]; exact hlp) ?_) (fun b ⟨st', h, hb⟩ => ⟨b, st', h, hb⟩)
  intro K hn hr _
  simp only [a9, List.getD_cons_zero]
  obtain ⟨l1, hl1⟩ : ∃ l1, l1 = l ++ [.cells none x.av.cells] := ⟨_, rfl⟩
  have hS : (st ++ [AObj.cells none x.av.cells]).set (st0.length + 4) (.loop .busy none 9 0 [13, 14] env (st0.length + 3)) = C9 st0 env us ap .busy none 0 0 ++ l1 := by
    rw [hst, hl1]; simp [C9, set_base]
  have hsd : Steady (st0.length + 5) st (C9 st0 env us ap .busy none 0 0 ++ l1) := by
    rw [← hS]; exact (Steady.app _ _ _).trans (Steady.set (by omega))
  rw [hS]
  have hx : (C9 st0 env us ap .busy none 0 0 ++ l1)[st.length]? = some (.cells none x.av.cells) := by
    rw [← hS, List.getElem?_set_ne (by omega)]; simp
  simp [Tok.av] at hx
  cases ok with
  | false =>
    simp [C9, Tok.av] at hx ⊢
    simp [C9, he, h2, h3, h4, hx, Tok.av, putCells, set_base, get_base]
    refine hr _ _ (by simp) ⟨?_, rfl, nofun, fun _ => ⟨us, ap, l1, by simp [C9, set_base]⟩⟩
    refine hsd.trans ?_
    refine Steady.trans ?_ (Steady.set (by omega))
    have := Steady.suffix (b := st0.length + 5) (x := C9 st0 env us ap .busy none 0 0) (y := C9 st0 env us ap .busy none 1 x.pos) (l := l1) C9_len C9_len
    simpa [C9] using this
  | true =>
    have hok1 : StOk (C9 st0 env us ap .busy none 0 0 ++ l1) := by
      rw [← hS]
      have hk := hok.snoc (o := .cells none x.av.cells) (by have := tok_low (st.length + 1) x; simpa [Tok.av, AObj.lowB, AV.lowB] using this)
      exact hk.set' (by have := hk.get (i := st0.length + 4) (by rw [List.getElem?_append_left hlt]; exact hlp); simpa [AObj.lowB] using this)
    have how1 : OwnW (C9 st0 env us ap .busy none 0 0 ++ l1) (st0.length + 5) 4 (some 32) ap us.length := by
      rw [← hS]; exact (how.app _).set (by omega)
    obtain ⟨ap', st2, hap, ho', hg, hsd2⟩ := own_app_out (x := x) (by simp [C9_len]) how1 h0 hlen rfl
    obtain ⟨l2, rfl⟩ := hg.split C9_len
    have hok2 := hg.ok hok1
    have hlow := out_low ho'.weak
    simp [C9, Tok.av] at hx hap ⊢
    simp [C9, he, h2, h3, h4, hx, hap, Tok.av, putCells, set_base, get_base]
    have hfin : C9 st0 env (us ++ [x]) ap' .ready none 0 0 ++ l2 = ((C9 st0 env us ap .busy none 0 0 ++ l2).set (st0.length + 2) (.cells none [outAv (us ++ [x]) ap'])).set (st0.length + 4) (.loop .ready none 9 0 [13, 14] env (st0.length + 3)) := by
      simp [C9, set_base]
    refine hn _ _ (by simp) ⟨?_, rfl, fun _ => ⟨ap', l2, by simp [C9, set_base], ?_, ?_⟩, nofun⟩
    · have h := (hsd.trans hsd2).trans ((Steady.set (i := st0.length + 2) (o := .cells none [outAv (us ++ [x]) ap']) (by omega)).trans (Steady.set (i := st0.length + 4) (o := .loop .ready none 9 0 [13, 14] env (st0.length + 3)) (by omega)))
      rw [← hfin] at h
      simpa [C9, set_base] using h
    · have h : StOk (C9 st0 env (us ++ [x]) ap' .ready none 0 0 ++ l2) := by
        rw [hfin]
        refine (hok2.set' (by simpa [AObj.lowB, AV.lowsB] using hlow)).set' ?_
        have := hok2.get (i := st0.length + 4) (o := .loop .busy none 9 0 [13, 14] env (st0.length + 3)) (by simp [C9])
        simpa [AObj.lowB] using this
      simpa [C9, set_base] using h
    · have h : Own (C9 st0 env (us ++ [x]) ap' .ready none 0 0 ++ l2) (st0.length + 5) 4 (some 32) ap' (us ++ [x]).length := by
        rw [hfin]
        exact (ho'.set (by omega)).set (by omega)
      simpa [C9, set_base] using h
end Go.Proofs.YtjgbbdmpddddhaaDoor

namespace Go.Proofs.YtjgbbdmpddddhaaDoor
open Go Ai

def toksAv (ts : List Tok) : AV := .lst 4 (ts.map Tok.av) .no
def flt (c p : Int) : AV := .agg [.int .i64 c, .int .i64 p]
def noToks : AV := .lst 1 [] .tight
def lexP (s : List UInt8) : AV × AV := if 20000 < s.length then (noToks, flt 10 0) else match lexK s 0 with
  | .ok ts => (toksAv ts, flt 0 0)
  | .error p => (noToks, flt 1 p)
theorem still_toks {n : Nat} {st st' : St} {b : Nat} {us : List Tok} {ap : Ap} (hne : us ≠ []) (h : Own st' b 4 (some 32) ap us.length) (hb : n ≤ b) : AV.still n st (outAv us ap) = some (toksAv us) := by
  have h0 : us.length ≠ 0 := by simpa using hne
  rcases h with ⟨h, _⟩ | ⟨_, id, rfl, hid, _⟩
  · omega
  · have hs : AV.stills n st (us.map Tok.av) = some (us.map Tok.av) := stills_of fun x hx => by
      obtain ⟨t, _, rfl⟩ := List.mem_map.1 hx
      simp [Tok.av, AV.still, AV.stills]
    simp [outAv, hne, AV.still, hs, toksAv, show ¬ id < n by omega]
theorem lex_call {s : List UInt8} (hs : s.length ≤ 281474976710656) {st : St} (hst : StOk st) : runL A (.call 9 [.str s]) st = some ⟨.ret, ⟨[.tup [(lexP s).1, (lexP s).2]], []⟩, st⟩ := by
  refine (task_of_aw_d (N := 26) prim9 fn9 rfl rfl hst ?_).1
  intro e he ha K hK
  have a0 := ha 0
  have hlow : AV.lowsB (st.length + 5) e = true := lows_args ha rfl
  clear ha
  simp at a0
  by_cases hbig : 20000 < s.length
  · have hbig' : (20000 : Int) < (s.length : Int) := by omega
    simp [a9, he, a0, hbig, hbig', putCells, set_base, get_base]
    exact hK _ _ _ _ _ (.inl rfl) (by simp; rfl) (by simp) ⟨[noToks, flt 10 0], by simp [a9, he, takeVar, noToks, flt], by simp [lexP, hbig, noToks, flt, AV.stills, AV.still]⟩
  · have hbig' : ¬ (20000 : Int) < (s.length : Int) := by omega
    have hst1 : StOk (st ++ [.cells none [.lst 1 [] .tight], .cells none [.int .i64 0, .int .i64 0], .cells none [.lst 1 [] .tight]]) := by
      have := ((hst.snoc (o := .cells none [.lst 1 [] .tight]) rfl).snoc (o := .cells none [.int .i64 0, .int .i64 0]) rfl).snoc (o := .cells none [.lst 1 [] .tight]) rfl
      simpa using this
    have ht := tokens_call (s := s) hst1
    simp [a9, he, a0, hbig, hbig', ht]
    generalize hE : (List.set _ 12 _ : Env) = E
    have hEv : E9 E st.length := by subst hE; exact ⟨by simp [he], by simp [he], by simp [he], by simp [he]⟩
    have hf : AX.ev E (.t 12) = .func (.func 23) [] [.iptr (.str s)] := by subst hE; simp [he]
    have hlE : AV.lowsB (st.length + 5) E = true := by
      subst hE
      repeat' refine lows_set ?_ (by simp [AV.lowB, AV.lowsB])
      exact hlow
    obtain ⟨he1, h2, h3, h4⟩ := hEv
    clear hE
    have hok0 : StOk (C9 st E [] .tight .ready none 0 0) := by
      have h := (hst1.snoc (o := .defr (some [])) rfl).snoc (o := .loop .ready none 9 0 [13, 14] E (st.length + 3)) (by simp [AObj.lowB]; exact hlE)
      simpa [C9, outAv] using h
    obtain ⟨st3, hr, hS⟩ := toks_run (s := s) (r := st.length + 4) (st0 := C9 st E [] .tight .ready none 0 0) (by omega)
      (fun i st' => ∃ us ap l, st' = C9 st E us ap .ready none 0 0 ++ l ∧ StOk st' ∧ OwnW st' (st.length + 5) 4 (some 32) ap us.length ∧ (us = [] → ap = .tight) ∧ i ≤ s.length ∧ us.length ≤ i ∧ lexK s 0 = (lexS (s.drop i) i).map (us ++ ·))
      (fun st' => (∃ q us ap l, lexK s 0 = .error q ∧ st' = C9 st E us ap .done (some .ret) 1 q ++ l) ∨
        ∃ us ap l, lexK s 0 = .ok us ∧ us ≠ [] ∧ st' = C9 st E us ap .ready none 0 0 ++ l ∧ Own st' (st.length + 5) 4 (some 32) ap us.length)
      (fun i st' h => by obtain ⟨us, ap, l, _, h, _⟩ := h; exact h)
      (fun i st' o h hlo => by
        obtain ⟨us, ap, l, rfl, h1, h2, h3⟩ := h
        exact ⟨us, ap, l ++ [o], by simp, h1.snoc hlo, h2.app _, h3⟩)
      (fun i st' hi h => by
        obtain ⟨us, ap, l, h0, h1, h2, h3, h4, h5, h6⟩ := h
        obtain ⟨b, st2, hr, hsd, hb, hok, hbad⟩ := lex_round ⟨he1, by assumption, by assumption, by assumption⟩ (x := (tokOf (s.drop i) i).1) (ok := (tokOf (s.drop i) i).2) h0 h1 h2 h3 (by omega)
        have hd := List.drop_eq_getElem_cons hi
        obtain ⟨c, hc⟩ : ∃ c, c = s[i] := ⟨_, rfl⟩
        rw [← hc] at hd
        refine ⟨b, st2, hr, by rw [C9_len]; exact hsd, fun hb' => ?_, fun hb' => ?_⟩
        · rw [hb] at hb'
          obtain ⟨ap', l', g1, g2, g3⟩ := hok hb'
          have htk : tokOf (c :: s.drop (i + 1)) i = ((tokOf (s.drop i) i).1, true) := by rw [← hd, ← hb']
          have hle := tokOf_le htk
          have hpos := tokOf_pos (c := c) (l := s.drop (i + 1)) (pos := i) (by rw [htk])
          rw [htk] at hpos
          rw [← hd, List.length_drop] at hle
          have hsk := skipN_le false (s.drop (i + (tokOf (s.drop i) i).1.text.length))
          rw [List.length_drop] at hsk
          refine ⟨hb', us ++ [(tokOf (s.drop i) i).1], ap', l', g1, g2, g3.weak, by simp, ?_, ?_, ?_⟩
          · unfold nextAt; omega
          · simp at hpos ⊢; unfold nextAt; omega
          · rw [h6, hd, lexS_tok htk, ← hd, List.drop_drop, lexK, List.drop_drop, map_map']
            simp [nextAt]
        · rw [hb] at hb'
          obtain ⟨us', ap', l', g1⟩ := hbad hb'
          refine .inl ⟨i, us', ap', l', ?_, ?_⟩
          · rw [h6, hd, lexS_bad (by rw [← hd]; exact hb')]; rfl
          · rw [g1, hd, (tokOf_shift c (s.drop (i + 1)) i i).2])
      (fun st' h => by
        obtain ⟨us, ap, l, h0, h1, h2, h3, h4, h5, h6⟩ := h
        obtain ⟨b, st2, hr, hsd, hb, hok, hbad⟩ := lex_round ⟨he1, by assumption, by assumption, by assumption⟩ (x := endTok s.length) (ok := true) h0 h1 h2 h3 (by omega)
        obtain ⟨ap', l', g1, g2, g3⟩ := hok rfl
        refine ⟨b, st2, hr, .inr ⟨_, ap', l', ?_, by simp, g1, g3⟩⟩
        rw [h6, List.drop_length, lexS_nil]; rfl)
      ⟨[], .tight, [], by simp, hok0, .inl rfl, fun _ => rfl, skipN_le false s, by simp, by
        have : ∀ x : Except Nat (List Tok), x.map ([] ++ ·) = x := fun x => by cases x <;> rfl
        rw [this, lexK]; simp⟩
    rcases hS with ⟨q, us, ap, l, hx, rfl⟩ | ⟨us, ap, l, hx, hne, rfl, how⟩
    · refine aw_range (s := .done) (pend := some .ret) (f' := 9) (site' := 0) (ps' := [13, 14]) (env' := E) (d' := st.length + 3) (st3 := C9 st E us ap .done (some .ret) 1 q ++ l) hf (by simpa [C9, outAv, Nat.add_assoc] using hr) (by simp [C9, Nat.add_assoc]) (by simp) ?_
      simp [pendEx, C9, Nat.add_assoc]
      exact hK _ _ _ _ _ (.inl rfl) (by simp; rfl) (by simp) ⟨[noToks, flt 1 q], by simp [a9, h2, h3, takeVar, noToks, flt], by simp [lexP, hbig, hx, noToks, flt, AV.stills, AV.still]⟩
    · refine aw_range (s := .ready) (pend := none) (f' := 9) (site' := 0) (ps' := [13, 14]) (env' := E) (d' := st.length + 3) (st3 := C9 st E us ap .ready none 0 0 ++ l) hf (by simpa [C9, outAv, Nat.add_assoc] using hr) (by simp [C9, Nat.add_assoc]) (by simp) ?_
      simp [pendEx, C9, h2, h3, h4, he1, Nat.add_assoc, putCells, set_base, get_base]
      have hst2 := fun S : St => still_toks (n := st.length) (st := S) hne how (by omega)
      exact hK _ _ _ _ _ (.inl rfl) (by simp; rfl) (by simp) ⟨[outAv us ap, flt 0 0], by simp [a9, h2, h3, he1, takeVar, flt], by
        simp only [oneOf]
        rw [still_tup2 (hst2 _) (b' := flt 0 0) (by simp [flt, AV.still, AV.stills])]
        simp [lexP, hbig, hx]⟩
end Go.Proofs.YtjgbbdmpddddhaaDoor

