/- DecBack and DecOrder: what is read again; the order of texts is that of numbers. No condition. -/
import Derived.Test.YtbmakcjladlaaaaDoorFc
import Derived.Test.YtbmakcjladlaaaaDoorFb
set_option linter.unusedVariables false
set_option linter.unusedSimpArgs false
namespace Go.Proofs.YtbmakcjladlaaaaDoor
open Go Ai

def numR : List Nat → Nat
  | [] => 0
  | d :: l => d * 10 ^ l.length + numR l
theorem numR_lt : ∀ l : List Nat, (∀ d ∈ l, d < 10) → numR l < 10 ^ l.length
  | [], _ => by simp [numR]
  | d :: l, h => by
    have h1 := numR_lt l fun x hx => h x (by simp [hx])
    have h2 := h d (by simp)
    have h3 : d * 10 ^ l.length ≤ 9 * 10 ^ l.length := Nat.mul_le_mul_right _ (by omega)
    simp only [numR, List.length_cons, Nat.pow_succ]; omega
theorem dbl_num : ∀ l : List Nat, 2 * numR l = (dbl l).1 * 10 ^ l.length + numR (dbl l).2
  | [] => by simp [numR, dbl]
  | d :: l => by
    have h1 := dbl_num l
    have hl := dbl_length l
    simp only [numR, dbl, List.length_cons, Nat.pow_succ, hl]
    have e : 2 * d + (dbl l).1 = (2 * d + (dbl l).1) / 10 * 10 + (2 * d + (dbl l).1) % 10 := by omega
    have e2 : (2 * d + (dbl l).1) * 10 ^ l.length = (2 * d + (dbl l).1) / 10 * (10 ^ l.length * 10) + (2 * d + (dbl l).1) % 10 * 10 ^ l.length := by
      conv => lhs; rw [e, Nat.add_mul]
      congr 1
      rw [Nat.mul_assoc, Nat.mul_comm 10]
    rw [← Nat.add_assoc, ← e2, Nat.add_mul, Nat.mul_add, ← Nat.mul_assoc]
    omega
theorem fracN_eq : ∀ (k : Nat) (l : List Nat) (u : Nat), (∀ d ∈ l, d < 10) → fracN k l u = u * 2 ^ k + numR l * 2 ^ k / 10 ^ l.length
  | 0, l, u, hd => by
    have := numR_lt l hd
    simp only [fracN, Nat.pow_zero, Nat.mul_one, Nat.div_eq_of_lt this, Nat.add_zero]
  | k + 1, l, u, hd => by
    have h1 := fracN_eq k (dbl l).2 (2 * u + (dbl l).1) (dbl_lt l)
    have h2 := dbl_num l
    have hp : 0 < 10 ^ l.length := Nat.pow_pos (by decide)
    rw [fracN, h1, dbl_length]
    have e : numR l * 2 ^ (k + 1) = numR (dbl l).2 * 2 ^ k + (dbl l).1 * 2 ^ k * 10 ^ l.length := by
      rw [Nat.pow_succ, Nat.mul_comm (2 ^ k) 2, ← Nat.mul_assoc, Nat.mul_comm _ 2, h2, Nat.add_mul, Nat.add_comm, Nat.mul_right_comm]
    rw [e, Nat.add_mul_div_right _ _ hp, Nat.add_mul, Nat.pow_succ, Nat.mul_comm (2 ^ k) 2, ← Nat.mul_assoc, Nat.mul_comm u 2]
    omega
theorem byteOf_nat {n : Nat} (h : n < 10) : (byteOf n).toNat = 48 + n := by
  simp only [byteOf, UInt8.toNat_ofNat']; omega
theorem byteOf_dig {n : Nat} (h : n < 10) : digB (byteOf n) = true := by rw [digB_iff, byteOf_nat h]; omega
theorem fr_all : ∀ (k b : Nat), b < 4294967296 → ∀ c ∈ fr k b, digB c = true
  | 0, _, _, c, h => by simp [fr] at h
  | k + 1, b, hb, c, h => by
    simp only [fr, List.mem_cons] at h
    rcases h with rfl | h
    · exact byteOf_dig (by omega)
    · exact fr_all k _ (by omega) c h
theorem fr_num : ∀ (k b : Nat), b < 4294967296 → numR (digsOf (fr k b)) = b * 10 ^ k / 4294967296
  | 0, b, hb => by simp [fr, digsOf, numR]; omega
  | k + 1, b, hb => by
    have h1 := fr_num k (b * 10 % 4294967296) (by omega)
    have hl : (digsOf (fr k (b * 10 % 4294967296))).length = k := by simp [digsOf, fr_length]
    have e0 : digsOf (fr (k + 1) b) = b * 10 / 4294967296 :: digsOf (fr k (b * 10 % 4294967296)) := by
      simp only [digsOf, fr, List.map_cons, byteOf_nat (show b * 10 / 4294967296 < 10 by omega)]
      rw [Nat.add_sub_cancel_left]
    rw [e0, numR, hl, h1]
    have e : b * 10 ^ (k + 1) = b * 10 % 4294967296 * 10 ^ k + b * 10 / 4294967296 * 10 ^ k * 4294967296 := by
      rw [Nat.pow_succ, Nat.mul_comm (10 ^ k) 10, ← Nat.mul_assoc]
      conv => lhs; rw [← Nat.mod_add_div (b * 10) 4294967296]
      rw [Nat.add_mul, Nat.mul_comm 4294967296, Nat.mul_right_comm]
    rw [e, Nat.add_mul_div_right _ _ (by decide), Nat.add_comm]
theorem trim0_back (l : List UInt8) : ∃ j, l = trim0 l ++ List.replicate j 48 := by
  induction h : l.length generalizing l with
  | zero => rw [List.length_eq_zero_iff] at h; subst h; exact ⟨0, rfl⟩
  | succ n ih =>
    rcases List.eq_nil_or_concat l with rfl | ⟨l', c, rfl⟩
    · exact ⟨0, rfl⟩
    · rw [List.concat_eq_append] at *
      by_cases hc : c = 48
      · subst hc
        obtain ⟨j, hj⟩ := ih l' (by simpa using h)
        refine ⟨j + 1, ?_⟩
        rw [trim0_snoc, List.replicate_succ', ← List.append_assoc, ← hj]
      · exact ⟨0, by rw [trim0_keep hc]; simp⟩
theorem numR_zeros (l : List Nat) : ∀ j, numR (l ++ List.replicate j 0) = numR l * 10 ^ j := by
  intro j
  induction l with
  | nil =>
    simp only [List.nil_append, numR, Nat.zero_mul]
    induction j with
    | zero => rfl
    | succ j ih => rw [List.replicate_succ, numR, ih]; simp
  | cons d l ih =>
    rw [List.cons_append, numR, numR, ih, List.length_append, List.length_replicate, Nat.pow_add, Nat.add_mul, Nat.mul_assoc]
theorem digs_lt {y : List UInt8} (hd : ∀ c ∈ y, digB c = true) : ∀ d ∈ digsOf y, d < 10 := by
  intro d hdd
  simp only [digsOf, List.mem_map] at hdd
  obtain ⟨c, hc, rfl⟩ := hdd
  have := digB_iff.1 (hd c hc)
  omega
theorem trim_all {l : List UInt8} (h : ∀ c ∈ l, digB c = true) : ∀ c ∈ trim0 l, digB c = true := fun c hc => h c ((trim0_prefix l).subset hc)
/-- What is written behind the point is read back. -/
theorem frac_back {b : Nat} (hb : b < 4294967296) : fracN 32 (digsOf (trim0 (fr 32 b))) 0 = b := by
  have hall := fr_all 32 b hb
  obtain ⟨j, hj⟩ := trim0_back (fr 32 b)
  have hn := fr_num 32 b hb
  have hlen : (fr 32 b).length = 32 := fr_length 32 b
  obtain ⟨t, ht⟩ : ∃ t, t = trim0 (fr 32 b) := ⟨_, rfl⟩
  have hta : ∀ c ∈ t, digB c = true := by rw [ht]; exact trim_all hall
  rw [← ht] at hj ⊢
  rw [fracN_eq 32 _ 0 (digs_lt hta), Nat.zero_mul, Nat.zero_add]
  have hdj : digsOf (fr 32 b) = digsOf t ++ List.replicate j 0 := by
    rw [hj]; simp [digsOf]
  rw [hdj, numR_zeros] at hn
  have hl : (digsOf t).length + j = 32 := by
    have : (digsOf (fr 32 b)).length = 32 := by simp [digsOf, hlen]
    rw [hdj] at this; simpa using this
  have hp : 0 < 10 ^ j := Nat.pow_pos (by decide)
  rw [← Nat.mul_div_mul_right _ _ hp, ← Nat.pow_add, hl, Nat.mul_right_comm, hn]
  have e : b * 10 ^ 32 / 4294967296 = b * 5 ^ 32 := by
    rw [show (10 : Nat) ^ 32 = 5 ^ 32 * 4294967296 by decide, ← Nat.mul_assoc, Nat.mul_div_cancel _ (by decide)]
  rw [e, Nat.mul_assoc, show (5 : Nat) ^ 32 * 2 ^ 32 = 10 ^ 32 by decide, Nat.mul_div_cancel _ (by decide)]

theorem dec_back : ∀ (n a : Nat), a ≤ n → decN (Lib.decDigits a) = a ∧ (∀ c ∈ Lib.decDigits a, digB c = true) ∧ (1 ≤ a → (Lib.decDigits a).head? ≠ some 48) ∧ 1 ≤ (Lib.decDigits a).length
  | 0, a, h => by
    have : a = 0 := by omega
    subst this
    rw [Lib.decDigits_one (by decide)]
    exact ⟨by decide, by decide, by omega, by decide⟩
  | n + 1, a, h => by
    by_cases ha : a < 10
    · rw [Lib.decDigits_one ha]
      refine ⟨?_, ?_, ?_, by simp⟩
      · have := byteOf_nat ha
        simp only [byteOf] at this
        simp only [decN, List.foldl_cons, List.foldl_nil, this]; omega
      · intro c hc
        rw [List.mem_singleton] at hc
        rw [hc]; exact byteOf_dig ha
      · intro h1 h2
        have := byteOf_nat ha
        simp only [byteOf] at this
        rw [List.head?_cons] at h2
        rw [Option.some.inj h2] at this
        have h48 : (48 : UInt8).toNat = 48 := rfl
        omega
    · obtain ⟨h1, h2, h3, h4⟩ := dec_back n (a / 10) (by omega)
      have hb := byteOf_nat (show a % 10 < 10 by omega)
      have e : Lib.decDigits a = Lib.decDigits (a / 10) ++ [byteOf (a % 10)] := by rw [Lib.decDigits, dif_neg ha]; rfl
      rw [e]
      refine ⟨?_, ?_, ?_, by simp⟩
      · rw [decN_snoc, h1, hb]; omega
      · intro c hc
        simp only [List.mem_append, List.mem_singleton] at hc
        rcases hc with hc | rfl
        · exact h2 c hc
        · exact byteOf_dig (by omega)
      · intro _
        have h3' := h3 (by omega)
        cases hx : Lib.decDigits (a / 10) with
        | nil => rw [hx] at h4; simp at h4
        | cons b l => rw [hx] at h3'; simpa using h3'
theorem cutAt_not {c : UInt8} : ∀ {s : List UInt8}, c ∉ s → cutAt c s = none
  | [], _ => rfl
  | b :: l, h => by
    simp only [List.mem_cons, not_or] at h
    rw [cutAt, if_neg fun e => h.1 e.symm, cutAt_not h.2]; rfl
theorem cutAt_in {c : UInt8} {y : List UInt8} : ∀ {x : List UInt8}, c ∉ x → cutAt c (x ++ c :: y) = some (x, y)
  | [], _ => by simp [cutAt]
  | b :: l, h => by
    simp only [List.mem_cons, not_or] at h
    rw [List.cons_append, cutAt, if_neg fun e => h.1 e.symm, cutAt_in h.2]; rfl
theorem dot_not {l : List UInt8} (h : ∀ c ∈ l, digB c = true) : (46 : UInt8) ∉ l := fun hh => by
  have := h _ hh
  revert this; decide
theorem dec_len10 : ∀ (k a : Nat), 0 < k → a < 10 ^ k → (Lib.decDigits a).length ≤ k
  | 0, _, h, _ => by omega
  | k + 1, a, _, h => by
    rw [Lib.decDigits]
    split
    · simp
    · cases k with
      | zero => simp at h; omega
      | succ k =>
        have := dec_len10 (k + 1) (a / 10) (by omega) (by
          rw [Nat.pow_succ] at h
          exact Nat.div_lt_of_lt_mul (by rw [Nat.mul_comm]; exact h))
        simp; omega
theorem dec_okA {a : Nat} (h : a < 10000000000) : okA (Lib.decDigits a) = true := by
  obtain ⟨h1, h2, h3, h4⟩ := dec_back a a (Nat.le_refl _)
  have hl : (Lib.decDigits a).length ≤ 10 := by
    exact dec_len10 10 a (by decide) (by simpa using h)
  have hall : (Lib.decDigits a).all digB = true := by rw [List.all_eq_true]; exact h2
  by_cases ha : a < 10
  · rw [Lib.decDigits_one ha]
    have := byteOf_dig ha
    simp only [byteOf] at this
    simp only [okA, okD, List.length_singleton, List.all_cons, List.all_nil, this]
    rfl
  · have := h3 (by omega)
    simp [okA, okD, h4, hl, this]
    exact h2

def textF (a : Nat) (f : List UInt8) : List UInt8 := if f = [] then Lib.decDigits a else Lib.decDigits a ++ 46 :: f
theorem parts_text {a : Nat} {f : List UInt8} (h : a < 10000000000) (hf : ∀ c ∈ f, digB c = true) (hfl : f.length ≤ 40) : partsAv (textF a f) = some (Lib.decDigits a, f) := by
  have h2 := (dec_back a a (Nat.le_refl _)).2.1
  have ho := dec_okA h
  have hd := dot_not h2
  unfold textF
  by_cases hz : f = []
  · subst hz
    rw [if_pos rfl, partsAv, cutAt_not hd]
    simp [ho]
  · rw [if_neg hz, partsAv, cutAt_in hd]
    have : okD f 40 = true := by
      have := List.length_pos_iff.2 hz
      have hall : f.all digB = true := by rw [List.all_eq_true]; exact hf
      simp [okD, hfl]
      exact ⟨by omega, hf⟩
    simp [ho, this]
theorem text_head {a : Nat} {f : List UInt8} : pre1 45 (textF a f) = false := by
  obtain ⟨_, h2, _, h4⟩ := dec_back a a (Nat.le_refl _)
  cases hd : Lib.decDigits a with
  | nil => rw [hd] at h4; simp at h4
  | cons b l =>
    have hb : digB b = true := h2 b (by rw [hd]; simp)
    have hne : ¬ b = 45 := by intro h; subst h; revert hb; decide
    unfold textF
    split <;> simp [hd, pre1, hne]
theorem shortF_text (q : Int) : shortF q 32 = (if q < 0 then [45] else []) ++ textF (q.natAbs / 4294967296) (trim0 (fr 32 (q.natAbs % 4294967296))) := by
  simp only [shortF, textF]
  split
  · rfl
  · simp

theorem size_text {u : Nat} (hu : u ≤ 9223372036854775808) : sizeN (Lib.decDigits (u / 4294967296), trim0 (fr 32 (u % 4294967296))) = u := by
  have h1 := (dec_back (u / 4294967296) _ (Nat.le_refl _)).1
  have h2 := frac_back (b := u % 4294967296) (by omega)
  simp only [sizeN, h1, h2]
  rw [if_neg (by omega)]; omega
theorem parts_short {u : Nat} (hu : u ≤ 9223372036854775808) : partsAv (textF (u / 4294967296) (trim0 (fr 32 (u % 4294967296)))) = some (Lib.decDigits (u / 4294967296), trim0 (fr 32 (u % 4294967296))) := by
  refine parts_text (by omega) (trim_all (fr_all 32 _ (by omega))) ?_
  have := trim0_len (fr 32 (u % 4294967296))
  rw [fr_length] at this; omega
theorem signed_short {q : Int} (h0 : -9223372036854775808 ≤ q) (h1 : q ≤ 9223372036854775807) : signedV (shortF q 32) = .tup [.int .i64 q, .bool true] := by
  have hp := parts_short (u := q.natAbs) (by omega)
  have hs := size_text (u := q.natAbs) (by omega)
  rw [shortF_text]
  by_cases hq : q < 0
  · rw [if_pos hq]
    simp only [List.singleton_append, signedV, pre1, decide_true, if_true, List.tail_cons, hp, negV, hs]
    rw [if_neg (by omega)]
    congr 4; omega
  · rw [if_neg hq]
    simp only [List.nil_append, signedV, text_head, hp, parseV, hs]
    simp only [Bool.false_eq_true, if_false]
    rw [if_neg (by omega)]
    congr 4; omega
theorem literal_short {q : Int} (h0 : -9223372036854775808 ≤ q) (h1 : q ≤ 9223372036854775807) : (partsAv (shortF q 32)).isSome = decide (0 ≤ q) := by
  have hp := parts_short (u := q.natAbs) (by omega)
  rw [shortF_text]
  by_cases hq : q < 0
  · rw [if_pos hq, List.singleton_append, parts_minus]
    simp; omega
  · rw [if_neg hq, List.nil_append, hp]
    simp; omega
theorem shortF_len {q : Int} (h0 : -9223372036854775808 ≤ q) (h1 : q ≤ 9223372036854775807) : (shortF q 32).length ≤ 100 := by
  have hl1 : (Lib.decDigits (q.natAbs / 4294967296)).length ≤ 20 := dec_len _ (by omega)
  have hl2 : (trim0 (fr 32 (q.natAbs % 4294967296))).length ≤ 32 := by
    have := trim0_len (fr 32 (q.natAbs % 4294967296)); rw [fr_length] at this; omega
  rw [shortF_text, textF]
  split <;> split <;> simp <;> omega

theorem fn7 : A.fn 7 = some a7 := by kernel_rfl
theorem prim7 : A.prim 7 = none := by kernel_rfl
theorem law7_run {q : Int} (h0 : -9223372036854775808 ≤ q) (h1 : q ≤ 9223372036854775807) : runL A (.seqc 7 [.int .i64 q]) [] = some ⟨.ret, ⟨[.bool true], []⟩, []⟩ := by
  refine (task_of_aw (N := 34) prim7 fn7 rfl rfl StOk.nil ?_).2
  intro e he ha K hK
  have a0 := ha 0
  clear ha
  simp at a0
  have hlen := shortF_len h0 h1
  have h11 := print_call h0 h1 StOk.nil
  have h14 := signed_call (s := shortF q 32) (by omega) StOk.nil
  rw [signed_short h0 h1] at h14
  have h10 := ref_short_call (n := 32) h0 h1 StOk.nil
  have hc : clamp 32 = 32 := rfl
  rw [hc] at h10
  have h15 := literal_call (s := shortF q 32) (by omega) StOk.nil
  rw [literal_short h0 h1] at h15
  simp [a7, he, a0, alive_call, h11, h14, h10, h15]
  exact hK _ _ _ (.inl rfl) (by simp) ⟨_, rfl, by simp [he]⟩
end Go.Proofs.YtbmakcjladlaaaaDoor

namespace Go.Proofs.YtbmakcjladlaaaaDoor
open Go Ai

def scan : List UInt8 → Nat → Nat → Nat → Option (Nat × Nat × Nat)
  | [], a, b, d => some (a, b, d)
  | c :: l, a, b, d => if c = 46 then scan l a b (d + 1) else if digB c then (if d = 0 then scan l (a + 1) b d else scan l a (b + 1) d) else none
def litOk (s : List UInt8) : Nat × Nat × Nat → Bool
  | (a, b, d) => if a < 1 ∨ 10 < a ∨ 1 < d ∨ (d = 1 ∧ (b < 1 ∨ 40 < b)) then false else decide (a = 1) || decide (s.head? ≠ some 48)
def refLit (s : List UInt8) : Bool := match scan s 0 0 0 with
  | none => false
  | some x => litOk s x

theorem fn12 : A.fn 12 = some a12 := by kernel_rfl
theorem prim12 : A.prim 12 = none := by kernel_rfl
def w12_0 : List Nat := a12_0.writes

set_option maxHeartbeats 2000000 in
theorem refLit_call {s : List UInt8} (hs : s.length ≤ 1000000000) {st : St} (hst : StOk st) :
    runL A (.call 12 [.str s]) st = some ⟨.ret, ⟨[.bool (refLit s)], []⟩, st⟩ := by
  refine (task_of_aw (N := 64) prim12 fn12 rfl rfl hst ?_).1
  intro e he ha K hK
  have a0 := ha 0
  clear ha
  simp at a0
  simp [a12, he, a0]
  refine aw_loop (W := w12_0) rfl (fun m e ds st' => ds = [] ∧ st' = st ∧ ∃ i a b d : Nat, i + m = s.length ∧ a + b + d = i ∧ scan s 0 0 0 = scan (s.drop i) a b d ∧ (0 < a → s ≠ []) ∧
      AX.ev e (.t 6) = .int .i64 i ∧ AX.ev e (.t 3) = .int .i64 a ∧ AX.ev e (.t 4) = .int .i64 b ∧ AX.ev e (.t 5) = .int .i64 d) s.length
    ⟨rfl, rfl, 0, 0, 0, 0, by simp, rfl, rfl, by simp, by simp [he], by simp [he], by simp [he], by simp [he]⟩ ?_
  rintro m e1 ds st' hs' ⟨rfl, rfl, i, a, b, d, hm, habd, hsc, hne, g6, g3, g4, g5⟩ K1 kn kx
  have he1 : e1.length = 64 := by simp [hs'.1, he]
  have g0 := hs'.ev 0 rfl (v := .str s) (by simp [a0])
  cases m with
  | zero =>
    have : i = s.length := by omega
    subst this
    simp [scan] at hsc
    have hrl : refLit s = litOk s (a, b, d) := by simp [refLit, hsc]
    simp [a12_0, g0, g6, he1]
    refine kx _ _ _ _ nofun fun hs' => ?_
    have fin : ∀ (r : Bool) (E : Env), refLit s = r → (∃ vs, resultsA st' E a12.results = some vs ∧ oneOf vs = .bool r) → K .ret E [] st' := by
      rintro r E hr ⟨vs, h1, h2⟩
      refine hK _ _ _ (.inl rfl) (by simp) ⟨vs, h1, ?_⟩
      rw [h2, hr]; simp [AV.still]
    by_cases h1 : a < 1
    · have h1' : (a : Int) < 1 := by omega
      simp [g3, g4, g5, g0, he1, h1, h1']
      exact fin false _ (by rw [hrl]; simp [litOk, h1]) ⟨_, rfl, by simp [he1]⟩
    · have h1' : ¬ (a : Int) < 1 := by omega
      by_cases h2 : 10 < a
      · have h2' : (10 : Int) < (a : Int) := by omega
        simp [g3, g4, g5, g0, he1, h1, h1', h2, h2']
        exact fin false _ (by rw [hrl]; simp [litOk, h2]) ⟨_, rfl, by simp [he1]⟩
      · have h2' : ¬ (10 : Int) < (a : Int) := by omega
        by_cases h3 : 1 < d
        · have h3' : (1 : Int) < (d : Int) := by omega
          simp [g3, g4, g5, g0, he1, h1, h1', h2, h2', h3, h3']
          exact fin false _ (by rw [hrl]; simp [litOk, h3]) ⟨_, rfl, by simp [he1]⟩
        · have h3' : ¬ (1 : Int) < (d : Int) := by omega
          have hs0 := hne (by omega)
          cases s with
          | nil => exact absurd rfl hs0
          | cons c s =>
            have tail : ¬ (d = 1 ∧ (b < 1 ∨ 40 < b)) → refLit (c :: s) = (decide (a = 1) || !decide (c = 48)) := by
              intro hh
              have hh2 : ¬ (a < 1 ∨ 10 < a ∨ 1 < d ∨ (d = 1 ∧ (b < 1 ∨ 40 < b))) := by omega
              rw [hrl]; simp only [litOk, if_neg hh2]; simp
            have hcc : (decide (c.toNat = 48)) = decide (c = 48) := by
              rw [Bool.eq_iff_iff, decide_eq_true_iff, decide_eq_true_iff]
              exact ⟨fun h => UInt8.toNat_inj.1 h, fun h => by rw [h]; rfl⟩
            have ha1 : ((a : Int) = 1) = (a = 1) := by simp; omega
            by_cases h4 : d = 1
            · have h4' : (d : Int) = 1 := by omega
              by_cases h5 : b < 1
              · have h5' : (b : Int) < 1 := by omega
                simp [g3, g4, g5, g0, he1, h1, h1', h2, h2', h3, h3', h4, h4', h5, h5']
                exact fin false _ (by rw [hrl]; simp [litOk, h4, h5]) ⟨_, rfl, by simp [he1]⟩
              · have h5' : ¬ (b : Int) < 1 := by omega
                by_cases h6 : 40 < b
                · have h6' : (40 : Int) < (b : Int) := by omega
                  simp [g3, g4, g5, g0, he1, h1, h1', h2, h2', h3, h3', h4, h4', h5, h5', h6, h6']
                  exact fin false _ (by rw [hrl]; simp [litOk, h4, h6]) ⟨_, rfl, by simp [he1]⟩
                · have h6' : ¬ (40 : Int) < (b : Int) := by omega
                  have ht := tail (by omega)
                  by_cases h7 : a = 1
                  · have h7' : (a : Int) = 1 := by omega
                    simp [g3, g4, g5, g0, he1, h1, h1', h2, h2', h3, h3', h4, h4', h5, h5', h6, h6', h7, h7']
                    exact fin true _ (by rw [ht]; simp [h7]) ⟨_, rfl, by simp [he1]⟩
                  · have h7' : ¬ (a : Int) = 1 := by omega
                    by_cases h8 : c = 48
                    · have h8' : (c.toNat : Int) = 48 := by rw [h8]; rfl
                      simp [g3, g4, g5, g0, he1, h1, h1', h2, h2', h3, h3', h4, h4', h5, h5', h6, h6', h7, h7', byteV, h8', h8]
                      exact fin false _ (by rw [ht]; simp [h7, h8]) ⟨_, rfl, by simp [he1]⟩
                    · have h8' : ¬ (c.toNat = 48) := fun h => h8 (UInt8.toNat_inj.1 h)
                      have h8'' : ¬ ((c.toNat : Int) = 48) := by omega
                      simp [g3, g4, g5, g0, he1, h1, h1', h2, h2', h3, h3', h4, h4', h5, h5', h6, h6', h7, h7', byteV, h8', h8'', h8]
                      exact fin true _ (by rw [ht]; simp [h7, h8]) ⟨_, rfl, by simp [he1]⟩
            · have h4' : ¬ (d : Int) = 1 := by omega
              have ht := tail (by omega)
              by_cases h7 : a = 1
              · have h7' : (a : Int) = 1 := by omega
                simp [g3, g4, g5, g0, he1, h1, h1', h2, h2', h3, h3', h4, h4', h7, h7']
                exact fin true _ (by rw [ht]; simp [h7]) ⟨_, rfl, by simp [he1]⟩
              · have h7' : ¬ (a : Int) = 1 := by omega
                by_cases h8 : c = 48
                · have h8' : (c.toNat : Int) = 48 := by rw [h8]; rfl
                  simp [g3, g4, g5, g0, he1, h1, h1', h2, h2', h3, h3', h4, h4', h7, h7', byteV, h8', h8]
                  exact fin false _ (by rw [ht]; simp [h7, h8]) ⟨_, rfl, by simp [he1]⟩
                · have h8' : ¬ (c.toNat = 48) := fun h => h8 (UInt8.toNat_inj.1 h)
                  have h8'' : ¬ ((c.toNat : Int) = 48) := by omega
                  simp [g3, g4, g5, g0, he1, h1, h1', h2, h2', h3, h3', h4, h4', h7, h7', byteV, h8', h8'', h8]
                  exact fin true _ (by rw [ht]; simp [h7, h8]) ⟨_, rfl, by simp [he1]⟩
  | succ m =>
    have hi : i < s.length := by omega
    have hdr : s.drop i = s[i] :: s.drop (i + 1) := List.drop_eq_getElem_cons hi
    obtain ⟨c, hc⟩ : ∃ c, c = s[i] := ⟨_, rfl⟩
    rw [hdr, ← hc, scan] at hsc
    have hs0 : s ≠ [] := by intro h; subst h; simp at hi
    have w1 : IntKind.i64.wrap ((i : Int) + 1) = (i : Int) + 1 := wrap_i64 (by omega) (by omega)
    have w2 : IntKind.i64.wrap ((d : Int) + 1) = (d : Int) + 1 := wrap_i64 (by omega) (by omega)
    have w3 : IntKind.i64.wrap ((a : Int) + 1) = (a : Int) + 1 := wrap_i64 (by omega) (by omega)
    have w4 : IntKind.i64.wrap ((b : Int) + 1) = (b : Int) + 1 := wrap_i64 (by omega) (by omega)
    by_cases h46 : c = 46
    · have h46' : c.toNat = 46 := by rw [h46]; rfl
      rw [if_pos h46] at hsc
      simp [a12_0, g0, g6, g5, he1, hi, ← hc, byteV, h46', w1, w2]
      exact kn m _ _ _ (by omega) ⟨rfl, rfl, i + 1, a, b, d + 1, by omega, by omega, hsc, fun _ => hs0, by simp [he1], by simp [he1, g3], by simp [he1, g4], by simp [he1]⟩
    · have h46' : ¬ c.toNat = 46 := fun h => h46 (UInt8.toNat_inj.1 h)
      have h46'' : ¬ (c.toNat : Int) = 46 := by omega
      rw [if_neg h46] at hsc
      by_cases hd : digB c = true
      · have hd2 := digB_iff.1 hd
        have c1 : ¬ (c.toNat : Int) < 48 := by omega
        have c2 : ¬ (57 : Int) < (c.toNat : Int) := by omega
        have c1' : ¬ c.toNat < 48 := by omega
        have c2' : ¬ 57 < c.toNat := by omega
        rw [if_pos hd] at hsc
        by_cases hd0 : d = 0
        · rw [if_pos hd0] at hsc
          have hd0' : (d : Int) = 0 := by omega
          simp [a12_0, g0, g3, g6, g5, he1, hi, ← hc, byteV, h46', h46'', c1, c2, c1', c2', hd0, hd0', w1, w3]
          exact kn m _ _ _ (by omega) ⟨rfl, rfl, i + 1, a + 1, b, d, by omega, by omega, hsc, fun _ => hs0, by simp [he1], by simp [he1], by simp [he1, g4], by simp [he1, g5]⟩
        · rw [if_neg hd0] at hsc
          have hd0' : ¬ (d : Int) = 0 := by omega
          simp [a12_0, g0, g4, g6, g5, he1, hi, ← hc, byteV, h46', h46'', c1, c2, c1', c2', hd0, hd0', w1, w4]
          exact kn m _ _ _ (by omega) ⟨rfl, rfl, i + 1, a, b + 1, d, by omega, by omega, hsc, fun _ => hs0, by simp [he1], by simp [he1, g3], by simp [he1], by simp [he1, g5]⟩
      · rw [if_neg hd] at hsc
        have hrl : refLit s = false := by simp [refLit, hsc]
        have hd2 : ¬ (48 ≤ c.toNat ∧ c.toNat ≤ 57) := fun h => hd (digB_iff.2 h)
        by_cases c1 : c.toNat < 48
        · have c1' : (c.toNat : Int) < 48 := by omega
          simp [a12_0, g0, g6, he1, hi, ← hc, byteV, h46', h46'', c1, c1']
          refine kx _ _ _ _ nofun fun hs' => ?_
          exact hK _ _ _ (.inl rfl) (by simp) ⟨_, rfl, by simp [he1, hrl, AV.still]⟩
        · have c1' : ¬ (c.toNat : Int) < 48 := by omega
          have c2 : 57 < c.toNat := by omega
          have c2' : (57 : Int) < (c.toNat : Int) := by omega
          simp [a12_0, g0, g6, he1, hi, ← hc, byteV, h46', h46'', c1, c1', c2, c2']
          refine kx _ _ _ _ nofun fun hs' => ?_
          exact hK _ _ _ (.inl rfl) (by simp) ⟨_, rfl, by simp [he1, hrl, AV.still]⟩
end Go.Proofs.YtbmakcjladlaaaaDoor

namespace Go.Proofs.YtbmakcjladlaaaaDoor
open Go Ai

/-! What the document's Literal says. -/
theorem scan_two : ∀ (l : List UInt8) (a b d : Nat) {x y z : Nat}, scan l a b d = some (x, y, z) → d ≤ z ∧ (1 ≤ d → z = d → (∀ c ∈ l, digB c = true) ∧ x = a ∧ y = b + l.length)
  | [], a, b, d, x, y, z, h => by
    simp only [scan, Option.some.injEq, Prod.mk.injEq] at h
    obtain ⟨rfl, rfl, rfl⟩ := h
    exact ⟨Nat.le_refl _, fun _ _ => ⟨by simp, rfl, by simp⟩⟩
  | c :: l, a, b, d, x, y, z, h => by
    simp only [scan] at h
    split at h
    · have := (scan_two l a b (d + 1) h).1
      exact ⟨by omega, fun _ _ => by omega⟩
    · split at h
      · rename_i hc
        split at h
        · rename_i hd
          have := (scan_two l (a + 1) b d h).1
          exact ⟨this, fun h1 _ => by omega⟩
        · have h2 := scan_two l a (b + 1) d h
          refine ⟨h2.1, fun h1 h3 => ?_⟩
          obtain ⟨h4, h5, h6⟩ := h2.2 h1 h3
          refine ⟨?_, h5, by simp; omega⟩
          intro q hq
          rw [List.mem_cons] at hq
          rcases hq with rfl | hq
          · exact hc
          · exact h4 q hq
      · cases h
theorem scan_one : ∀ (l : List UInt8) (a b : Nat) {x y z : Nat}, scan l a b 0 = some (x, y, z) → z ≤ 1 →
    (z = 0 → cutAt 46 l = none ∧ (∀ c ∈ l, digB c = true) ∧ x = a + l.length ∧ y = b) ∧ (z = 1 → ∃ p q, cutAt 46 l = some (p, q) ∧ (∀ c ∈ p, digB c = true) ∧ (∀ c ∈ q, digB c = true) ∧ x = a + p.length ∧ y = b + q.length)
  | [], a, b, x, y, z, h, _ => by
    simp only [scan, Option.some.injEq, Prod.mk.injEq] at h
    obtain ⟨rfl, rfl, rfl⟩ := h
    exact ⟨fun _ => ⟨rfl, by simp, rfl, rfl⟩, fun h => by omega⟩
  | c :: l, a, b, x, y, z, h, hz => by
    simp only [scan] at h
    split at h
    · rename_i hc
      subst hc
      have h2 := scan_two l a b (0 + 1) h
      refine ⟨fun h0 => by omega, fun h1 => ?_⟩
      obtain ⟨h4, h5, h6⟩ := h2.2 (by omega) (by omega)
      exact ⟨[], l, by simp [cutAt], by simp, h4, h5, h6⟩
    · rename_i hne
      split at h
      · rename_i hc
        simp only [if_true] at h
        obtain ⟨h1, h2⟩ := scan_one l (a + 1) b h hz
        refine ⟨fun h0 => ?_, fun h0 => ?_⟩
        · obtain ⟨g1, g2, g3, g4⟩ := h1 h0
          refine ⟨by simp [cutAt, hne, g1], ?_, by simp; omega, g4⟩
          intro q hq
          rw [List.mem_cons] at hq
          rcases hq with rfl | hq
          · exact hc
          · exact g2 q hq
        · obtain ⟨p, q, g1, g2, g3, g4, g5⟩ := h2 h0
          refine ⟨c :: p, q, by simp [cutAt, hne, g1], ?_, g3, by simp; omega, g5⟩
          intro r hr
          rw [List.mem_cons] at hr
          rcases hr with rfl | hr
          · exact hc
          · exact g2 r hr
      · cases h
theorem refLit_parts {s : List UInt8} (h : refLit s = true) : ∃ x y, partsAv s = some (x, y) ∧ (∀ c ∈ x, digB c = true) ∧ (∀ c ∈ y, digB c = true) ∧ (cutAt 46 s = some (x, y) ∨ cutAt 46 s = none ∧ x = s ∧ y = []) := by
  unfold refLit at h
  split at h
  · cases h
  · rename_i r hsc
    obtain ⟨a, b, d⟩ := r
    simp only [litOk] at h
    split at h
    · cases h
    · rename_i hn
      obtain ⟨h0, h1⟩ := scan_one s 0 0 hsc (by omega)
      by_cases hd : d = 0
      · obtain ⟨g1, g2, g3, g4⟩ := h0 hd
        refine ⟨s, [], ?_, g2, by simp, .inr ⟨g1, rfl, rfl⟩⟩
        have hall : s.all digB = true := by rw [List.all_eq_true]; exact g2
        have hok : okA s = true := by
          simp only [okA, okD, hall]
          rw [decide_eq_true (by omega), decide_eq_true (by omega)]
          simp only [Bool.or_eq_true, decide_eq_true_eq] at h
          rcases h with h | h
          · rw [decide_eq_false (p := 1 < s.length) (by omega)]; rfl
          · rw [decide_eq_false (p := s.head? = some 48) h]; simp
        simp [partsAv, g1, hok]
      · obtain ⟨p, q, g1, g2, g3, g4, g5⟩ := h1 (by omega)
        refine ⟨p, q, ?_, g2, g3, .inl g1⟩
        obtain ⟨_, hs, _⟩ := cutAt_some g1
        have hall : p.all digB = true := by rw [List.all_eq_true]; exact g2
        have hall2 : q.all digB = true := by rw [List.all_eq_true]; exact g3
        have hh : s.head? = p.head? := by
          cases p with
          | nil => simp at g4; omega
          | cons c p => rw [hs]; rfl
        have hok : okA p = true := by
          simp only [okA, okD, hall]
          rw [decide_eq_true (by omega), decide_eq_true (by omega)]
          simp only [Bool.or_eq_true, decide_eq_true_eq] at h
          rcases h with h | h
          · rw [decide_eq_false (p := 1 < p.length) (by omega)]; rfl
          · rw [hh] at h; rw [decide_eq_false (p := p.head? = some 48) h]; simp
        have hok2 : okD q 40 = true := by
          simp only [okD, hall2]
          rw [decide_eq_true (by omega), decide_eq_true (by omega)]; rfl
        simp [partsAv, g1, hok, hok2]

/-! The order of texts is that of numbers. -/
def sameDots : List UInt8 → List UInt8 → Bool
  | [], [] => true
  | a :: x, b :: y => (decide (a = 46) == decide (b = 46)) && sameDots x y
  | _, _ => false
theorem sameDots_cut : ∀ {s t : List UInt8}, sameDots s t = true → (cutAt 46 s = none ∧ cutAt 46 t = none) ∨ ∃ x y x' y', cutAt 46 s = some (x, y) ∧ cutAt 46 t = some (x', y') ∧ x.length = x'.length ∧ y.length = y'.length
  | [], [], _ => .inl ⟨rfl, rfl⟩
  | [], _ :: _, h => by cases h
  | _ :: _, [], h => by cases h
  | a :: s, b :: t, h => by
    simp only [sameDots, Bool.and_eq_true, beq_iff_eq] at h
    have hl : ∀ {s t : List UInt8}, sameDots s t = true → s.length = t.length := by
      intro s
      induction s with
      | nil => intro t h; cases t with
        | nil => rfl
        | cons => cases h
      | cons a s ih => intro t h; cases t with
        | nil => cases h
        | cons b t =>
          simp only [sameDots, Bool.and_eq_true] at h
          simp [ih h.2]
    by_cases ha : a = 46
    · have hb : b = 46 := by simpa [ha] using h.1
      exact .inr ⟨[], s, [], t, by simp [cutAt, ha], by simp [cutAt, hb], rfl, hl h.2⟩
    · have hb : ¬ b = 46 := by
        intro hb; simp [ha, hb] at h
      rcases sameDots_cut h.2 with ⟨h1, h2⟩ | ⟨x, y, x', y', h1, h2, h3, h4⟩
      · exact .inl ⟨by simp [cutAt, ha, h1], by simp [cutAt, hb, h2]⟩
      · exact .inr ⟨a :: x, y, b :: x', y', by simp [cutAt, ha, h1], by simp [cutAt, hb, h2], by simp [h3], h4⟩
def lexLe (s t : List UInt8) : Bool := bytesLess s t || s == t
theorem less_irrefl : ∀ s : List UInt8, bytesLess s s = false
  | [] => rfl
  | a :: s => by simp [bytesLess, less_irrefl s]
theorem less_append : ∀ {x x' : List UInt8} (y y' : List UInt8), x.length = x'.length → bytesLess (x ++ y) (x' ++ y') = (bytesLess x x' || (x == x' && bytesLess y y'))
  | [], [], y, y', _ => by simp [bytesLess]
  | [], _ :: _, _, _, h => by simp at h
  | _ :: _, [], _, _, h => by simp at h
  | a :: x, b :: x', y, y', h => by
    have ih := less_append (x := x) (x' := x') y y' (by simpa using h)
    simp only [List.cons_append, bytesLess, ih]
    by_cases hab : a = b
    · subst hab; simp
    · have hb : (a == b) = false := by rw [beq_eq_false_iff_ne]; exact hab
      simp [hb]
theorem num_less : ∀ {x x' : List UInt8}, x.length = x'.length → (∀ c ∈ x, digB c = true) → (∀ c ∈ x', digB c = true) → bytesLess x x' = true → numR (digsOf x) < numR (digsOf x')
  | [], [], _, _, _, h => by cases h
  | [], _ :: _, h, _, _, _ => by simp at h
  | _ :: _, [], h, _, _, _ => by simp at h
  | a :: x, b :: x', hl, hx, hx', h => by
    have hl' : x.length = x'.length := by simpa using hl
    have ha := digB_iff.1 (hx a (by simp))
    have hb := digB_iff.1 (hx' b (by simp))
    have e1 : (digsOf x).length = x.length := by simp [digsOf]
    have e2 : (digsOf x').length = x.length := by simp [digsOf, hl']
    have n1 := numR_lt (digsOf x) (digs_lt fun c hc => hx c (by simp [hc]))
    rw [e1] at n1
    have f1 : numR (digsOf (a :: x)) = (a.toNat - 48) * 10 ^ x.length + numR (digsOf x) := by
      show numR ((a.toNat - 48) :: digsOf x) = _
      rw [numR, e1]
    have f2 : numR (digsOf (b :: x')) = (b.toNat - 48) * 10 ^ x.length + numR (digsOf x') := by
      show numR ((b.toNat - 48) :: digsOf x') = _
      rw [numR, e2]
    rw [f1, f2]
    simp only [bytesLess, Bool.or_eq_true, Bool.and_eq_true, decide_eq_true_eq, beq_iff_eq] at h
    rcases h with h | ⟨rfl, h⟩
    · have hab : a.toNat < b.toNat := h
      have : (a.toNat - 48 + 1) * 10 ^ x.length ≤ (b.toNat - 48) * 10 ^ x.length := Nat.mul_le_mul_right _ (by omega)
      rw [Nat.add_mul] at this; omega
    · have := num_less hl' (fun c hc => hx c (by simp [hc])) (fun c hc => hx' c (by simp [hc])) h
      omega
theorem decN_acc : ∀ (l : List UInt8) (u : Nat), l.foldl (fun n c => 10 * n + (c.toNat - 48)) u = u * 10 ^ l.length + numR (digsOf l)
  | [], u => by simp [digsOf, numR]
  | c :: l, u => by
    rw [List.foldl_cons, decN_acc l]
    have e1 : (digsOf l).length = l.length := by simp [digsOf]
    have f1 : numR (digsOf (c :: l)) = (c.toNat - 48) * 10 ^ l.length + numR (digsOf l) := by
      show numR ((c.toNat - 48) :: digsOf l) = _
      rw [numR, e1]
    rw [f1, List.length_cons, Nat.pow_succ, Nat.add_mul, Nat.mul_comm 10 u, Nat.mul_assoc, Nat.mul_comm 10]
    omega
theorem decN_num (l : List UInt8) : decN l = numR (digsOf l) := by
  rw [decN, decN_acc]; simp
theorem size_le {x y x' y' : List UInt8} (hx : x.length = x'.length) (hy : y.length = y'.length) (d1 : ∀ c ∈ x, digB c = true) (d2 : ∀ c ∈ y, digB c = true) (d3 : ∀ c ∈ x', digB c = true) (d4 : ∀ c ∈ y', digB c = true)
    (h : bytesLess x x' = true ∨ x = x' ∧ (bytesLess y y' = true ∨ y = y')) : sizeN (x, y) ≤ sizeN (x', y') := by
  have f1 := frac_lt d2
  have f2 := frac_lt d4
  rcases h with h | ⟨rfl, h⟩
  · have := num_less hx d1 d3 h
    rw [← decN_num, ← decN_num] at this
    simp only [sizeN]
    split <;> split <;> omega
  · rcases h with h | rfl
    · have hn := num_less hy d2 d4 h
      have g1 := fracN_eq 32 (digsOf y) 0 (digs_lt d2)
      have g2 := fracN_eq 32 (digsOf y') 0 (digs_lt d4)
      have e1 : (digsOf y).length = (digsOf y').length := by simp [digsOf, hy]
      have hle : fracN 32 (digsOf y) 0 ≤ fracN 32 (digsOf y') 0 := by
        rw [g1, g2, e1, Nat.zero_mul, Nat.zero_add, Nat.zero_add]
        exact (Nat.div_le_div_right (Nat.mul_le_mul_right _ (Nat.le_of_lt hn)))
      simp only [sizeN]
      split <;> omega
    · exact Nat.le_refl _
theorem order {s t : List UInt8} (hs : refLit s = true) (ht : refLit t = true) (hd : sameDots s t = true) (hl : s.length = t.length) (hle : (bytesLess s t || s == t) = true) :
    ∃ p p', partsAv s = some p ∧ partsAv t = some p' ∧ sizeN p ≤ sizeN p' := by
  obtain ⟨x, y, h1, h2, h3, h4⟩ := refLit_parts hs
  obtain ⟨x', y', g1, g2, g3, g4⟩ := refLit_parts ht
  refine ⟨_, _, h1, g1, ?_⟩
  simp only [Bool.or_eq_true, beq_iff_eq] at hle
  rcases sameDots_cut hd with ⟨k1, k2⟩ | ⟨a, b, a', b', k1, k2, k3, k4⟩
  · rcases h4 with h4 | ⟨_, rfl, rfl⟩
    · rw [k1] at h4; cases h4
    · rcases g4 with g4 | ⟨_, rfl, rfl⟩
      · rw [k2] at g4; cases g4
      · refine size_le hl rfl h2 h3 g2 g3 ?_
        rcases hle with h | h
        · exact .inl h
        · exact .inr ⟨h, .inr rfl⟩
  · rcases h4 with h4 | ⟨h4, _⟩
    · rw [k1] at h4; cases h4
      rcases g4 with g4 | ⟨g4, _⟩
      · rw [k2] at g4; cases g4
        obtain ⟨_, e1, _⟩ := cutAt_some k1
        obtain ⟨_, e2, _⟩ := cutAt_some k2
        refine size_le k3 k4 h2 h3 g2 g3 ?_
        rcases hle with h | h
        · rw [e1, e2, less_append _ _ k3] at h
          simp only [Bool.or_eq_true, Bool.and_eq_true, beq_iff_eq, bytesLess] at h
          rcases h with h | ⟨hx, h⟩
          · exact .inl h
          · refine .inr ⟨hx, .inl ?_⟩
            simpa using h
        · rw [e1, e2] at h
          have hx := List.append_inj h k3
          exact .inr ⟨hx.1, .inr (by simpa using hx.2)⟩
      · rw [k2] at g4; cases g4
    · rw [k1] at h4; cases h4

theorem fn5 : A.fn 5 = some a5 := by kernel_rfl
theorem prim5 : A.prim 5 = none := by kernel_rfl
def w5_0 : List Nat := a5_0.writes
def r5 : ACode := match a5.body with
  | .seq _ (.seq _ (.seq _ (.seq _ r))) => r
  | _ => .skip
set_option maxHeartbeats 1000000 in
theorem law5_tail {s t : List UInt8} (hsl : s.length ≤ 100) (hl : s.length = t.length) (h3 : refLit s = true) (h4 : refLit t = true) (h5 : (bytesLess s t || s == t) = true) {e : Env} {K : PostQ} (he : e.length = 72)
    (a0 : AX.ev e (.t 0) = .str s) (a1 : AX.ev e (.t 1) = .str t) (a5 : AX.ev e (.t 5) = .int .i64 0) (fin : ∀ E : Env, E.length = 72 → AX.ev E (.t 4) = .bool true → K .ret E [] []) :
    AW A 5 none (.loop a5_0) e [] [] (Blk 0 (SeqQ A 5 none r5 K)) := by
  refine aw_loop (W := w5_0) rfl (fun m e ds st' => ds = [] ∧ st' = [] ∧ ∃ i : Nat, i + m = s.length ∧ sameDots s t = sameDots (s.drop i) (t.drop i) ∧ AX.ev e (.t 5) = .int .i64 i) s.length
    ⟨rfl, rfl, 0, by simp, by simp, by simp [a5]⟩ ?_
  rintro m e1 ds st' hs' ⟨rfl, rfl, i, hm, hsd, g5⟩ K1 kn kx
  have he1 : e1.length = 72 := by simp [hs'.1, he]
  have g0 := hs'.ev 0 rfl (v := .str s) (by simp [a0])
  have g1 := hs'.ev 1 rfl (v := .str t) (by simp [a1])
  cases m with
  | zero =>
    have : i = s.length := by omega
    subst this
    have hd : sameDots s t = true := by
      rw [hsd, List.drop_length, hl, List.drop_length]; rfl
    obtain ⟨p, p', o1, o2, o3⟩ := order h3 h4 hd hl h5
    have r1 := parse_call (s := s) (by omega) StOk.nil
    have r2 := parse_call (s := t) (by omega) StOk.nil
    rw [o1] at r1
    rw [o2] at r2
    obtain ⟨u, hu⟩ : ∃ u, u = sizeN p := ⟨_, rfl⟩
    obtain ⟨v, hv⟩ : ∃ v, v = sizeN p' := ⟨_, rfl⟩
    rw [← hu, ← hv] at o3
    simp only [parseV, ← hu] at r1
    simp only [parseV, ← hv] at r2
    simp [a5_0, g0, g5, he1]
    refine kx _ _ _ _ nofun fun hs' => ?_
    by_cases hb : 9223372036854775807 < v
    · rw [if_pos hb] at r2
      by_cases hb2 : 9223372036854775807 < u
      · rw [if_pos hb2] at r1
        simp [r5, Go.Proofs.YtbmakcjladlaaaaDoor.a5, g0, g1, he1, r1, r2]
        refine fin _ ?_ ?_ <;> simp [he1]
      · rw [if_neg hb2] at r1
        simp [r5, Go.Proofs.YtbmakcjladlaaaaDoor.a5, g0, g1, he1, r1, r2]
        refine fin _ ?_ ?_ <;> simp [he1]
    · rw [if_neg hb] at r2
      rw [if_neg (by omega)] at r1
      have o3' : (u : Int) ≤ (v : Int) := by omega
      simp [r5, Go.Proofs.YtbmakcjladlaaaaDoor.a5, g0, g1, he1, r1, r2, o3, o3']
      refine fin _ ?_ ?_ <;> simp [he1]
  | succ m =>
    have hi : i < s.length := by omega
    have hi2 : i < t.length := by omega
    have hdr : s.drop i = s[i] :: s.drop (i + 1) := List.drop_eq_getElem_cons hi
    have hdr2 : t.drop i = t[i] :: t.drop (i + 1) := List.drop_eq_getElem_cons hi2
    obtain ⟨c, hc⟩ : ∃ c, c = s[i] := ⟨_, rfl⟩
    obtain ⟨d, hd⟩ : ∃ d, d = t[i] := ⟨_, rfl⟩
    rw [hdr, hdr2, ← hc, ← hd, sameDots] at hsd
    have w1 : IntKind.i64.wrap ((i : Int) + 1) = (i : Int) + 1 := wrap_i64 (by omega) (by omega)
    have n46 : ∀ c : UInt8, c ≠ 46 → ¬ c.toNat = 46 ∧ ¬ (c.toNat : Int) = 46 := by
      intro c h
      have : ¬ c.toNat = 46 := fun hh => h (UInt8.toNat_inj.1 hh)
      exact ⟨this, by omega⟩
    have y46 : (46 : UInt8).toNat = 46 := rfl
    by_cases hc46 : c = 46
    · by_cases hd46 : d = 46
      · have hsd' : sameDots s t = sameDots (s.drop (i + 1)) (t.drop (i + 1)) := by rw [hsd, hc46, hd46]; simp
        rw [hc46] at hc
        rw [hd46] at hd
        simp [a5_0, g0, g1, g5, he1, hi, hi2, ← hc, ← hd, byteV, y46, w1]
        exact kn m _ _ _ (by omega) ⟨rfl, rfl, i + 1, by omega, hsd', by simp [he1]⟩
      · obtain ⟨n1, n2⟩ := n46 d hd46
        rw [hc46] at hc
        simp [a5_0, g0, g1, g5, he1, hi, hi2, ← hc, ← hd, byteV, y46, n1, n2, hd46]
        refine kx _ _ _ _ nofun fun hs' => ?_
        refine fin _ ?_ ?_ <;> simp [he1]
    · obtain ⟨n1, n2⟩ := n46 c hc46
      by_cases hd46 : d = 46
      · rw [hd46] at hd
        simp [a5_0, g0, g1, g5, he1, hi, hi2, ← hc, ← hd, byteV, y46, n1, n2, hc46]
        refine kx _ _ _ _ nofun fun hs' => ?_
        refine fin _ ?_ ?_ <;> simp [he1]
      · obtain ⟨n3, n4⟩ := n46 d hd46
        have hsd' : sameDots s t = sameDots (s.drop (i + 1)) (t.drop (i + 1)) := by rw [hsd]; simp [hc46, hd46]
        simp [a5_0, g0, g1, g5, he1, hi, hi2, ← hc, ← hd, byteV, n1, n2, n3, n4, hc46, hd46, w1]
        exact kn m _ _ _ (by omega) ⟨rfl, rfl, i + 1, by omega, hsd', by simp [he1]⟩

set_option maxHeartbeats 1000000 in
theorem law5_run {s t : List UInt8} (hsl : s.length ≤ 1000000000) : runL A (.seqc 5 [.str s, .str t]) [] = some ⟨.ret, ⟨[.bool true], []⟩, []⟩ := by
  refine (task_of_aw (N := 72) prim5 fn5 rfl rfl StOk.nil ?_).2
  intro e he ha K hK
  have a0 := ha 0
  have a1 := ha 1
  clear ha
  simp at a0 a1
  have fin : ∀ E : Env, E.length = 72 → AX.ev E (.t 4) = .bool true → K .ret E [] [] := by
    intro E hE h4
    exact hK _ _ _ (.inl rfl) (by simp) ⟨[.bool true], by
      have : E[4]'(by omega) = .bool true := by simpa [AX.ev, List.getD_eq_getElem?_getD, hE] using h4
      simp [a5, resultsA, resA, hE, this], by simp [oneOf, AV.still]⟩
  by_cases h1 : 100 < s.length
  · have h1' : (100 : Int) < (s.length : Int) := by omega
    simp [a5, he, a0, a1, alive_call, h1, h1']
    refine fin _ ?_ ?_ <;> simp [he]
  · have h1' : ¬ (100 : Int) < (s.length : Int) := by omega
    by_cases h2 : s.length = t.length
    · have h2' : (s.length : Int) = (t.length : Int) := by omega
      have h1t : ¬ (100 : Int) < (t.length : Int) := by omega
      have h1t' : ¬ 100 < t.length := by omega
      have r1 := refLit_call (s := s) (by omega) StOk.nil
      have r2 := refLit_call (s := t) (by omega) StOk.nil
      cases h3 : refLit s with
      | false =>
        rw [h3] at r1
        simp [a5, he, a0, a1, alive_call, h1, h1', h2, h2', h1t, h1t', r1]
        refine fin _ ?_ ?_ <;> simp [he]
      | true =>
        rw [h3] at r1
        cases h4 : refLit t with
        | false =>
          rw [h4] at r2
          simp [a5, he, a0, a1, alive_call, h1, h1', h2, h2', h1t, h1t', r1, r2]
          refine fin _ ?_ ?_ <;> simp [he]
        | true =>
          rw [h4] at r2
          cases h5 : (bytesLess s t || s == t) with
          | false =>
            obtain ⟨h5a, h5b⟩ := Bool.or_eq_false_iff.1 h5
            have h5c : ¬ s = t := by simpa using h5b
            simp [a5, he, a0, a1, alive_call, h1, h1', h2, h2', h1t, h1t', r1, r2, h5a, h5b, h5c]
            refine fin _ ?_ ?_ <;> simp [he]
          | true =>
            cases hb : bytesLess s t with
            | true =>
              simp [a5, he, a0, a1, alive_call, h1, h1', h2, h2', h1t, h1t', r1, r2, hb]
              exact law5_tail (by omega) h2 h3 h4 h5 (by simp [he]) (by simp [a0]) (by simp [a1]) (by simp [he]) fin
            | false =>
              have hst : s = t := by simpa [hb] using h5
              subst hst
              simp [a5, he, a0, a1, alive_call, h1, h1', r1, r2, hb]
              exact law5_tail (by omega) h2 h3 h4 h5 (by simp [he]) (by simp [a0]) (by simp [a1]) (by simp [he]) fin
    · have h2' : ¬ (s.length : Int) = (t.length : Int) := by omega
      simp [a5, he, a0, a1, alive_call, h1, h1', h2, h2']
      refine fin _ ?_ ?_ <;> simp [he]
end Go.Proofs.YtbmakcjladlaaaaDoor

namespace Go.Proofs.YtbmakcjladlaaaaDoor
open Go Ai

set_option maxRecDepth 100000 in
theorem runsDecBack (avs : List AV) (h : ArgsOf Tryd.prog 8 Tryd.f7.params.toList avs) (_ : AV.bulks avs ≤ 1048576) : ∃ st ds, runL A (.seqc 7 avs) [] = some ⟨.ret, ⟨[.bool true], ds⟩, st⟩ := by
  rw [Tryd.params7] at h
  simp only [ArgsOf] at h
  obtain ⟨a, _, rfl, h1, rfl⟩ := h
  obtain ⟨q, rfl, hq⟩ := ofType_int Tryd.underlying2 h1
  have := i64_bounds hq
  exact ⟨_, _, law7_run this.1 this.2⟩
set_option maxRecDepth 100000 in
theorem runsDecOrder (avs : List AV) (h : ArgsOf Tryd.prog 8 Tryd.f5.params.toList avs) (hb : AV.bulks avs ≤ 1048576) : ∃ st ds, runL A (.seqc 5 avs) [] = some ⟨.ret, ⟨[.bool true], ds⟩, st⟩ := by
  rw [Tryd.params5] at h
  simp only [ArgsOf] at h
  obtain ⟨a, _, rfl, h1, c, _, rfl, h2, rfl⟩ := h
  obtain ⟨s, rfl, _⟩ := ofType_str (by kernel_rfl) h1
  obtain ⟨t, rfl, _⟩ := ofType_str (by kernel_rfl) h2
  exact ⟨_, _, law5_run (by simp [AV.bulks, AV.bulk] at hb; omega)⟩
end Go.Proofs.YtbmakcjladlaaaaDoor

