/- Chapter 25: trace.Lines and the document's Lines run symbolically; TraceLines. No condition. -/
import Derived.Test.YtfkmdajlpnkebaaDoorHb
import Derived.Test.YtfkmdajlpnkebaaDoorEd
import Derived.Test.YtfkmdajlpnkebaaDoorHa
import Derived.Lib.ItoaLen
set_option linter.unusedVariables false
set_option linter.unusedSimpArgs false
namespace Go.Proofs.YtfkmdajlpnkebaaDoor
open Go Ai

def byteOf (n : Nat) : UInt8 := UInt8.ofNat (48 + n)
def fr : Nat → Nat → List UInt8
  | 0, _ => []
  | n + 1, b => byteOf (b * 10 / 4294967296) :: fr n (b * 10 % 4294967296)
def trim0 (l : List UInt8) : List UInt8 := Lib.trimRightB l 48
def shortF (q : Int) (k : Nat) : List UInt8 :=
  let s := (if q < 0 then [45] else []) ++ Lib.decDigits (q.natAbs / 4294967296)
  let f := trim0 (fr k (q.natAbs % 4294967296))
  if f = [] then s else s ++ 46 :: f
def clamp (n : Int) : Nat := if n < 0 then 0 else if 32 < n then 32 else n.toNat

theorem fr_length : ∀ n b, (fr n b).length = n
  | 0, _ => rfl
  | n + 1, b => by simp [fr, fr_length n]
theorem dec_len (u : Nat) (h : u < 18446744073709551616) : (Lib.decDigits u).length ≤ 20 := by
  rw [Lib.decDigits_length]; exact Lib.nDigits_le20 u h

theorem trim0_snoc (l : List UInt8) : trim0 (l ++ [48]) = trim0 l := by
  simp [trim0, Lib.trimRightB]
theorem trim0_keep {l : List UInt8} {c : UInt8} (h : c ≠ 48) : trim0 (l ++ [c]) = l ++ [c] := by
  simp [trim0, Lib.trimRightB, h]
theorem trim0_nil : trim0 [] = [] := rfl
theorem trim0_zeros (l : List UInt8) : ∀ k, trim0 (l ++ List.replicate k 48) = trim0 l
  | 0 => by simp
  | k + 1 => by
    rw [List.replicate_succ', ← List.append_assoc, trim0_snoc, trim0_zeros l k]
theorem fr_zero : ∀ k, fr k 0 = List.replicate k 48
  | 0 => rfl
  | k + 1 => by simp [fr, fr_zero k, List.replicate_succ]; decide

theorem fn22 : A.fn 22 = some a22 := by kernel_rfl
theorem prim22 : A.prim 22 = none := by kernel_rfl
def w22_0 : List Nat := a22_0.writes
def w22_1 : List Nat := a22_1.writes
def w22_2 : List Nat := a22_2.writes

theorem wrap_u64 {n : Int} (h0 : 0 ≤ n) (h1 : n < 18446744073709551616) : IntKind.u64.wrap n = n := by
  simp [IntKind.wrap, IntKind.signed, IntKind.bits]; omega
theorem wrap_u8 {n : Int} (h0 : 0 ≤ n) (h1 : n < 256) : IntKind.u8.wrap n = n := by
  simp [IntKind.wrap, IntKind.signed, IntKind.bits]; omega

theorem tmodN {u : Nat} {b : Int} : (u : Int).tmod b = (u : Int) % b := Int.tmod_eq_emod_of_nonneg (by omega)
attribute [simp] tmodN

set_option maxRecDepth 20000 in
theorem short_a {u0 : Nat} (hu : u0 < 18446744073709551616) {e : Env} {st : St} {Q : PostQ} (he : e.length = 90) (h7 : AX.ev e (.t 7) = .int .u64 u0) (h9 : AX.ev e (.t 9) = .str [])
    (hQ : ∀ e' a d, Same w22_2 e e' → a < 10 → AX.ev e' (.t 7) = .int .u64 (a : Nat) → AX.ev e' (.t 9) = .str d → Lib.decDigits u0 = byteOf a :: d → Q (.exit 0) e' [] st) :
    AW A 22 none (.loop a22_2) e [] st Q := by
  refine aw_loop (W := w22_2) rfl (fun k e ds st' => ds = [] ∧ st' = st ∧ ∃ (a : Nat) (d : List UInt8), a = k ∧ a < 18446744073709551616 ∧ Lib.decDigits u0 = Lib.decDigits a ++ d ∧ AX.ev e (.t 7) = .int .u64 a ∧ AX.ev e (.t 9) = .str d) u0 ⟨rfl, rfl, u0, [], rfl, hu, by simp, h7, h9⟩ ?_
  rintro k e1 ds st' hs ⟨rfl, rfl, a, d, rfl, ha, hd, g7, g9⟩ K kn kx
  have he1 : e1.length = 90 := by simp [hs.1, he]
  have hlen : (Lib.decDigits a).length + d.length ≤ 20 := by
    have := dec_len u0 hu; rw [hd] at this; simpa using this
  by_cases h10 : 10 ≤ a
  · have h10' : (10 : Int) ≤ (a : Int) := by omega
    obtain ⟨c, hc⟩ : ∃ c : Nat, c = 48 + a % 10 := ⟨_, rfl⟩
    have w1 : IntKind.u64.wrap (48 + (a : Int) % 10) = (c : Int) := by rw [wrap_u64 (by omega) (by omega)]; omega
    have w2 : IntKind.u8.wrap (c : Int) = (c : Int) := wrap_u8 (by omega) (by omega)
    have w4 : (c : Int) < 256 := by omega
    have w4' : c < 256 := by omega
    have w3 : IntKind.u64.wrap ((a : Int) / 10) = ((a / 10 : Nat) : Int) := by rw [wrap_u64 (by omega) (by omega)]; simp
    have w6 : 1 + d.length ≤ 281474976710656 := by omega
    have w7 : d.length + 1 ≤ 281474976710656 := by omega
    simp [a22_2, g7, g9, he1, h10', h10, w1, w2, w3, w4, w4', w6, w7, ofBytes]
    have hdd : Lib.decDigits a = Lib.decDigits (a / 10) ++ [byteOf (a % 10)] := by
      rw [Lib.decDigits, dif_neg (by omega)]; rfl
    exact kn (a / 10) _ _ _ (by omega) ⟨rfl, rfl, a / 10, byteOf (a % 10) :: d, rfl, by omega, by rw [hd, hdd]; simp, by simp [he1], by simp [he1, byteOf, hc]⟩
  · have h10' : ¬ (10 : Int) ≤ (a : Int) := by omega
    simp [a22_2, g7, g9, he1, h10', h10]
    refine kx _ _ _ _ nofun fun hs' => ?_
    have hdd : Lib.decDigits a = [byteOf a] := by rw [Lib.decDigits, dif_pos (by omega)]; rfl
    exact hQ _ a d hs' (by omega) (by simp [g7]) (by simp [g9]) (by rw [hd, hdd]; rfl)

set_option maxRecDepth 20000 in
theorem short_f {n b0 : Nat} (hn : n ≤ 32) (hb : b0 < 4294967296) {e : Env} {st : St} {Q : PostQ} (he : e.length = 90) (h1 : AX.ev e (.t 1) = .int .i64 n) (h8 : AX.ev e (.t 8) = .int .u64 b0) (h10 : AX.ev e (.t 10) = .str []) (h11 : AX.ev e (.t 11) = .int .i64 0)
    (hQ : ∀ e', Same w22_1 e e' → AX.ev e' (.t 10) = .str (fr n b0) → Q (.exit 2) e' [] st) :
    AW A 22 none (.loop a22_1) e [] st Q := by
  refine aw_loop (W := w22_1) rfl (fun k e ds st' => ds = [] ∧ st' = st ∧ ∃ (i b : Nat) (f : List UInt8), i + k = n ∧ b < 4294967296 ∧ f.length = i ∧ f ++ fr k b = fr n b0 ∧ AX.ev e (.t 11) = .int .i64 i ∧ AX.ev e (.t 8) = .int .u64 b ∧ AX.ev e (.t 10) = .str f) n ⟨rfl, rfl, 0, b0, [], by omega, hb, rfl, by simp, h11, h8, h10⟩ ?_
  rintro k e1 ds st' hs ⟨rfl, rfl, i, b, f, hk, hb', hf, hfr, g11, g8, g10⟩ K kn kx
  have he1 : e1.length = 90 := by simp [hs.1, he]
  have g1 := hs.ev 1 rfl h1
  cases k with
  | zero =>
    have : i = n := by omega
    subst this
    simp [a22_1, g1, g11, he1]
    refine kx _ _ _ _ nofun fun hs' => ?_
    exact hQ _ hs' (by simp [g10]; simpa [fr] using hfr)
  | succ k =>
    have hi : i < n := by omega
    have hq : b * 10 / 4294967296 < 10 := by omega
    have w0 : IntKind.u64.wrap ((b : Int) * 10) = (b : Int) * 10 := wrap_u64 (by omega) (by omega)
    have w1 : IntKind.u64.wrap ((b : Int) * 10 / 4294967296) = ((b * 10 / 4294967296 : Nat) : Int) := by rw [wrap_u64 (by omega) (by omega)]; simp
    obtain ⟨c, hc⟩ : ∃ c : Nat, c = 48 + b * 10 / 4294967296 := ⟨_, rfl⟩
    have w2 : IntKind.u64.wrap (48 + (b : Int) * 10 / 4294967296) = (c : Int) := by rw [wrap_u64 (by omega) (by omega)]; omega
    have w3 : IntKind.u8.wrap (c : Int) = (c : Int) := wrap_u8 (by omega) (by omega)
    have w4 : (c : Int) < 256 := by omega
    have w4' : c < 256 := by omega
    have w6 : f.length + 1 ≤ 281474976710656 := by omega
    have w7 : IntKind.i64.wrap ((i : Int) + 1) = (i : Int) + 1 := wrap_i64 (by omega) (by omega)
    have w8 : (0 : Int) ≤ (b : Int) * 10 := by omega
    simp [a22_1, g1, g8, g10, g11, he1, hi, w0, w1, w2, w3, w4, w4', w6, w7, Int.tdiv_eq_ediv_of_nonneg w8, Int.tmod_eq_emod_of_nonneg w8, ofBytes]
    exact kn k _ _ _ (by omega) ⟨rfl, rfl, i + 1, b * 10 % 4294967296, f ++ [byteOf (b * 10 / 4294967296)], by omega, by omega, by simp [hf], by rw [← hfr]; simp [fr], by simp [he1], by simp [he1], by simp [he1, byteOf, hc]⟩

theorem short_t {f0 : List UInt8} (hf0 : f0.length ≤ 32) {e : Env} {st : St} {Q : PostQ} (he : e.length = 90) (h10 : AX.ev e (.t 10) = .str f0)
    (hQ : ∀ e', Same w22_0 e e' → AX.ev e' (.t 10) = .str (trim0 f0) → Q (.exit 4) e' [] st) :
    AW A 22 none (.loop a22_0) e [] st Q := by
  refine aw_loop (W := w22_0) rfl (fun k e ds st' => ds = [] ∧ st' = st ∧ ∃ f : List UInt8, f.length = k ∧ f.length ≤ 32 ∧ trim0 f = trim0 f0 ∧ AX.ev e (.t 10) = .str f) f0.length ⟨rfl, rfl, f0, rfl, hf0, rfl, h10⟩ ?_
  rintro k e1 ds st' hs ⟨rfl, rfl, f, hk, hf, htr, g10⟩ K kn kx
  have he1 : e1.length = 90 := by simp [hs.1, he]
  rcases List.eq_nil_or_concat f with rfl | ⟨f', c, hfc⟩
  · simp [a22_0, g10, he1]
    refine kx _ _ _ _ nofun fun hs' => ?_
    exact hQ _ hs' (by simp [g10]; rw [← htr]; rfl)
  · rw [List.concat_eq_append] at hfc
    subst hfc
    simp at hf hk
    have w0 : IntKind.i64.wrap (f'.length : Int) = (f'.length : Int) := wrap_i64 (by omega) (by omega)
    have w1 : IntKind.i64.wrap ((f'.length : Int) + 1 - 1) = (f'.length : Int) := by rw [wrap_i64 (by omega) (by omega)]; omega
    by_cases hc : c = 48
    · subst hc
      have hle1 : (f'.length : Int) ≤ (f'.length : Int) + 1 := by omega
      simp [a22_0, g10, he1, w0, w1, byteV, bound, hle1]
      exact kn f'.length _ _ _ (by omega) ⟨rfl, rfl, f', rfl, by omega, by rw [← htr, trim0_snoc], by simp [he1]⟩
    · have hc' : ¬ (c.toNat : Int) = 48 := fun h => hc (UInt8.toNat_inj.1 (show c.toNat = 48 by omega))
      have hc'' : ¬ c.toNat = 48 := by omega
      simp [a22_0, g10, he1, w0, w1, hc, hc', hc'', byteV, bound]
      refine kx _ _ _ _ nofun fun hs' => ?_
      exact hQ _ hs' (by rw [← htr, trim0_keep hc]; simp [g10])

def r22 : ACode := match a22.body with
  | .seq _ (.seq _ (.seq _ (.seq _ (.seq _ (.seq _ (.seq _ (.seq _ (.seq _ (.seq _ r))))))))) => r
  | _ => .skip

theorem short_tail {u k : Nat} {s : List UInt8} (hu : u < 18446744073709551616) (hk : k ≤ 32) (hs : s.length ≤ 1) {e : Env} {st : St} {K : PostQ} (he : e.length = 90) (h1 : AX.ev e (.t 1) = .int .i64 k) (h5 : AX.ev e (.t 5) = .str s)
    (h7 : AX.ev e (.t 7) = .int .u64 (u / 4294967296 : Nat)) (h8 : AX.ev e (.t 8) = .int .u64 (u % 4294967296 : Nat)) (h9 : AX.ev e (.t 9) = .str [])
    (hK : ∀ e2, e2.length = 90 → AX.ev e2 (.t 4) = .str (if trim0 (fr k (u % 4294967296)) = [] then s ++ Lib.decDigits (u / 4294967296) else (s ++ Lib.decDigits (u / 4294967296)) ++ 46 :: trim0 (fr k (u % 4294967296))) → K .ret e2 [] st) :
    AW A 22 none (.loop a22_2) e [] st (Blk 0 (SeqQ A 22 none r22 K)) := by
  refine short_a (u0 := u / 4294967296) (by omega) he h7 h9 ?_
  intro e2 a d hs2 ha g7 g9 hd
  have he2 : e2.length = 90 := by simp [hs2.1, he]
  have g1 := hs2.ev 1 rfl h1
  have g5 := hs2.ev 5 rfl h5
  have g8 := hs2.ev 8 rfl h8
  have hdl : d.length ≤ 20 := by have := dec_len (u / 4294967296) (by omega); rw [hd] at this; simp at this; omega
  obtain ⟨c, hc⟩ : ∃ c : Nat, c = 48 + a := ⟨_, rfl⟩
  have w1 : IntKind.u64.wrap (48 + (a : Int)) = (c : Int) := by rw [wrap_u64 (by omega) (by omega)]; omega
  have w2 : IntKind.u8.wrap (c : Int) = (c : Int) := wrap_u8 (by omega) (by omega)
  have w4 : (c : Int) < 256 := by omega
  have w4' : c < 256 := by omega
  have w6 : s.length + 1 ≤ 281474976710656 := by omega
  have w7 : s.length + 1 + d.length ≤ 281474976710656 := by omega
  have w7' : s.length + (d.length + 1) ≤ 281474976710656 := by omega
  simp [r22, a22, g5, g7, g9, he2, w1, w2, w4, w4', w6, w7, w7', ofBytes]
  refine short_f (n := k) (b0 := u % 4294967296) hk (by omega) (by simp [he2]) (by simp [g1]) (by simp [g8]) (by simp [he2]) (by simp [he2]) ?_
  intro e3 hs3 k10
  have he3 : e3.length = 90 := by simp [hs3.1, he2]
  have k5 := hs3.ev 5 rfl (v := .str (s ++ Lib.decDigits (u / 4294967296))) (by simp [he2, hd, byteOf, hc])
  simp
  refine short_t (f0 := fr k (u % 4294967296)) (by rw [fr_length]; exact hk) (by simp [he3]) (by simp [k10]) ?_
  intro e4 hs4 m10
  have he4 : e4.length = 90 := by simp [hs4.1, he3]
  have m5 := hs4.ev 5 rfl k5
  have hl1 : (Lib.decDigits (u / 4294967296)).length ≤ 20 := dec_len _ (by omega)
  have hl2 : (trim0 (fr k (u % 4294967296))).length ≤ 32 := by
    have : (trim0 (fr k (u % 4294967296))).length ≤ (fr k (u % 4294967296)).length := by
      simp only [trim0, Lib.trimRightB, List.length_reverse]
      have := (List.dropWhile_sublist (fun b : UInt8 => b == 48) (l := (fr k (u % 4294967296)).reverse)).length_le
      simpa using this
    rw [fr_length] at this; omega
  by_cases hz : trim0 (fr k (u % 4294967296)) = []
  · simp [m10, m5, he4, hz]
    exact hK _ (by simp [he4]) (by simp [he4, hz])
  · have w8 : s.length + (Lib.decDigits (u / 4294967296)).length + 1 ≤ 281474976710656 := by omega
    have w9 : s.length + (Lib.decDigits (u / 4294967296)).length + 1 + (trim0 (fr k (u % 4294967296))).length ≤ 281474976710656 := by omega
    have w9' : s.length + ((Lib.decDigits (u / 4294967296)).length + 1) ≤ 281474976710656 := by omega
    have w10 : s.length + ((Lib.decDigits (u / 4294967296)).length + 1) + (trim0 (fr k (u % 4294967296))).length ≤ 281474976710656 := by omega
    have w11 : s.length + ((Lib.decDigits (u / 4294967296)).length + (trim0 (fr k (u % 4294967296))).length + 1) ≤ 281474976710656 := by omega
    simp [m10, m5, he4, hz, w8, w9, w9', w10, w11]
    exact hK _ (by simp [he4]) (by simp [he4, hz])

theorem ref_short_call {q n : Int} (hq0 : -9223372036854775808 ≤ q) (hq1 : q ≤ 9223372036854775807) {st : St} (hst : StOk st) :
    runL A (.call 22 [.int .i64 q, .int .i64 n]) st = some ⟨.ret, ⟨[.str (shortF q (clamp n))], []⟩, st⟩ := by
  refine (task_of_aw (N := 90) prim22 fn22 rfl rfl hst ?_).1
  intro e he ha K hK
  have a0 := ha 0
  have a1 := ha 1
  clear ha
  simp at a0 a1
  obtain ⟨u, hu⟩ : ∃ u : Nat, u = q.natAbs := ⟨_, rfl⟩
  have hu64 : u < 18446744073709551616 := by omega
  have w1 : IntKind.u64.wrap ((u : Int) / 4294967296) = ((u / 4294967296 : Nat) : Int) := by rw [wrap_u64 (by omega) (by omega)]; simp
  have fin : ∀ (s : List UInt8), s = (if q < 0 then [45] else []) → ∀ e2 : Env, e2.length = 90 → AX.ev e2 (.t 4) = .str (if trim0 (fr (clamp n) (u % 4294967296)) = [] then s ++ Lib.decDigits (u / 4294967296) else (s ++ Lib.decDigits (u / 4294967296)) ++ 46 :: trim0 (fr (clamp n) (u % 4294967296))) → K .ret e2 [] st := by
    intro s hs e2 he2 h4
    refine hK _ _ _ (.inl rfl) (by simp) ⟨_, congrArg (fun v => some [v]) h4, ?_⟩
    simp [shortF, hs, hu]
  by_cases hq : q < 0
  · have hqu : q = -(u : Int) := by omega
    have w2 : IntKind.u64.wrap q = q + 18446744073709551616 := by
      simp [IntKind.wrap, IntKind.signed, IntKind.bits]; omega
    have w3 : IntKind.i64.wrap (q + 1) = q + 1 := wrap_i64 (by omega) (by omega)
    have w4 : IntKind.i64.wrap (0 - (q + 1)) = (u : Int) - 1 := by rw [wrap_i64 (by omega) (by omega)]; omega
    have w4' : IntKind.i64.wrap (-(q + 1)) = (u : Int) - 1 := by rw [wrap_i64 (by omega) (by omega)]; omega
    have w5 : IntKind.u64.wrap ((u : Int) - 1) = (u : Int) - 1 := wrap_u64 (by omega) (by omega)
    have w6 : IntKind.u64.wrap ((u : Int) - 1 + 1) = (u : Int) := by rw [wrap_u64 (by omega) (by omega)]; omega
    have w6' : IntKind.u64.wrap (u : Int) = (u : Int) := wrap_u64 (by omega) (by omega)
    by_cases hn0 : n < 0
    · simp [a22, he, a0, a1, hq, hn0, w1, w2, w3, w4, w4', w5, w6, w6']
      exact short_tail (u := u) (k := clamp n) (s := [45]) hu64 (by simp [clamp, hn0]) (by simp) (by simp [he]) (by simp [he, clamp, hn0]) (by simp [he]) (by simp [he]) (by simp [he]) (by simp [he]) (fin [45] (by simp [hq]))
    · by_cases hn1 : 32 < n
      · simp [a22, he, a0, a1, hq, hn0, hn1, w1, w2, w3, w4, w4', w5, w6, w6']
        exact short_tail (u := u) (k := clamp n) (s := [45]) hu64 (by simp [clamp, hn0, hn1]) (by simp) (by simp [he]) (by simp [he, clamp, hn0, hn1]) (by simp [he]) (by simp [he]) (by simp [he]) (by simp [he]) (fin [45] (by simp [hq]))
      · simp [a22, he, a0, a1, hq, hn0, hn1, w1, w2, w3, w4, w4', w5, w6, w6']
        exact short_tail (u := u) (k := clamp n) (s := [45]) hu64 (by simp [clamp, hn0, hn1]; omega) (by simp) (by simp [he]) (by simp [clamp, hn0, hn1, a1]; omega) (by simp [he]) (by simp [he]) (by simp [he]) (by simp [he]) (fin [45] (by simp [hq]))
  · have hqu : q = (u : Int) := by omega
    have w2 : IntKind.u64.wrap q = (u : Int) := by rw [hqu]; exact wrap_u64 (by omega) (by omega)
    by_cases hn0 : n < 0
    · simp [a22, he, a0, a1, hq, hn0, w1, w2]
      exact short_tail (u := u) (k := clamp n) (s := []) hu64 (by simp [clamp, hn0]) (by simp) (by simp [he]) (by simp [he, clamp, hn0]) (by simp [he]) (by simp [he]) (by simp [he]) (by simp [he]) (fin [] (by simp [hq]))
    · by_cases hn1 : 32 < n
      · simp [a22, he, a0, a1, hq, hn0, hn1, w1, w2]
        exact short_tail (u := u) (k := clamp n) (s := []) hu64 (by simp [clamp, hn0, hn1]) (by simp) (by simp [he]) (by simp [he, clamp, hn0, hn1]) (by simp [he]) (by simp [he]) (by simp [he]) (by simp [he]) (fin [] (by simp [hq]))
      · simp [a22, he, a0, a1, hq, hn0, hn1, w1, w2]
        exact short_tail (u := u) (k := clamp n) (s := []) hu64 (by simp [clamp, hn0, hn1]; omega) (by simp) (by simp [he]) (by simp [clamp, hn0, hn1, a1]; omega) (by simp [he]) (by simp [he]) (by simp [he]) (by simp [he]) (fin [] (by simp [hq]))
end Go.Proofs.YtfkmdajlpnkebaaDoor

namespace Go.Proofs.YtfkmdajlpnkebaaDoor
open Go Ai

theorem runL_pure {f : FuncId} {h : List AV → Option AV} {args : List AV} {v : AV} {st : St} (hp : A.prim f = some (pureP h)) (hv : h args = some v) : runL A (.call f args) st = some ⟨.ret, ⟨[v], []⟩, st⟩ := by
  rw [runL_eq]; simp only [layer, hp, pureP, hv, Option.map_some]

theorem prim40 : A.prim 40 = some (pureP fmtUintA) := rfl
theorem prim49 : A.prim 49 = some (pureP trimRightA) := rfl
theorem prim31 : A.prim 31 = some (pureP joinA) := rfl
theorem prim20 : A.prim 20 = some (pureP itoaA) := rfl

theorem fmt_call {u : Nat} (hu : u < 18446744073709551616) {st : St} : runL A (.call 40 [.int .u64 u, .int .i64 10]) st = some ⟨.ret, ⟨[.str (Lib.decDigits u)], []⟩, st⟩ :=
  runL_pure prim40 (by simp [fmtUintA, decF_eq 20 u (by omega) (by omega)]; omega)
theorem trim_call {s : List UInt8} (hs : s.length ≤ 9223372036854775807) {st : St} : runL A (.call 49 [.str s, .str [48]]) st = some ⟨.ret, ⟨[.str (trim0 s)], []⟩, st⟩ :=
  runL_pure prim49 (by simp [trimRightA, hs, trim0])
theorem strsA_map : ∀ l : List (List UInt8), strsA (l.map AV.str) = some l
  | [] => rfl
  | s :: l => by simp [strsA, strsA_map l]
theorem join_call {l : List (List UInt8)} {sep : List UInt8} {ap : Ap} (hl : (Lib.join l sep).length ≤ 140737488355328) (hn : l.length ≤ 140737488355328) {st : St} :
    runL A (.call 31 [.lst 1 (l.map AV.str) ap, .str sep]) st = some ⟨.ret, ⟨[.str (Lib.join l sep)], []⟩, st⟩ :=
  runL_pure prim31 (by simp [joinA, strsA_map, hl, hn])
theorem itoa_call {n : Int} (h0 : -9223372036854775808 ≤ n) (h1 : n ≤ 9223372036854775807) {st : St} : runL A (.call 20 [.int .i64 n]) st = some ⟨.ret, ⟨[.str (Lib.itoa n)], []⟩, st⟩ :=
  runL_pure prim20 (by simp [itoaA, h0, h1])

theorem fn39 : A.fn 39 = some a39 := by kernel_rfl
theorem prim39 : A.prim 39 = none := by kernel_rfl
theorem fn41 : A.fn 41 = some a41 := by kernel_rfl
theorem prim41 : A.prim 41 = none := by kernel_rfl
theorem fn42 : A.fn 42 = some a42 := by kernel_rfl
theorem prim42 : A.prim 42 = none := by kernel_rfl
theorem fn36 : A.fn 36 = some a36 := by kernel_rfl
theorem prim36 : A.prim 36 = none := by kernel_rfl
theorem fn28 : A.fn 28 = some a28 := by kernel_rfl
theorem prim28 : A.prim 28 = none := by kernel_rfl

theorem sign_call {q : Int} (hq0 : -9223372036854775808 ≤ q) (hq1 : q ≤ 9223372036854775807) {st : St} (hst : StOk st) :
    runL A (.call 39 [.int .i64 q]) st = some ⟨.ret, ⟨[.tup [.str (if q < 0 then [45] else []), .int .u64 (q.natAbs : Nat)]], []⟩, st⟩ := by
  refine (task_of_aw (N := 11) prim39 fn39 rfl rfl hst ?_).1
  intro e he ha K hK
  have a0 := ha 0
  clear ha
  simp at a0
  by_cases hq : q < 0
  · have w2 : IntKind.u64.wrap q = q + 18446744073709551616 := by
      simp [IntKind.wrap, IntKind.signed, IntKind.bits]; omega
    have w3 : IntKind.u64.wrap (0 - (q + 18446744073709551616)) = (q.natAbs : Int) := by
      simp [IntKind.wrap, IntKind.signed, IntKind.bits]; omega
    have w3' : IntKind.u64.wrap (-(q + 18446744073709551616)) = (q.natAbs : Int) := by
      simp [IntKind.wrap, IntKind.signed, IntKind.bits]; omega
    simp [a39, he, a0, hq, w2, w3, w3']
    exact hK _ _ _ (.inl rfl) (by simp) ⟨_, rfl, by simp [he, hq, AV.stills]⟩
  · have w2 : IntKind.u64.wrap q = (q.natAbs : Int) := by rw [wrap_u64 (by omega) (by omega)]; omega
    simp [a39, he, a0, hq, w2]
    exact hK _ _ _ (.inl rfl) (by simp) ⟨_, rfl, by simp [he, hq, AV.stills]⟩

theorem ofBytes_byteV : ∀ l : List UInt8, ofBytes (l.map byteV) = some l
  | [] => rfl
  | b :: l => by
    have := b.toNat_lt
    simp [byteV, ofBytes, ofBytes_byteV l]; omega

theorem and_mask {u : Nat} (h : u < 18446744073709551616) : IntKind.u64.wrap ((BitVec.ofInt IntKind.u64.bits (u : Int) &&& BitVec.ofInt IntKind.u64.bits 4294967295).toNat : Int) = ((u % 4294967296 : Nat) : Int) := by
  have e1 : (BitVec.ofInt IntKind.u64.bits (u : Int) &&& BitVec.ofInt IntKind.u64.bits 4294967295).toNat = u % 4294967296 := by
    have h1 : (BitVec.ofInt IntKind.u64.bits (u : Int)).toNat = u := by
      simp [IntKind.bits, BitVec.toNat_ofInt]; omega
    have h2 : (BitVec.ofInt IntKind.u64.bits 4294967295).toNat = 2 ^ 32 - 1 := by simp [IntKind.bits]
    rw [BitVec.toNat_and, h1, h2, Nat.and_two_pow_sub_one_eq_mod]
  rw [e1]
  exact wrap_u64 (by omega) (by omega)
theorem shr32 {u : Nat} (h : u < 18446744073709551616) : shiftOp .shr .u64 (u : Int) 32 = some (.int .u64 (u / 4294967296 : Nat)) := by
  simp [shiftOp, IntKind.bits]
  rw [Int.fdiv_eq_ediv_of_nonneg _ (by omega)]

def w41_0 : List Nat := a41_0.writes
theorem behind_call {u k : Nat} (hu : u < 18446744073709551616) (hk : k ≤ 32) {st : St} (hst : StOk st) :
    runL A (.call 41 [.int .u64 u, .int .i64 k]) st = some ⟨.ret, ⟨[.str (trim0 (fr k (u % 4294967296)))], []⟩, st⟩ := by
  refine (task_of_aw (N := 31) prim41 fn41 rfl rfl hst ?_).1
  intro e he ha K hK
  have a0 := ha 0
  have a1 := ha 1
  clear ha
  simp at a0 a1
  have wm0 := and_mask hu
  simp at wm0
  simp [a41, he, a0, wm0]
  refine aw_loop (W := w41_0) rfl (fun m e ds st' => ds = [] ∧ ∃ (out : List UInt8) (low : Nat) (ap : Ap), m + out.length = k ∧ low < 4294967296 ∧ trim0 (out ++ fr m low) = trim0 (fr k (u % 4294967296)) ∧ Grew st.length st st' ∧
      AX.ev e (.t 5) = .lst 1 (out.map byteV) ap ∧ AX.ev e (.t 6) = .int .u64 low ∧ Own st' st.length 1 (some 5) ap out.length) k
    ⟨rfl, [], u % 4294967296, .tight, by simp, by omega, rfl, .refl, by simp [he], by simp [he], .nil⟩ ?_
  rintro m e1 ds st' hs ⟨rfl, out, low, ap, hm, hlow, htr, hgr, g5, g6, ho⟩ K1 kn kx
  have he1 : e1.length = 31 := by simp [hs.1, he]
  have g1 := hs.ev 1 rfl (v := .int .i64 k) (by simp [a1])
  have fin : trim0 out = trim0 (fr k (u % 4294967296)) → ∀ (E : Env), AX.ev E (.t 5) = .lst 1 (out.map byteV) ap → E.length = 31 → AW A 41 none (.seq (.reg [⟨(some 28), .mov (.t 5), none⟩,
 ⟨(some 29), .convStr (.t 28), none⟩,
 ⟨(some 30), .call (.k (.func (.func 49) [] [])) [(.t 29), (.k (.str [48]))], none⟩,
 ⟨(some 4), .mov (.t 30), none⟩])
 .ret) E [] st' K := by
    intro ht E h5 hE
    have ht49 := trim_call (s := out) (st := st') (by omega)
    simp [h5, hE, ofBytes_byteV, ht49]
    exact hK _ _ _ (.inl rfl) (by have := hgr.take; simpa using this) ⟨_, rfl, by simp [hE, ht]⟩
  by_cases hl0 : low = 0
  · subst hl0
    rw [fr_zero, trim0_zeros] at htr
    simp [a41_0, g1, g5, g6, he1]
    refine kx _ _ _ _ nofun fun hs' => ?_
    simp only [blk_exit, if_true, sq_nrm]
    exact fin htr _ (by simp [g5]) (by simp [he1])
  · cases m with
    | zero =>
      simp [fr] at htr
      have hlk : ¬ out.length < k := by omega
      have hl1 : 0 < low := by omega
      simp [a41_0, g1, g5, g6, he1, hl1, hlk]
      refine kx _ _ _ _ nofun fun hs' => ?_
      simp only [blk_exit, if_true, sq_nrm]
      exact fin htr _ (by simp [g5]) (by simp [he1])
    | succ m =>
      have hlk : out.length < k := by omega
      have hl1 : 0 < low := by omega
      have hq : low * 10 / 4294967296 < 10 := by omega
      have w0 : IntKind.u64.wrap ((low : Int) * 10) = ((low * 10 : Nat) : Int) := by rw [wrap_u64 (by omega) (by omega)]; simp
      have wsh : shiftOp .shr .u64 ((low : Int) * 10) 32 = some (.int .u64 (low * 10 / 4294967296 : Nat)) := by
        have := shr32 (u := low * 10) (by omega); simpa using this
      have w2 : IntKind.u8.wrap ((low * 10 / 4294967296 : Nat) : Int) = ((low * 10 / 4294967296 : Nat) : Int) := wrap_u8 (by omega) (by omega)
      have w3 : IntKind.u8.wrap (48 + ((low * 10 / 4294967296 : Nat) : Int)) = 48 + ((low * 10 / 4294967296 : Nat) : Int) := wrap_u8 (by omega) (by omega)
      have w2' : IntKind.u8.wrap ((low : Int) * 10 / 4294967296) = (low : Int) * 10 / 4294967296 := wrap_u8 (by omega) (by omega)
      have w3' : IntKind.u8.wrap (48 + (low : Int) * 10 / 4294967296) = 48 + (low : Int) * 10 / 4294967296 := wrap_u8 (by omega) (by omega)
      have wm := and_mask (u := low * 10) (by omega)
      simp at wm
      have hbv : AV.int .u8 (48 + (low : Int) * 10 / 4294967296) = byteV (byteOf (low * 10 / 4294967296)) := by
        simp [byteV, byteOf]; omega
      obtain ⟨ap', st1, hap, ho', hg1, _⟩ := append_own (bytes := 1) (ap0 := .tight) (ys := [byteV (byteOf (low * 10 / 4294967296))]) (es := out.map byteV) hgr.len (by simpa using ho.weak) (by simp) (by simp [Ai.great]; omega) (by omega)
      rw [← hbv] at hap
      simp [a41_0, g1, g5, g6, he1, hl1, hlk, w0, wsh, w2, w3, w2', w3', hap, wm]
      exact kn m _ _ _ (by omega) ⟨rfl, out ++ [byteOf (low * 10 / 4294967296)], low * 10 % 4294967296, ap', by simp; omega, by omega, by rw [← htr]; simp [fr], hgr.trans hg1, by simp [he1, hbv], by simp [he1], by simpa using ho'⟩

theorem join_empty : ∀ l : List (List UInt8), Lib.join l [] = l.flatten
  | [] => rfl
  | x :: l => by rw [Lib.join_cons]; simp [Lib.joinTail]
theorem text_call {l : List (List UInt8)} {ap : Ap} (hl : l.flatten.length ≤ 140737488355328) (hn : l.length ≤ 140737488355328) {st : St} (hst : StOk st) :
    runL A (.call 42 [.lst 1 (l.map AV.str) ap]) st = some ⟨.ret, ⟨[.str l.flatten], []⟩, st⟩ := by
  refine (task_of_aw (N := 5) prim42 fn42 rfl rfl hst ?_).1
  intro e he ha K hK
  have a0 := ha 0
  clear ha
  simp at a0
  have hj := join_call (l := l) (sep := []) (ap := ap) (by rw [join_empty]; exact hl) hn (st := st)
  rw [join_empty] at hj
  simp [a42, he, a0, hj]
  exact hK _ _ _ (.inl rfl) (by simp) ⟨_, rfl, by simp [he]⟩

theorem trim0_len (l : List UInt8) : (trim0 l).length ≤ l.length := by
  simp only [trim0, Lib.trimRightB, List.length_reverse]
  have := (List.dropWhile_sublist (fun b : UInt8 => b == 48) (l := l.reverse)).length_le
  simpa using this

theorem dec_short_call {q n : Int} (hq0 : -9223372036854775808 ≤ q) (hq1 : q ≤ 9223372036854775807) {st : St} (hst : StOk st) :
    runL A (.call 36 [.int .i64 q, .int .i64 n]) st = some ⟨.ret, ⟨[.str (shortF q (clamp n))], []⟩, st⟩ := by
  refine (task_of_aw (N := 33) prim36 fn36 rfl rfl hst ?_).1
  intro e he ha K hK
  have a0 := ha 0
  have a1 := ha 1
  clear ha
  simp at a0 a1
  have hu64 : q.natAbs < 18446744073709551616 := by omega
  have hk : clamp n ≤ 32 := by simp only [clamp]; split; omega; split <;> omega
  have h39 := sign_call hq0 hq1 hst
  have h40 := fmt_call (u := q.natAbs / 4294967296) (by omega) (st := st)
  have h41 := behind_call hu64 hk hst
  have hsh := shr32 hu64
  have hmm : (if (0 : Int) < (if 32 < n then 32 else n) then (if 32 < n then 32 else n) else 0) = ((clamp n : Nat) : Int) := by
    simp only [clamp]
    by_cases h1 : n < 0
    · simp [h1, show ¬ 32 < n by omega, show ¬ 0 < n by omega]
    · by_cases h2 : 32 < n
      · simp [h1, h2]
      · simp [h1, h2]; omega
  have hl1 : (Lib.decDigits (q.natAbs / 4294967296)).length ≤ 20 := dec_len _ (by omega)
  have hl2 : (trim0 (fr (clamp n) (q.natAbs % 4294967296))).length ≤ 32 := by
    have := trim0_len (fr (clamp n) (q.natAbs % 4294967296)); rw [fr_length] at this; omega
  obtain ⟨s, hs⟩ : ∃ s : List UInt8, s = if q < 0 then [45] else [] := ⟨_, rfl⟩
  have hsl : s.length ≤ 1 := by rw [hs]; split <;> simp
  rw [← hs] at h39
  by_cases hz : trim0 (fr (clamp n) (q.natAbs % 4294967296)) = []
  · have h42 := text_call (l := [s, Lib.decDigits (q.natAbs / 4294967296)]) (ap := .tight) (by simp; omega) (by simp) hst
    simp at h42
    simp at h40 hsh
    simp [a36, he, a0, a1, h39, hsh, h40, hmm, h41, hz, h42]
    exact hK _ _ _ (.inl rfl) (by simp) ⟨_, rfl, by simp [he, shortF, hz, hs]⟩
  · have h42 := text_call (l := [s, Lib.decDigits (q.natAbs / 4294967296), [46], trim0 (fr (clamp n) (q.natAbs % 4294967296))]) (ap := .tight) (by simp; omega) (by simp) hst
    simp at h42
    simp at h40 hsh
    simp [a36, he, a0, a1, h39, hsh, h40, hmm, h41, hz, h42]
    exact hK _ _ _ (.inl rfl) (by simp) ⟨_, rfl, by simp [he, shortF, hz, hs]⟩

theorem print_call {q : Int} (hq0 : -9223372036854775808 ≤ q) (hq1 : q ≤ 9223372036854775807) {st : St} (hst : StOk st) :
    runL A (.call 28 [.int .i64 q]) st = some ⟨.ret, ⟨[.str (shortF q 32)], []⟩, st⟩ := by
  refine (task_of_aw (N := 5) prim28 fn28 rfl rfl hst ?_).1
  intro e he ha K hK
  have a0 := ha 0
  clear ha
  simp at a0
  have h36 := dec_short_call (n := 32) hq0 hq1 hst
  have hc : clamp 32 = 32 := rfl
  rw [hc] at h36
  simp [a28, he, a0, h36]
  exact hK _ _ _ (.inl rfl) (by simp) ⟨_, rfl, by simp [he]⟩
end Go.Proofs.YtfkmdajlpnkebaaDoor

namespace Go.Proofs.YtfkmdajlpnkebaaDoor
open Go Ai

theorem fn23 : A.fn 23 = some a23 := by kernel_rfl
theorem prim23 : A.prim 23 = none := by kernel_rfl
theorem fn29 : A.fn 29 = some a29 := by kernel_rfl
theorem prim29 : A.prim 29 = none := by kernel_rfl
theorem fn30 : A.fn 30 = some a30 := by kernel_rfl
theorem prim30 : A.prim 30 = none := by kernel_rfl
theorem fn19 : A.fn 19 = some a19 := by kernel_rfl
theorem prim19 : A.prim 19 = none := by kernel_rfl
theorem fn18 : A.fn 18 = some a18 := by kernel_rfl
theorem prim18 : A.prim 18 = none := by kernel_rfl

theorem itoa_len {n : Int} (h0 : -9223372036854775808 ≤ n) (h1 : n ≤ 9223372036854775807) : (Lib.itoa n).length ≤ 21 := Lib.itoa_length_le n h0 h1

/-! digits -/
theorem digits_nat {st : St} (hst : StOk st) : ∀ (u : Nat), u ≤ 9223372036854775807 → runL A (.call 23 [.int .i64 u]) st = some ⟨.ret, ⟨[.str (Lib.decDigits u)], []⟩, st⟩ := by
  intro u
  induction u using Nat.strongRecOn with
  | ind u ih =>
    intro hu
    refine (task_of_aw (N := 26) prim23 fn23 rfl rfl hst ?_).1
    intro e he ha K hK
    have a0 := ha 0
    clear ha
    simp at a0
    have h0 : ¬ (u : Int) < 0 := by omega
    by_cases h10 : u < 10
    · have h10' : (u : Int) < 10 := by omega
      obtain ⟨c, hc⟩ : ∃ c : Nat, c = 48 + u := ⟨_, rfl⟩
      have w1 : IntKind.i64.wrap (48 + (u : Int)) = (c : Int) := by rw [wrap_i64 (by omega) (by omega)]; omega
      have w2 : IntKind.u8.wrap (c : Int) = (c : Int) := wrap_u8 (by omega) (by omega)
      have w4 : (c : Int) < 256 := by omega
      have w5 : c < 256 := by omega
      have hd : Lib.decDigits u = [UInt8.ofNat (48 + u)] := by rw [Lib.decDigits, dif_pos h10]
      simp [a23, he, a0, h10', h10, w1, w2, w4, w5, ofBytes]
      exact hK _ _ _ (.inl rfl) (by simp) ⟨_, rfl, by simp [he, hd, hc]⟩
    · have h10' : ¬ (u : Int) < 10 := by omega
      have w0 : IntKind.i64.wrap ((u : Int) / 10) = (u : Int) / 10 := wrap_i64 (by omega) (by omega)
      obtain ⟨c, hc⟩ : ∃ c : Nat, c = 48 + u % 10 := ⟨_, rfl⟩
      have w1 : IntKind.i64.wrap (48 + (u : Int) % 10) = (c : Int) := by rw [wrap_i64 (by omega) (by omega)]; omega
      have w2 : IntKind.u8.wrap (c : Int) = (c : Int) := wrap_u8 (by omega) (by omega)
      have w4 : (c : Int) < 256 := by omega
      have w5 : c < 256 := by omega
      have hd : Lib.decDigits u = Lib.decDigits (u / 10) ++ [UInt8.ofNat (48 + u % 10)] := by rw [Lib.decDigits, dif_neg h10]
      have hl := dec_len (u / 10) (by omega)
      have w6 : (Lib.decDigits (u / 10)).length + 1 ≤ 281474976710656 := by omega
      have h23 := ih (u / 10) (by omega) (by omega)
      simp at h23
      simp [a23, he, a0, h10', h10, w0, w1, w2, w4, w5, w6, h23, ofBytes]
      exact hK _ _ _ (.inl rfl) (by simp) ⟨_, rfl, by simp [he, hd, hc]⟩
theorem digits_call {n : Int} (h0 : -9223372036854775807 ≤ n) (h1 : n ≤ 9223372036854775807) {st : St} (hst : StOk st) :
    runL A (.call 23 [.int .i64 n]) st = some ⟨.ret, ⟨[.str (Lib.itoa n)], []⟩, st⟩ := by
  by_cases hn : n < 0
  · refine (task_of_aw (N := 26) prim23 fn23 rfl rfl hst ?_).1
    intro e he ha K hK
    have a0 := ha 0
    clear ha
    simp at a0
    have w1 : IntKind.i64.wrap (0 - n) = ((n.natAbs : Nat) : Int) := by rw [wrap_i64 (by omega) (by omega)]; omega
    have w1' : IntKind.i64.wrap (-n) = ((n.natAbs : Nat) : Int) := by rw [wrap_i64 (by omega) (by omega)]; omega
    have h23 := digits_nat hst n.natAbs (by omega)
    have hl := dec_len n.natAbs (by omega)
    have w6 : 1 + (Lib.decDigits n.natAbs).length ≤ 281474976710656 := by omega
    have w6' : (Lib.decDigits n.natAbs).length + 1 ≤ 281474976710656 := by omega
    have hd : Lib.itoa n = 45 :: Lib.decDigits n.natAbs := by simp [Lib.itoa, hn]
    simp [a23, he, a0, hn, w1, w1', h23, w6, w6']
    exact hK _ _ _ (.inl rfl) (by simp) ⟨_, rfl, by simp [he, hd]⟩
  · obtain ⟨u, rfl⟩ : ∃ u : Nat, n = u := ⟨n.toNat, by omega⟩
    rw [Lib.itoa_nonneg]
    exact digits_nat hst u (by omega)

/-! names, steps, lines -/
def nameF (ns : List (List UInt8)) (i : Nat) : List UInt8 := (ns[i]?).getD ([111, 117, 116] ++ Lib.itoa i)
def idxs : Nat → List Bool → List Nat
  | _, [] => []
  | i, b :: l => (if b then [i] else []) ++ idxs (i + 1) l
def stepF (l : List Bool) : List UInt8 := 33 :: Lib.join ((idxs 0 l).map fun i : Nat => Lib.itoa (i : Int)) [44]
def lineF (ps : List (List UInt8)) : List UInt8 := Lib.join ps [32] ++ [10]
def outsF (ns : List (List UInt8)) : Nat → List Int → List (List UInt8)
  | _, [] => []
  | i, v :: l => (nameF ns i ++ [61] ++ shortF v 32) :: outsF ns (i + 1) l
def partsF (ns : List (List UInt8)) (prev : Int) (m : Mk) : List (List UInt8) :=
  shortF m.time 32 :: (outsF ns 0 m.outs ++ (m.raised.map fun x => stepF x.1) ++ (if m.flags = prev then [] else [[102, 108, 97, 103, 115], Lib.itoa m.flags]))

theorem join_len (sep : List UInt8) : ∀ l : List (List UInt8), (Lib.join l sep).length ≤ (l.map fun s => s.length + sep.length).sum
  | [] => by simp [Lib.join_nil]
  | x :: l => by
    rw [Lib.join_cons]
    simp only [Lib.joinTail, List.length_append, List.map_cons, List.sum_cons, List.length_flatten, List.map_map]
    have : (l.map (List.length ∘ fun s => sep ++ s)).sum = (l.map fun s => s.length + sep.length).sum := by
      congr 1; apply List.map_congr_left; intro s _; simp; omega
    rw [this]; omega
theorem short_len (q : Int) (k : Nat) (hk : k ≤ 32) (hq : q.natAbs < 18446744073709551616) : (shortF q k).length ≤ 60 := by
  have h1 := dec_len (q.natAbs / 4294967296) (by omega)
  have h2 := trim0_len (fr k (q.natAbs % 4294967296))
  rw [fr_length] at h2
  simp only [shortF]
  have h3 : (if q < 0 then [45] else ([] : List UInt8)).length ≤ 1 := by split <;> simp
  split <;> simp <;> omega

theorem name_call {ns : List (List UInt8)} {ap : Ap} {i : Nat} (hi : i ≤ 2000000) {st : St} (hst : StOk st) :
    runL A (.call 29 [.lst 1 (ns.map AV.str) ap, .int .i64 i]) st = some ⟨.ret, ⟨[.str (nameF ns i)], []⟩, st⟩ := by
  refine (task_of_aw (N := 16) prim29 fn29 rfl rfl hst ?_).1
  intro e he ha K hK
  have a0 := ha 0
  have a1 := ha 1
  clear ha
  simp at a0 a1
  by_cases h : i < ns.length
  · obtain ⟨x, hx, hx', _⟩ := aGetAt h
    simp [a29, he, a0, a1, h, hx']
    exact hK _ _ _ (.inl rfl) (by simp) ⟨_, rfl, by simp [he, nameF, hx]⟩
  · have hx : ns[i]? = none := List.getElem?_eq_none (by omega)
    have hl := itoa_len (n := (i : Int)) (by omega) (by omega)
    have h20 := itoa_call (n := (i : Int)) (by omega) (by omega) (st := st)
    have w6 : 3 + (Lib.itoa (i : Int)).length ≤ 281474976710656 := by omega
    have w6' : (Lib.itoa (i : Int)).length + 1 + 1 + 1 ≤ 281474976710656 := by omega
    have w6'' : (Lib.itoa (i : Int)).length + 3 ≤ 281474976710656 := by omega
    simp [a29, he, a0, a1, h, h20, w6, w6', w6'']
    exact hK _ _ _ (.inl rfl) (by simp) ⟨_, rfl, by simp [he, nameF, hx]⟩

theorem line_call {ps : List (List UInt8)} {ap : Ap} (hl : (Lib.join ps [32]).length ≤ 140737488355000) (hn : ps.length ≤ 140737488355328) {st : St} (hst : StOk st) :
    runL A (.call 19 [.lst 1 (ps.map AV.str) ap]) st = some ⟨.ret, ⟨[.str (lineF ps)], []⟩, st⟩ := by
  refine (task_of_aw (N := 6) prim19 fn19 rfl rfl hst ?_).1
  intro e he ha K hK
  have a0 := ha 0
  clear ha
  simp at a0
  have hj := join_call (l := ps) (sep := [32]) (ap := ap) (by omega) hn (st := st)
  have w6 : (Lib.join ps [32]).length + 1 ≤ 281474976710656 := by omega
  simp [a19, he, a0, hj, w6]
  exact hK _ _ _ (.inl rfl) (by simp) ⟨_, rfl, by simp [he, lineF]⟩

theorem idxs_len : ∀ (l : List Bool) (i : Nat), (idxs i l).length ≤ l.length
  | [], _ => Nat.le_refl _
  | b :: l, i => by have := idxs_len l (i + 1); simp only [idxs, List.length_append, List.length_cons]; split <;> simp <;> omega
theorem idxs_lt : ∀ (l : List Bool) (i : Nat), ∀ j ∈ idxs i l, j < i + l.length
  | b :: l, i, j, h => by
    simp only [idxs, List.mem_append] at h
    rcases h with h | h
    · split at h <;> simp at h; simp; omega
    · have := idxs_lt l (i + 1) j h; simp; omega
theorem step_len {l : List Bool} (hl : l.length ≤ 2000000) : (Lib.join ((idxs 0 l).map fun i : Nat => Lib.itoa (i : Int)) [44]).length ≤ 22 * l.length := by
  refine Nat.le_trans (join_len _ _) ?_
  have h1 := idxs_len l 0
  have h2 : ∀ k : List Nat, (∀ j ∈ k, j ≤ 2000000) → ((k.map fun i : Nat => Lib.itoa (i : Int)).map fun s => s.length + [44].length).sum ≤ 22 * k.length := by
    intro k
    induction k with
    | nil => intro _; simp
    | cons j k ih =>
      intro hj
      have := itoa_len (n := (j : Int)) (by omega) (by have := hj j (by simp); omega)
      have := ih fun x hx => hj x (by simp [hx])
      simp only [List.map_cons, List.sum_cons, List.length_cons, List.length_nil] at this ⊢
      omega
  have := h2 (idxs 0 l) fun j hj => by have := idxs_lt l 0 j hj; omega
  omega

def w30_0 : List Nat := a30_0.writes
theorem step_call {x : List Bool × Bool} (hl : x.1.length ≤ 2000000) {st : St} (hst : StOk st) :
    runL A (.call 30 [rsAv x]) st = some ⟨.ret, ⟨[.str (stepF x.1)], []⟩, st⟩ := by
  refine (task_of_aw (N := 23) prim30 fn30 rfl rfl hst ?_).1
  intro e he ha K hK
  have a0 := ha 0
  clear ha
  simp [rsAv] at a0
  simp [a30, he, a0]
  refine aw_loop (W := w30_0) rfl (fun m e ds st' => ds = [] ∧ ∃ (i : Nat) (acc : List Nat) (ap : Ap), i + m = x.1.length ∧ acc ++ idxs i (x.1.drop i) = idxs 0 x.1 ∧ acc.length ≤ i ∧ Grew st.length st st' ∧
      AX.ev e (.t 8) = .int .i64 i ∧ AX.ev e (.t 3) = .lst 1 ((acc.map fun i : Nat => Lib.itoa (i : Int)).map AV.str) ap ∧ Own st' st.length 1 (some 9) ap acc.length) x.1.length
    ⟨rfl, 0, [], .tight, by simp, by simp, by simp, .refl, by simp [he], by simp [he], .nil⟩ ?_
  rintro m e1 ds st' hs ⟨rfl, i, acc, ap, hm, hacc, hai, hgr, g8, g3, ho⟩ K1 kn kx
  have he1 : e1.length = 23 := by simp [hs.1, he]
  have g6 := hs.ev 6 rfl (v := .lst 1 (x.1.map AV.bool) (apOf x.2)) (by simp [he])
  have g7 := hs.ev 7 rfl (v := .int .i64 x.1.length) (by simp [he])
  by_cases hi : i < x.1.length
  · obtain ⟨b, hb, hb', hd⟩ := aGetAt hi
    rw [hd] at hacc
    have w2 : IntKind.i64.wrap ((i : Int) + 1) = (i : Int) + 1 := wrap_i64 (by omega) (by omega)
    cases b with
    | false =>
      simp [idxs] at hacc
      simp [a30_0, g3, g6, g7, g8, he1, hi, hb', w2]
      exact kn (m - 1) _ _ _ (by omega) ⟨rfl, i + 1, acc, ap, by omega, hacc, by omega, hgr, by simp [he1], by simp [g3], ho⟩
    | true =>
      simp [idxs] at hacc
      have h20 := itoa_call (n := (i : Int)) (by omega) (by omega) (st := st')
      obtain ⟨ap', st1, hap, ho', hg1, _⟩ := append_own (bytes := 16) (ap0 := .tight) (ys := [.str (Lib.itoa (i : Int))]) (es := (acc.map fun i : Nat => Lib.itoa (i : Int)).map AV.str) hgr.len (by simpa using ho.weak) (by simp) (by simp [Ai.great]; omega) (by omega)
      simp at hap
      simp [a30_0, g3, g6, g7, g8, he1, hi, hb', w2, h20, hap]
      exact kn (m - 1) _ _ _ (by omega) ⟨rfl, i + 1, acc ++ [i], ap', by omega, by simpa using hacc, by simp; omega, hgr.trans hg1, by simp [he1], by simp [he1], by simpa using ho'⟩
  · have : i = x.1.length := by omega
    subst this
    simp [idxs] at hacc
    have hsl := step_len hl
    have hj := join_call (l := acc.map fun i : Nat => Lib.itoa (i : Int)) (sep := [44]) (ap := ap) (by rw [hacc]; omega) (by simp; omega) (st := st')
    rw [hacc] at hj
    have w6 : 1 + (Lib.join ((idxs 0 x.1).map fun i : Nat => Lib.itoa (i : Int)) [44]).length ≤ 281474976710656 := by omega
    have w6' : (Lib.join ((idxs 0 x.1).map fun i : Nat => Lib.itoa (i : Int)) [44]).length + 1 ≤ 281474976710656 := by omega
    rw [hacc] at g3
    simp at hj
    simp [a30_0, g7, g8, he1]
    refine kx _ _ _ _ nofun fun hs' => ?_
    simp [g3, he1, hj, w6, w6']
    exact hK _ _ _ (.inl rfl) (by have := hgr.take; simpa using this) ⟨_, rfl, by simp [he1, stepF]⟩
end Go.Proofs.YtfkmdajlpnkebaaDoor

namespace Go.Proofs.YtfkmdajlpnkebaaDoor
open Go Ai

def w18_0 : List Nat := a18_0.writes
def w18_1 : List Nat := a18_1.writes

structure MkOk (m : Mk) : Prop where
  time : -9223372036854775808 ≤ m.time ∧ m.time ≤ 9223372036854775807
  outs : ∀ v ∈ m.outs, -9223372036854775808 ≤ v ∧ v ≤ 9223372036854775807
  flags : -9223372036854775808 ≤ m.flags ∧ m.flags ≤ 9223372036854775807
  small : m.outs.length ≤ 600 ∧ m.raised.length ≤ 600 ∧ rl m.raised ≤ 600

def NsOk (ns : List (List UInt8)) : Prop := ns.length ≤ 2000000 ∧ ∀ s ∈ ns, s.length ≤ 20000

theorem name_len {ns : List (List UInt8)} (h : NsOk ns) (i : Nat) (hi : i ≤ 2000000) : (nameF ns i).length ≤ 20000 := by
  simp only [nameF]
  cases hx : ns[i]? with
  | none => have := itoa_len (n := (i : Int)) (by omega) (by omega); simp; omega
  | some s => exact h.2 s (List.mem_of_getElem? hx)
theorem outs_len {ns : List (List UInt8)} (h : NsOk ns) : ∀ (l : List Int) (i : Nat), i + l.length ≤ 2000000 → (∀ v ∈ l, -9223372036854775808 ≤ v ∧ v ≤ 9223372036854775807) → ((outsF ns i l).map fun s => s.length + [(32 : UInt8)].length).sum ≤ 20100 * l.length
  | [], _, _, _ => by simp [outsF]
  | v :: l, i, hi, hv => by
    have h1 := name_len h i (by simp at hi; omega)
    have h2 := short_len v 32 (by omega) (by have := hv v (by simp); omega)
    have h3 := outs_len h l (i + 1) (by simp at hi; omega) fun x hx => hv x (by simp [hx])
    simp only [outsF, List.map_cons, List.sum_cons, List.length_cons, List.length_append, List.length_nil] at h3 ⊢
    omega
theorem outsF_length (ns : List (List UInt8)) : ∀ (l : List Int) (i : Nat), (outsF ns i l).length = l.length
  | [], _ => rfl
  | v :: l, i => by simp [outsF, outsF_length ns l]
theorem raised_len : ∀ (l : List (List Bool × Bool)), rl l ≤ 2000000 → ((l.map fun x => stepF x.1).map fun s => s.length + [(32 : UInt8)].length).sum ≤ 2 * l.length + 22 * rl l
  | [], _ => by simp [rl]
  | x :: l, h => by
    simp only [rl, List.map_cons, List.sum_cons] at h
    have h1 := step_len (l := x.1) (by omega)
    have h2 := raised_len l (by simp only [rl]; omega)
    simp only [List.map_cons, List.sum_cons, List.length_cons, stepF, rl, List.length_nil] at h2 ⊢
    omega
theorem parts_len {ns : List (List UInt8)} {prev : Int} {m : Mk} (h : NsOk ns) (hm : MkOk m) : (Lib.join (partsF ns prev m) [32]).length ≤ 20000000 ∧ (partsF ns prev m).length ≤ 5000 := by
  obtain ⟨h1, h2, h3⟩ := hm.small
  have e1 := short_len m.time 32 (by omega) (by have := hm.time; omega)
  have e2 := outs_len h m.outs 0 (by omega) hm.outs
  have e3 := raised_len m.raised (by omega)
  have e4 := itoa_len hm.flags.1 hm.flags.2
  constructor
  · refine Nat.le_trans (join_len _ _) ?_
    simp only [partsF, List.map_cons, List.sum_cons, List.map_append, List.sum_append]
    have e5 : ((if m.flags = prev then [] else [[102, 108, 97, 103, 115], Lib.itoa m.flags]).map fun s : List UInt8 => s.length + [(32 : UInt8)].length).sum ≤ 100 := by
      split <;> simp; omega
    simp only [List.length_cons, List.length_nil] at e2 e3 e5 ⊢
    omega
  · simp only [partsF, List.length_cons, List.length_append, outsF_length, List.length_map]
    split <;> simp <;> omega

theorem mark_call {ns : List (List UInt8)} {ap : Ap} {prev : Int} {m : Mk} (h : NsOk ns) (hm : MkOk m) {st : St} (hst : StOk st) :
    runL A (.call 18 [m.av, .lst 1 (ns.map AV.str) ap, .int .i64 prev]) st = some ⟨.ret, ⟨[.str (lineF (partsF ns prev m))], []⟩, st⟩ := by
  refine (task_of_aw (N := 60) prim18 fn18 rfl rfl hst ?_).1
  intro e he ha K hK
  have a0 := ha 0
  have a1 := ha 1
  have a2 := ha 2
  clear ha
  simp [Mk.av] at a0 a1 a2
  obtain ⟨s1, s2, s3⟩ := hm.small
  have h28 := print_call (q := m.time) hm.time.1 hm.time.2 hst
  simp [a18, he, a0, h28]
  refine aw_loop (W := w18_1) rfl (fun k e ds st' => ds = [] ∧ ∃ (i : Nat) (acc : List (List UInt8)) (ap : Ap), i + k = m.outs.length ∧ acc ++ outsF ns i (m.outs.drop i) = shortF m.time 32 :: outsF ns 0 m.outs ∧ acc.length = i + 1 ∧ Grew st.length st st' ∧
      AX.ev e (.t 19) = .int .i64 i ∧ AX.ev e (.t 7) = .lst 1 (acc.map AV.str) ap ∧ OwnW st' st.length 1 (some 9) ap acc.length) m.outs.length
    ⟨rfl, 0, [shortF m.time 32], .tight, by simp, by simp, by simp, .refl, by simp [he], by simp [he], .inl rfl⟩ ?_
  rintro k e1 ds st' hs ⟨rfl, i, acc, ap1, hk, hacc, hai, hgr, g19, g7, ho⟩ K1 kn kx
  have he1 : e1.length = 60 := by simp [hs.1, he]
  have g17 := hs.ev 17 rfl (v := .lst 1 (m.outs.map (AV.int .i64)) (apOf m.oap)) (by simp [he])
  have g18 := hs.ev 18 rfl (v := .int .i64 m.outs.length) (by simp [he])
  have g1 := hs.ev 1 rfl (v := .lst 1 (ns.map AV.str) ap) (by simp [a1])
  by_cases hi : i < m.outs.length
  · obtain ⟨v, hv, hv', hd⟩ := aGetAt hi
    rw [hd] at hacc
    simp only [outsF] at hacc
    have w2 : IntKind.i64.wrap ((i : Int) + 1) = (i : Int) + 1 := wrap_i64 (by omega) (by omega)
    have hvb := hm.outs v (List.mem_of_getElem? hv)
    have h29 := name_call (ns := ns) (ap := ap) (i := i) (by omega) (hgr.ok hst)
    have h28' := print_call hvb.1 hvb.2 (hgr.ok hst)
    have n1 := name_len h i (by omega)
    have n2 := short_len v 32 (by omega) (by omega)
    have w6 : (nameF ns i).length + 1 ≤ 281474976710656 := by omega
    have w7 : (nameF ns i).length + 1 + (shortF v 32).length ≤ 281474976710656 := by omega
    have w8 : (nameF ns i).length + ((shortF v 32).length + 1) ≤ 281474976710656 := by omega
    obtain ⟨ap', st1, hap, ho', hg1, _⟩ := append_own (bytes := 16) (ap0 := .tight) (ys := [.str (nameF ns i ++ [61] ++ shortF v 32)]) (es := acc.map AV.str) hgr.len (by simpa using ho) (by simp) (by simp [Ai.great]; omega) (by omega)
    try simp at hap
    simp [a18_1, g1, g7, g17, g18, g19, he1, hi, hv', w2, h29, h28', w6, w7, w8, hap]
    exact kn (k - 1) _ _ _ (by omega) ⟨rfl, i + 1, acc ++ [nameF ns i ++ [61] ++ shortF v 32], ap', by omega, by rw [← hacc]; simp, by simp; omega, hgr.trans hg1, by simp [he1], by simp [he1], by simpa using ho'.weak⟩
  · have : i = m.outs.length := by omega
    subst this
    simp [outsF] at hacc
    have g3 := hs.ev 3 rfl (v := .iptr (.agg [.int .i64 m.time, .lst 1 (m.outs.map (AV.int .i64)) (apOf m.oap), .lst 1 (m.raised.map rsAv) (apOf m.rap), .int .i64 m.flags])) (by simp [he])
    have g2 := hs.ev 2 rfl (v := .int .i64 prev) (by simp [a2])
    simp [a18_1, g18, g19, he1]
    refine kx _ _ _ _ nofun fun hs' => ?_
    simp [g3, he1]
    refine aw_loop (W := w18_0) rfl (fun k e ds st' => ds = [] ∧ ∃ (i : Nat) (acc : List (List UInt8)) (ap : Ap), i + k = m.raised.length ∧ acc ++ (m.raised.drop i).map (fun x => stepF x.1) = (shortF m.time 32 :: outsF ns 0 m.outs) ++ m.raised.map (fun x => stepF x.1) ∧ acc.length ≤ 3000 + i ∧ Grew st.length st st' ∧
        AX.ev e (.t 38) = .int .i64 i ∧ AX.ev e (.t 7) = .lst 1 (acc.map AV.str) ap ∧ OwnW st' st.length 1 (some 9) ap acc.length) m.raised.length
      ⟨rfl, 0, acc, ap1, by simp, by simp [hacc], by omega, hgr, by simp [he1], by simp [g7], ho⟩ ?_
    rintro k e2 ds st2 hs2 ⟨rfl, i, acc2, ap2, hk, hacc2, hai2, hgr2, g38, g7', ho2⟩ K2 kn2 kx2
    have he2 : e2.length = 60 := by simp [hs2.1, he1]
    have g36 := hs2.ev 36 rfl (v := .lst 1 (m.raised.map rsAv) (apOf m.rap)) (by simp [he1])
    have g37 := hs2.ev 37 rfl (v := .int .i64 m.raised.length) (by simp [he1])
    have g3' := hs2.ev 3 rfl (v := .iptr (.agg [.int .i64 m.time, .lst 1 (m.outs.map (AV.int .i64)) (apOf m.oap), .lst 1 (m.raised.map rsAv) (apOf m.rap), .int .i64 m.flags])) (by simp [g3])
    have g2' := hs2.ev 2 rfl (v := .int .i64 prev) (by simp [g2])
    by_cases hi : i < m.raised.length
    · obtain ⟨x, hx, hx', hd⟩ := aGetAt hi
      rw [hd] at hacc2
      have w2 : IntKind.i64.wrap ((i : Int) + 1) = (i : Int) + 1 := wrap_i64 (by omega) (by omega)
      have hxl := rl_mem (List.mem_of_getElem? hx)
      have h30 := step_call (x := x) (by omega) (hgr2.ok hst)
      have hcx : (rsAv x).isCell = true := rfl
      obtain ⟨ap', st1, hap, ho', hg1, _⟩ := append_own (bytes := 16) (ap0 := .tight) (ys := [.str (stepF x.1)]) (es := acc2.map AV.str) hgr2.len (by simpa using ho2) (by simp) (by simp [Ai.great]; omega) (by omega)
      try simp at hap
      simp [a18_0, g7', g36, g37, g38, he2, hi, hx', w2, h30, hap, hcx]
      exact kn2 (k - 1) _ _ _ (by omega) ⟨rfl, i + 1, acc2 ++ [stepF x.1], ap', by omega, by rw [← hacc2]; simp, by simp; omega, hgr2.trans hg1, by simp [he2], by simp [he2], by simpa using ho'.weak⟩
    · have : i = m.raised.length := by omega
      subst this
      simp at hacc2
      simp [a18_0, g37, g38, he2]
      refine kx2 _ _ _ _ nofun fun hs3 => ?_
      obtain ⟨p1, p2⟩ := parts_len (prev := prev) h hm
      by_cases hf : m.flags = prev
      · have hparts : partsF ns prev m = acc2 := by rw [hacc2]; simp [partsF, hf]
        have h19 := line_call (ps := acc2) (ap := ap2) (by rw [← hparts]; omega) (by rw [← hparts]; omega) (hgr2.ok hst)
        simp [g3', g2', g7', he2, hf, h19]
        exact hK _ _ _ (.inl rfl) (by have := hgr2.take; simpa using this) ⟨_, rfl, by simp [he2, hparts]⟩
      · have h20 := itoa_call hm.flags.1 hm.flags.2 (st := st2)
        obtain ⟨ap', st1, hap, ho', hg1, _⟩ := append_own (bytes := 16) (ap0 := .tight) (ys := [.str [102, 108, 97, 103, 115], .str (Lib.itoa m.flags)]) (es := acc2.map AV.str) hgr2.len (by simpa using ho2) (by simp) (by simp [Ai.great]; omega) (by omega)
        have hparts : partsF ns prev m = acc2 ++ [[102, 108, 97, 103, 115], Lib.itoa m.flags] := by rw [hacc2]; simp [partsF, hf]
        have h19 := line_call (ps := acc2 ++ [[102, 108, 97, 103, 115], Lib.itoa m.flags]) (ap := ap') (by rw [← hparts]; omega) (by rw [← hparts]; omega) ((hgr2.trans hg1).ok hst)
        try simp at h19
        simp [g3', g2', g7', he2, hf, h20, hap, h19]
        exact hK _ _ _ (.inl rfl) (by have := (hgr2.trans hg1).take; simpa using this) ⟨_, rfl, by simp [he2, hparts]⟩
end Go.Proofs.YtfkmdajlpnkebaaDoor

namespace Go.Proofs.YtfkmdajlpnkebaaDoor
open Go Ai

/-- A Builder's state. -/
def Bld (st : St) (r : Nat) (bs : List UInt8) : Prop :=
  (bs = [] ∧ st[r]? = some (.cells (some 48) [.nilPtr, .nilSl])) ∨
  (∃ id, r < id ∧ st[r]? = some (.cells (some 48) [.ptr r 0, .lst 1 (bs.map byteV) (.tok id)]) ∧ st[id]? = some (.tok 1 bs.length (some 5)) ∧ 0 < bs.length)
theorem Bld.snoc {st r bs} {o : AObj} (h : Bld st r bs) : Bld (st ++ [o]) r bs := by
  rcases h with ⟨h1, h2⟩ | ⟨id, h1, h2, h3, h4⟩
  · exact .inl ⟨h1, by rw [List.getElem?_append_left (List.getElem?_eq_some_iff.1 h2).1]; exact h2⟩
  · exact .inr ⟨id, h1, by rw [List.getElem?_append_left (List.getElem?_eq_some_iff.1 h2).1]; exact h2, by rw [List.getElem?_append_left (List.getElem?_eq_some_iff.1 h3).1]; exact h3, h4⟩
theorem Bld.lt {st r bs} (h : Bld st r bs) : r < st.length := by
  rcases h with ⟨h1, h2⟩ | ⟨id, h1, h2, h3, h4⟩ <;> exact (List.getElem?_eq_some_iff.1 h2).1

theorem fn17 : A.fn 17 = some a17 := by kernel_rfl
theorem prim17 : A.prim 17 = none := by kernel_rfl
theorem prim27 : A.prim 27 = some (copyA 48) := rfl
theorem prim21 : A.prim 21 = some (stringA 48 5) := rfl

theorem copy_nil {st : St} {r : Nat} {b : AV} (h : st[r]? = some (.cells (some 48) [.nilPtr, b])) : runL A (.call 27 [.ptr r 0]) st = some ⟨.ret, ⟨[.tup []], []⟩, st.set r (.cells (some 48) [.ptr r 0, b])⟩ := by
  rw [runL_eq]; simp only [layer, prim27, copyA, bldOf, h, if_true]
theorem copy_self {st : St} {r : Nat} {b : AV} (h : st[r]? = some (.cells (some 48) [.ptr r 0, b])) : runL A (.call 27 [.ptr r 0]) st = some ⟨.ret, ⟨[.tup []], []⟩, st⟩ := by
  rw [runL_eq]; simp only [layer, prim27, copyA, bldOf, h, if_true]

theorem stOk_set {st : St} {r : Nat} {o : AObj} (h : StOk st) (ho : AObj.lowB st.length o = true) : StOk (st.set r o) := by
  unfold StOk at *
  rw [List.all_eq_true] at h ⊢
  intro x hx
  rw [List.length_set]
  rcases List.mem_or_eq_of_mem_set hx with hx | rfl
  · exact h x hx
  · exact ho
theorem lows_bytes {n : Nat} (l : List UInt8) : AV.lowsB n (l.map byteV) = true := lows_all fun x hx => by obtain ⟨b, _, rfl⟩ := List.mem_map.1 hx; rfl

theorem append_bytes {bytes ty st x} {s : List UInt8} : appendA 1 bytes ty st x (.str s) = appendA 1 bytes ty st x (.lst 1 (s.map byteV) .no) := by
  simp [appendA, elemsOf]
theorem append_nil {bytes ty st y} : appendA 1 bytes ty st .nilSl y = appendA 1 bytes ty st (.lst 1 [] .tight) y := rfl

theorem ws_call {st : St} {r : Nat} {bs s : List UInt8} (hb : Bld st r bs) (hs : s ≠ []) (hlen : bs.length + s.length ≤ Ai.great) :
    ∃ st', runL A (.call 17 [.ptr r 0, .str s]) st = some ⟨.ret, ⟨[.tup [.int .i64 s.length, .nilIface]], []⟩, st'⟩ ∧ Bld st' r (bs ++ s) ∧ st'.take r = st.take r ∧ st.length ≤ st'.length ∧ (StOk st → StOk st') ∧
      (∀ j ty cs, j ≠ r → st[j]? = some (.cells ty cs) → st'[j]? = some (.cells ty cs)) := by
  have hsp : 0 < s.length := List.length_pos_iff.2 hs
  have hr := hb.lt
  -- the world behind copyCheck, and behind the append
  obtain ⟨st1, hc, buf, hcell, hbc, st2, id, hap, hid, hb2, htok, htake, hle, hok, hcs⟩ : ∃ st1, runL A (.call 27 [.ptr r 0]) st = some ⟨.ret, ⟨[.tup []], []⟩, st1⟩ ∧ ∃ buf, st1[r]? = some (.cells (some 48) [.ptr r 0, buf]) ∧ (buf.isCell = true) ∧
      ∃ st2 id, appendA 1 1 (some 5) st1 buf (.str s) = some (.val (.lst 1 ((bs ++ s).map byteV) (.tok id)) st2) ∧ r < id ∧ st2[r]? = some (.cells (some 48) [.ptr r 0, buf]) ∧ st2[id]? = some (.tok 1 (bs ++ s).length (some 5)) ∧
        st2.take r = st.take r ∧ st.length ≤ st2.length ∧ (StOk st → StOk st2) ∧ (∀ j ty cs, j ≠ r → st[j]? = some (.cells ty cs) → st2[j]? = some (.cells ty cs)) := by
    rcases hb with ⟨rfl, h1⟩ | ⟨id, h1, h2, h3, h4⟩
    · have hr1 : (st.set r (.cells (some 48) [.ptr r 0, .nilSl]))[r]? = some (.cells (some 48) [.ptr r 0, .nilSl]) := by simp [hr]
      refine ⟨_, copy_nil h1, .nilSl, hr1, rfl, st.set r (.cells (some 48) [.ptr r 0, .nilSl]) ++ [.tok 1 s.length (some 5)], st.length, ?_, hr, ?_, ?_, ?_, ?_, ?_, ?_⟩
      · rw [append_nil, append_bytes]
        simp [appendA, elemsOf, AV.asLst, hs]
        simpa using hlen
      · rw [List.getElem?_append_left (by simpa using hr)]; exact hr1
      · simp
      · rw [List.take_append_of_le_length (by simp; omega), List.take_set]; exact List.set_eq_of_length_le (by simp; omega)
      · simp
      · intro h; refine StOk.snoc (stOk_set h ?_) rfl; simp [AObj.lowB, AV.lowsB, AV.lowB, hr]
      · intro j ty cs hj hjs
        rw [List.getElem?_append_left (by simpa using (List.getElem?_eq_some_iff.1 hjs).1), List.getElem?_set_ne (Ne.symm hj)]; exact hjs
    · have hidl := (List.getElem?_eq_some_iff.1 h3).1
      have ht : tokIs st id 1 bs.length = true := by simp [tokIs, h3]
      have hy : tokTy st id = some 5 := by simp [tokTy, h3]
      refine ⟨_, copy_self h2, _, h2, rfl, st.set id (.tok 1 (bs.length + s.length) (some 5)), id, ?_, h1, ?_, ?_, ?_, ?_, ?_, ?_⟩
      · rw [append_bytes]
        simp [appendA, elemsOf, AV.asLst, hs, ht, hy, hlen]
      · rw [List.getElem?_set_ne (by omega)]; exact h2
      · simp [hidl]
      · rw [List.take_set]; exact List.set_eq_of_length_le (by simp; omega)
      · simp
      · intro h; exact stOk_set h rfl
      · intro j ty cs hj hjs
        rw [List.getElem?_set_ne (by intro hh; subst hh; rw [h3] at hjs; cases hjs)]; exact hjs
  have hr2 : r < st2.length := by omega
  have hst3 : StOk st2 → StOk (st2.set r (.cells (some 48) [.ptr r 0, .lst 1 ((bs ++ s).map byteV) (.tok id)])) := fun h => by
    have hidl := (List.getElem?_eq_some_iff.1 htok).1
    have := lows_bytes (n := st2.length) (bs ++ s)
    exact stOk_set h (by simp [AObj.lowB, AV.lowsB, AV.lowB, hr2, hidl] at this ⊢; exact this)
  obtain ⟨st', hG, h, _⟩ := task_of_aw_keep_ex (A := A) (f := 17) (F := a17) (args := [.ptr r 0, .str s]) (v := .tup [.int .i64 s.length, .nilIface]) (N := 19) (st := st)
    (fun st' => st' = st2.set r (.cells (some 48) [.ptr r 0, .lst 1 ((bs ++ s).map byteV) (.tok id)])) prim17 fn17 rfl rfl (by
      intro e he ha K hK
      have a0 := ha 0
      have a1 := ha 1
      clear ha
      simp at a0 a1
      simp at hap
      simp [a17, he, a0, a1, hc, hcell, hbc, hap, hb2]
      exact hK _ _ _ (.inl rfl) (by simp) ⟨_, rfl, by simp [he]⟩)
  subst hG
  refine ⟨_, h, .inr ⟨id, hid, by simp [hr2], ?_, by simp; omega⟩, ?_, by simpa using hle, fun h => hst3 (hok h), ?_⟩
  · rw [List.getElem?_set_ne (by omega)]; exact htok
  · rw [List.take_set, List.set_eq_of_length_le (by simp; omega)]; exact htake
  · intro j ty cs hj hjs
    rw [List.getElem?_set_ne (Ne.symm hj)]; exact hcs j ty cs hj hjs
end Go.Proofs.YtfkmdajlpnkebaaDoor

namespace Go.Proofs.YtfkmdajlpnkebaaDoor
open Go Ai

theorem string_call {st : St} {r : Nat} {bs : List UInt8} (hb : Bld st r bs) (hl : bs.length ≤ Ai.great) :
    ∃ st', runL A (.call 21 [.ptr r 0]) st = some ⟨.ret, ⟨[.str bs], []⟩, st'⟩ ∧ st'.take r = st.take r ∧ st.length ≤ st'.length := by
  rcases hb with ⟨rfl, h1⟩ | ⟨id, h1, h2, h3, h4⟩
  · refine ⟨st, ?_, rfl, Nat.le_refl _⟩
    rw [runL_eq]; simp only [layer, prim21, stringA, bldOf, h1, if_true]
  · have hne : bs.map byteV ≠ [] := by cases bs <;> simp at h4 ⊢
    refine ⟨(st.set id .dead).set r (.cells (some 48) [.ptr r 0, .lst 1 (bs.map byteV) .no]), ?_, ?_, by simp⟩
    · have hc : bs.map byteV ≠ [] ∧ id ≠ r ∧ (bs.map byteV).length ≤ Ai.great := ⟨hne, by omega, by simpa using hl⟩
      rw [runL_eq]; simp only [layer, prim21, stringA, bldOf, h2, if_true, hc, h3, List.length_map, ofBytes_byteV, Option.map_some, ne_eq, not_false_eq_true, and_self, hl, true_and]
    · rw [List.take_set, List.take_set, List.set_eq_of_length_le (by simp; omega), List.set_eq_of_length_le (by simp; omega)]

def linesF (ns : List (List UInt8)) : Int → List Mk → List UInt8
  | _, [] => []
  | prev, m :: l => lineF (partsF ns prev m) ++ linesF ns m.flags l
def textF (ns : List (List UInt8)) (ms : List Mk) (en : Int) : List UInt8 :=
  linesF ns 0 ms ++ (if en = 0 then [] else lineF [[101, 110, 100], Lib.itoa en])

theorem lines_len {ns : List (List UInt8)} (h : NsOk ns) : ∀ (ms : List Mk) (prev : Int), (∀ m ∈ ms, MkOk m) → (linesF ns prev ms).length ≤ 20000001 * ms.length
  | [], _, _ => Nat.le_refl _
  | m :: l, prev, hm => by
    have h1 := (parts_len (prev := prev) h (hm m (by simp))).1
    have h2 := lines_len h l m.flags fun x hx => hm x (by simp [hx])
    simp only [linesF, lineF, List.length_append, List.length_cons, List.length_nil] at h2 ⊢
    omega
theorem lineF_ne (ps : List (List UInt8)) : lineF ps ≠ [] := by simp [lineF]

theorem fn9 : A.fn 9 = some a9 := by kernel_rfl
theorem prim9 : A.prim 9 = none := by kernel_rfl
def w9_0 : List Nat := a9_0.writes

theorem lines_call {ns : List (List UInt8)} {ap : Ap} {ms : List Mk} {b : Bool} {en : Int} (h : NsOk ns) (hms : ∀ m ∈ ms, MkOk m) (hl : ms.length ≤ 600) (hen : -9223372036854775808 ≤ en ∧ en ≤ 9223372036854775807) {st : St} (hst : StOk st) :
    runL A (.call 9 [trAv ms (apOf b) en, .lst 1 (ns.map AV.str) ap]) st = some ⟨.ret, ⟨[.str (textF ns ms en)], []⟩, st⟩ := by
  refine (task_of_aw (N := 34) prim9 fn9 rfl rfl hst ?_).1
  intro e he ha K hK
  have a0 := ha 0
  have a1 := ha 1
  clear ha
  simp [trAv] at a0 a1
  have htot := lines_len h ms 0 hms
  have hst0 : StOk (st ++ [.cells (some 48) [.nilPtr, .nilSl]]) := hst.snoc rfl
  simp [a9, he, a0]
  refine aw_loop (W := w9_0) rfl (fun k e ds st' => ds = [] ∧ ∃ (i : Nat) (prev : Int) (T : List UInt8), i + k = ms.length ∧ T ++ linesF ns prev (ms.drop i) = linesF ns 0 ms ∧ AX.ev e (.t 12) = .int .i64 i ∧ AX.ev e (.t 6) = .int .i64 prev ∧
      Bld st' st.length T ∧ st'.take st.length = st ∧ StOk st') ms.length
    ⟨rfl, 0, 0, [], by simp, by simp, by simp [he], by simp [he], .inl ⟨rfl, by simp⟩, by simp, hst0⟩ ?_
  rintro k e1 ds st' hs ⟨rfl, i, prev, T, hk, hT, g12, g6, hb, htk, hok⟩ K1 kn kx
  have he1 : e1.length = 34 := by simp [hs.1, he]
  have g10 := hs.ev 10 rfl (v := .lst 4 (ms.map Mk.av) (apOf b)) (by simp [he])
  have g11 := hs.ev 11 rfl (v := .int .i64 ms.length) (by simp [he])
  have g1 := hs.ev 1 rfl (v := .lst 1 (ns.map AV.str) ap) (by simp [a1])
  have g5 := hs.ev 5 rfl (v := .ptr st.length 0) (by simp [he])
  have g2 := hs.ev 2 rfl (v := .iptr (trAv ms (apOf b) en)) (by simp [he, trAv])
  simp only [trAv] at g2
  have hTl : T.length ≤ 20000001 * ms.length := by have := congrArg List.length hT; simp at this; omega
  by_cases hi : i < ms.length
  · obtain ⟨x, hx, hx', hd⟩ := aGetAt hi
    rw [hd] at hT
    simp only [linesF] at hT
    have hxm := List.mem_of_getElem? hx
    have w2 : IntKind.i64.wrap ((i : Int) + 1) = (i : Int) + 1 := wrap_i64 (by omega) (by omega)
    have hok1 : StOk (st' ++ [.cells none x.av.cells]) := hok.snoc (by
      have := mk_low (n := st'.length + 1) (m := x)
      simpa [Mk.av, AV.lowB, AObj.lowB] using this)
    have hmk := mark_call (ap := ap) (prev := prev) h (hms x hxm) hok1
    have hll : (lineF (partsF ns prev x)).length ≤ 20000001 := by have := (parts_len (prev := prev) h (hms x hxm)).1; simp only [lineF, List.length_append, List.length_cons, List.length_nil]; omega
    obtain ⟨st2, hws, hb2, htk2, hle2, hok2, hcs2⟩ := ws_call (hb.snoc (o := .cells none x.av.cells)) (lineF_ne (partsF ns prev x)) (by simp only [Ai.great]; omega)
    have hlt := hb.lt
    have hcell : st2[st'.length]? = some (.cells none x.av.cells) := hcs2 _ _ _ (by omega) (by simp)
    simp [Mk.av] at hmk hws hcell
    simp [a9_0, g10, g11, g12, g1, g5, g6, he1, hi, hx', Mk.av, hmk, hws, hcell, w2]
    refine kn (k - 1) _ _ _ (by omega) ⟨rfl, i + 1, x.flags, T ++ lineF (partsF ns prev x), by omega, by rw [← hT]; simp, by simp [he1], by simp [he1], hb2, ?_, hok2 hok1⟩
    rw [htk2, List.take_append_of_le_length (by omega)]; exact htk
  · have : i = ms.length := by omega
    subst this
    simp [linesF] at hT
    simp [a9_0, g11, g12, he1]
    refine kx _ _ _ _ nofun fun hs' => ?_
    by_cases hen0 : en = 0
    · obtain ⟨st3, hstr, htk3, hle3⟩ := string_call hb (by simp only [Ai.great]; omega)
      simp [g2, he1, hen0, g5, hstr]
      exact hK _ _ _ (.inl rfl) (by rw [htk3]; exact htk) ⟨_, rfl, by simp [he1, textF, hen0, hT]⟩
    · have h20 := itoa_call hen.1 hen.2 (st := st')
      have hil := itoa_len hen.1 hen.2
      have hjl : (Lib.join [[101, 110, 100], Lib.itoa en] [32]).length ≤ 50 := by
        refine Nat.le_trans (join_len _ _) ?_; simp; omega
      have h19 := line_call (ps := [[101, 110, 100], Lib.itoa en]) (ap := .tight) (by omega) (by simp) hok
      obtain ⟨st2, hws, hb2, htk2, hle2, hok2, hcs2⟩ := ws_call hb (lineF_ne [[101, 110, 100], Lib.itoa en]) (by simp only [Ai.great, lineF, List.length_append, List.length_cons, List.length_nil]; omega)
      obtain ⟨st3, hstr, htk3, hle3⟩ := string_call hb2 (by simp only [Ai.great, lineF, List.length_append, List.length_cons, List.length_nil]; omega)
      simp at h19
      simp [g2, he1, hen0, g5, h20, h19, hws, hstr]
      exact hK _ _ _ (.inl rfl) (by rw [htk3, htk2]; exact htk) ⟨_, rfl, by simp [he1, textF, hen0, hT]⟩
end Go.Proofs.YtfkmdajlpnkebaaDoor

namespace Go.Proofs.YtfkmdajlpnkebaaDoor
open Go Ai

theorem fn10 : A.fn 10 = some a10 := by kernel_rfl
theorem prim10 : A.prim 10 = none := by kernel_rfl
def w10_0 : List Nat := a10_0.writes
def w10_1 : List Nat := a10_1.writes
def w10_2 : List Nat := a10_2.writes
def w10_3 : List Nat := a10_3.writes

/-- What a mark's variable holds. -/
def MkAt (st : St) (r : Nat) (m : Mk) : Prop := st[r]? = some (.cells none [.int .i64 m.time, .lst 1 (m.outs.map (AV.int .i64)) (apOf m.oap), .lst 1 (m.raised.map rsAv) (apOf m.rap), .int .i64 m.flags])

theorem joinTail_append (sep : List UInt8) (a b : List (List UInt8)) : Lib.joinTail sep (a ++ b) = Lib.joinTail sep a ++ Lib.joinTail sep b := by simp [Lib.joinTail]
theorem joinTail_cons (sep x : List UInt8) (b : List (List UInt8)) : Lib.joinTail sep (x :: b) = sep ++ x ++ Lib.joinTail sep b := by simp [Lib.joinTail]
theorem joinTail_nil (sep : List UInt8) : Lib.joinTail sep [] = [] := rfl

theorem ref_outs {ns : List (List UInt8)} {ap : Ap} {m : Mk} {r : Nat} {s0 : List UInt8} (h : NsOk ns) (hm : MkOk m) {e : Env} {st : St} {Q : PostQ} (hst : StOk st) (hat : MkAt st r m) (he : e.length = 129)
    (h5 : AX.ev e (.t 5) = .str s0) (h7 : AX.ev e (.t 7) = .ptr r 0) (h1 : AX.ev e (.t 1) = .lst 1 (ns.map AV.str) ap) (h8 : AX.ev e (.t 8) = .int .i64 0)
    (hB : s0.length + (Lib.joinTail [32] (outsF ns 0 m.outs)).length ≤ 281474976710000)
    (hQ : ∀ e', Same w10_2 e e' → AX.ev e' (.t 5) = .str (s0 ++ Lib.joinTail [32] (outsF ns 0 m.outs)) → Q (.exit 2) e' [] st) :
    AW A 10 none (.loop a10_2) e [] st Q := by
  obtain ⟨s1, s2, s3⟩ := hm.small
  unfold MkAt at hat
  refine aw_loop (W := w10_2) rfl (fun k e ds st' => ds = [] ∧ st' = st ∧ ∃ (i : Nat) (s : List UInt8), i + k = m.outs.length ∧ s ++ Lib.joinTail [32] (outsF ns i (m.outs.drop i)) = s0 ++ Lib.joinTail [32] (outsF ns 0 m.outs) ∧ AX.ev e (.t 8) = .int .i64 i ∧ AX.ev e (.t 5) = .str s) m.outs.length
    ⟨rfl, rfl, 0, s0, by simp, by simp, h8, h5⟩ ?_
  rintro k e1 ds st' hs ⟨rfl, rfl, i, s, hk, hT, g8, g5⟩ K kn kx
  have he1 : e1.length = 129 := by simp [hs.1, he]
  have g7 := hs.ev 7 rfl h7
  have g1 := hs.ev 1 rfl h1
  by_cases hi : i < m.outs.length
  · obtain ⟨v, hv, hv', hd⟩ := aGetAt hi
    rw [hd] at hT
    simp only [outsF, joinTail_cons] at hT
    have hvb := hm.outs v (List.mem_of_getElem? hv)
    have w2 : IntKind.i64.wrap ((i : Int) + 1) = (i : Int) + 1 := wrap_i64 (by omega) (by omega)
    have h23 := digits_call (n := (i : Int)) (by omega) (by omega) hst
    have h22 := ref_short_call (n := 32) hvb.1 hvb.2 hst
    have hc : clamp 32 = 32 := rfl
    rw [hc] at h22
    have hil := itoa_len (n := (i : Int)) (by omega) (by omega)
    have hTl := congrArg List.length hT
    simp only [List.length_append, List.length_cons, List.length_nil] at hTl
    have q1 : 3 + (Lib.itoa (i : Int)).length ≤ 281474976710656 := by omega
    have q1' : (Lib.itoa (i : Int)).length + 3 ≤ 281474976710656 := by omega
    have q1'' : (Lib.itoa (i : Int)).length + 1 + 1 + 1 ≤ 281474976710656 := by omega
    have q2 : s.length + 1 ≤ 281474976710656 := by omega
    have q3 : s.length + 1 + (nameF ns i).length ≤ 281474976710656 := by omega
    have q3' : s.length + ((nameF ns i).length + 1) ≤ 281474976710656 := by omega
    have q4 : s.length + 1 + (nameF ns i).length + 1 ≤ 281474976710656 := by omega
    have q4' : s.length + ((nameF ns i).length + 1) + 1 ≤ 281474976710656 := by omega
    have q4'' : s.length + ((nameF ns i).length + 1 + 1) ≤ 281474976710656 := by omega
    have q5 : s.length + 1 + (nameF ns i).length + 1 + (shortF v 32).length ≤ 281474976710656 := by omega
    have q5' : s.length + ((nameF ns i).length + 1 + 1) + (shortF v 32).length ≤ 281474976710656 := by omega
    have hmm : m.outs[i]? = some v := hv
    by_cases hin : i < ns.length
    · obtain ⟨x, hx, hx', _⟩ := aGetAt hin
      have hnm : nameF ns i = x := by simp [nameF, hx]
      rw [hnm] at q3 q3' q4 q4' q4'' q5 q5' hT
      simp [a10_2, g1, g5, g7, g8, he1, hat, hi, hin, hx', hv', h23, h22, w2, q1, q1', q1'', q2, q3, q3', q4, q4', q4'', q5, q5']
      exact kn (k - 1) _ _ _ (by omega) ⟨rfl, rfl, i + 1, s ++ [32] ++ x ++ [61] ++ shortF v 32, by omega, by rw [← hT]; simp, by simp [he1], by simp [he1]⟩
    · have hx : ns[i]? = none := List.getElem?_eq_none (by omega)
      have hnm : nameF ns i = [111, 117, 116] ++ Lib.itoa i := by simp [nameF, hx]
      rw [hnm] at q3 q3' q4 q4' q4'' q5 q5' hT
      simp at q3 q3' q4 q4' q4'' q5 q5'
      simp [a10_2, g1, g5, g7, g8, he1, hat, hi, hin, hv', h23, h22, w2, q1, q1', q1'', q2, q3, q3', q4, q4', q4'', q5, q5']
      exact kn (k - 1) _ _ _ (by omega) ⟨rfl, rfl, i + 1, s ++ [32] ++ ([111, 117, 116] ++ Lib.itoa i) ++ [61] ++ shortF v 32, by omega, by rw [← hT]; simp, by simp [he1], by simp [he1]⟩
  · have : i = m.outs.length := by omega
    subst this
    simp [outsF, joinTail_nil] at hT
    simp [a10_2, g7, g8, he1, hat]
    refine kx _ _ _ _ nofun fun hs' => ?_
    exact hQ _ hs' (by simp [g5, hT])

/-- Numbers with commas; is it the first one? -/
def cj : Bool → List Nat → List UInt8
  | _, [] => []
  | f, j :: l => (if f then [] else [44]) ++ Lib.itoa (j : Int) ++ cj false l
theorem cj_false : ∀ l : List Nat, cj false l = Lib.joinTail [44] (l.map fun i : Nat => Lib.itoa (i : Int))
  | [] => rfl
  | j :: l => by simp [cj, cj_false l, joinTail_cons]
theorem cj_true (l : List Nat) : cj true l = Lib.join (l.map fun i : Nat => Lib.itoa (i : Int)) [44] := by
  cases l with
  | nil => rfl
  | cons j l => rw [List.map_cons, Lib.join_cons]; simp [cj, cj_false]

theorem ref_bits {m : Mk} {r j : Nat} {x : List Bool × Bool} {s0 : List UInt8} (hl : x.1.length ≤ 2000000) (hj : m.raised[j]? = some x) {e : Env} {st : St} {Q : PostQ} (hst : StOk st) (hat : MkAt st r m) (he : e.length = 129)
    (h5 : AX.ev e (.t 5) = .str s0) (h7 : AX.ev e (.t 7) = .ptr r 0) (h10 : AX.ev e (.t 10) = .int .i64 j) (h11 : AX.ev e (.t 11) = .bool true) (h12 : AX.ev e (.t 12) = .int .i64 0)
    (hB : s0.length + (cj true (idxs 0 x.1)).length ≤ 281474976710000)
    (hQ : ∀ e', Same w10_0 e e' → AX.ev e' (.t 5) = .str (s0 ++ cj true (idxs 0 x.1)) → Q (.exit 6) e' [] st) :
    AW A 10 none (.loop a10_0) e [] st Q := by
  unfold MkAt at hat
  refine aw_loop (W := w10_0) rfl (fun k e ds st' => ds = [] ∧ st' = st ∧ ∃ (i : Nat) (f : Bool) (s : List UInt8), i + k = x.1.length ∧ s ++ cj f (idxs i (x.1.drop i)) = s0 ++ cj true (idxs 0 x.1) ∧ AX.ev e (.t 12) = .int .i64 i ∧ AX.ev e (.t 11) = .bool f ∧ AX.ev e (.t 5) = .str s) x.1.length
    ⟨rfl, rfl, 0, true, s0, by simp, by simp, h12, h11, h5⟩ ?_
  rintro k e1 ds st' hs ⟨rfl, rfl, i, f, s, hk, hT, g12, g11, g5⟩ K kn kx
  have he1 : e1.length = 129 := by simp [hs.1, he]
  have g7 := hs.ev 7 rfl h7
  have g10 := hs.ev 10 rfl h10
  obtain ⟨hjl, hj'⟩ := List.getElem?_eq_some_iff.1 hj
  by_cases hi : i < x.1.length
  · obtain ⟨b, hb, hb', hd⟩ := aGetAt hi
    rw [hd] at hT
    have w2 : IntKind.i64.wrap ((i : Int) + 1) = (i : Int) + 1 := wrap_i64 (by omega) (by omega)
    cases b with
    | false =>
      simp [idxs] at hT
      simp [a10_0, g5, g7, g10, g11, g12, he1, hat, hjl, hj', rsAv, hi, hb', w2]
      exact kn (k - 1) _ _ _ (by omega) ⟨rfl, rfl, i + 1, f, s, by omega, hT, by simp [he1], by simp [g11], by simp [g5]⟩
    | true =>
      simp [idxs, cj] at hT
      have h23 := digits_call (n := (i : Int)) (by omega) (by omega) hst
      have hTl := congrArg List.length hT
      simp only [List.length_append] at hTl
      cases f with
      | true =>
        simp at hT hTl
        have q1 : s.length + (Lib.itoa (i : Int)).length ≤ 281474976710656 := by omega
        simp [a10_0, g5, g7, g10, g11, g12, he1, hat, hjl, hj', rsAv, hi, hb', w2, h23, q1]
        exact kn (k - 1) _ _ _ (by omega) ⟨rfl, rfl, i + 1, false, s ++ Lib.itoa (i : Int), by omega, by rw [← hT]; simp, by simp [he1], by simp [he1], by simp [he1]⟩
      | false =>
        simp at hT hTl
        have q1 : s.length + 1 ≤ 281474976710656 := by omega
        have q2 : s.length + 1 + (Lib.itoa (i : Int)).length ≤ 281474976710656 := by omega
        have q2' : s.length + ((Lib.itoa (i : Int)).length + 1) ≤ 281474976710656 := by omega
        simp [a10_0, g5, g7, g10, g11, g12, he1, hat, hjl, hj', rsAv, hi, hb', w2, h23, q1, q2, q2']
        exact kn (k - 1) _ _ _ (by omega) ⟨rfl, rfl, i + 1, false, s ++ [44] ++ Lib.itoa (i : Int), by omega, by rw [← hT]; simp, by simp [he1], by simp [he1], by simp [he1]⟩
  · have : i = x.1.length := by omega
    subst this
    simp [idxs, cj] at hT
    simp [a10_0, g7, g10, g12, he1, hat, hjl, hj', rsAv]
    refine kx _ _ _ _ nofun fun hs' => ?_
    exact hQ _ hs' (by simp [g5, hT])

theorem ref_raised {m : Mk} {r : Nat} {s0 : List UInt8} (hm : MkOk m) {e : Env} {st : St} {Q : PostQ} (hst : StOk st) (hat : MkAt st r m) (he : e.length = 129)
    (h5 : AX.ev e (.t 5) = .str s0) (h7 : AX.ev e (.t 7) = .ptr r 0) (h10 : AX.ev e (.t 10) = .int .i64 0)
    (hB : s0.length + (Lib.joinTail [32] (m.raised.map fun x => stepF x.1)).length ≤ 281474976710000)
    (hQ : ∀ e', Same w10_1 e e' → AX.ev e' (.t 5) = .str (s0 ++ Lib.joinTail [32] (m.raised.map fun x => stepF x.1)) → Q (.exit 4) e' [] st) :
    AW A 10 none (.loop a10_1) e [] st Q := by
  obtain ⟨s1, s2, s3⟩ := hm.small
  have hat' := hat
  unfold MkAt at hat
  refine aw_loop (W := w10_1) rfl (fun k e ds st' => ds = [] ∧ st' = st ∧ ∃ (i : Nat) (s : List UInt8), i + k = m.raised.length ∧ s ++ Lib.joinTail [32] ((m.raised.drop i).map fun x => stepF x.1) = s0 ++ Lib.joinTail [32] (m.raised.map fun x => stepF x.1) ∧ AX.ev e (.t 10) = .int .i64 i ∧ AX.ev e (.t 5) = .str s) m.raised.length
    ⟨rfl, rfl, 0, s0, by simp, by simp, h10, h5⟩ ?_
  rintro k e1 ds st' hs ⟨rfl, rfl, i, s, hk, hT, g10, g5⟩ K kn kx
  have he1 : e1.length = 129 := by simp [hs.1, he]
  have g7 := hs.ev 7 rfl h7
  by_cases hi : i < m.raised.length
  · obtain ⟨x, hx, hx', hd⟩ := aGetAt hi
    rw [hd, List.map_cons, joinTail_cons] at hT
    have w2 : IntKind.i64.wrap ((i : Int) + 1) = (i : Int) + 1 := wrap_i64 (by omega) (by omega)
    have hxl := rl_mem (List.mem_of_getElem? hx)
    have hst' : stepF x.1 = 33 :: cj true (idxs 0 x.1) := by rw [cj_true]; rfl
    rw [hst'] at hT
    have hTl := congrArg List.length hT
    simp only [List.length_append, List.length_cons, List.length_nil] at hTl
    have q1 : s.length + 2 ≤ 281474976710656 := by omega
    have q1' : s.length + 1 + 1 ≤ 281474976710656 := by omega
    simp [a10_1, g5, g7, g10, he1, hat, hi, q1, q1']
    refine ref_bits (m := m) (r := r) (j := i) (x := x) (s0 := s ++ [32, 33]) (by omega) hx hst hat' (by simp [he1]) (by simp [he1]) (by simp [g7]) (by simp [g10]) (by simp [he1]) (by simp [he1]) (by simp; omega) ?_
    intro e2 hs2 k5
    have he2 : e2.length = 129 := by simp [hs2.1, he1]
    have k10 := hs2.ev 10 rfl (v := .int .i64 i) (by simp [g10])
    simp [k10, he2, w2]
    exact kn (k - 1) _ _ _ (by omega) ⟨rfl, rfl, i + 1, s ++ [32, 33] ++ cj true (idxs 0 x.1), by omega, by rw [← hT]; simp, by simp [he2], by simp [k5]⟩
  · have : i = m.raised.length := by omega
    subst this
    simp [joinTail_nil] at hT
    simp [a10_1, g7, g10, he1, hat]
    refine kx _ _ _ _ nofun fun hs' => ?_
    exact hQ _ hs' (by simp [g5, hT])
end Go.Proofs.YtfkmdajlpnkebaaDoor

namespace Go.Proofs.YtfkmdajlpnkebaaDoor
open Go Ai

def prevAt (ms : List Mk) (i : Nat) : Int := if i = 0 then 0 else ((ms[i - 1]?).map Mk.flags).getD 0

theorem lineF_parts (ns : List (List UInt8)) (prev : Int) (m : Mk) : lineF (partsF ns prev m) =
    shortF m.time 32 ++ Lib.joinTail [32] (outsF ns 0 m.outs) ++ Lib.joinTail [32] (m.raised.map fun x => stepF x.1) ++ (if m.flags = prev then [] else [32, 102, 108, 97, 103, 115, 32] ++ Lib.itoa m.flags) ++ [10] := by
  simp only [lineF, partsF]
  rw [Lib.join_cons, joinTail_append, joinTail_append]
  by_cases h : m.flags = prev
  · simp [h, joinTail_nil]
  · simp [h, joinTail_cons, joinTail_nil]

theorem ref_lines_call {ns : List (List UInt8)} {ap : Ap} {ms : List Mk} {b : Bool} {en : Int} (h : NsOk ns) (hms : ∀ m ∈ ms, MkOk m) (hfl : ∀ m ∈ ms, -9223372036854775807 ≤ m.flags) (hl : ms.length ≤ 600) (hen : -9223372036854775807 ≤ en ∧ en ≤ 9223372036854775807) {st : St} (hst : StOk st) :
    runL A (.call 10 [trAv ms (apOf b) en, .lst 1 (ns.map AV.str) ap]) st = some ⟨.ret, ⟨[.str (textF ns ms en)], []⟩, st⟩ := by
  refine (task_of_aw (N := 129) prim10 fn10 rfl rfl hst ?_).1
  intro e he ha K hK
  have a0 := ha 0
  have a1 := ha 1
  clear ha
  simp [trAv] at a0 a1
  have htot := lines_len h ms 0 hms
  simp [a10, he, a0]
  refine aw_loop (W := w10_3) rfl (fun k e ds st' => ds = [] ∧ ∃ (i : Nat) (s : List UInt8), i + k = ms.length ∧ s ++ linesF ns (prevAt ms i) (ms.drop i) = linesF ns 0 ms ∧ AX.ev e (.t 6) = .int .i64 i ∧ AX.ev e (.t 5) = .str s ∧ st'.take st.length = st ∧ StOk st') ms.length
    ⟨rfl, 0, [], by simp, by simp [prevAt], by simp [he], by simp [he], by simp, hst⟩ ?_
  rintro k e1 ds st' hs ⟨rfl, i, s, hk, hT, g6, g5, htk, hok⟩ K1 kn kx
  have he1 : e1.length = 129 := by simp [hs.1, he]
  have g1 := hs.ev 1 rfl (v := .lst 1 (ns.map AV.str) ap) (by simp [a1])
  have g2 := hs.ev 2 rfl (v := .iptr (trAv ms (apOf b) en)) (by simp [he, trAv])
  simp only [trAv] at g2
  have hTl := congrArg List.length hT
  simp only [List.length_append] at hTl
  have hsl : s.length ≤ 20000001 * 600 := by omega
  by_cases hi : i < ms.length
  · obtain ⟨x, hx, hx', hd⟩ := aGetAt hi
    rw [hd] at hT
    simp only [linesF] at hT
    have hxm := List.mem_of_getElem? hx
    have hm := hms x hxm
    have w2 : IntKind.i64.wrap ((i : Int) + 1) = (i : Int) + 1 := wrap_i64 (by omega) (by omega)
    obtain ⟨st1, hst1⟩ : ∃ st1, st1 = st' ++ [.cells none [.int .i64 x.time, .lst 1 (x.outs.map (AV.int .i64)) (apOf x.oap), .lst 1 (x.raised.map rsAv) (apOf x.rap), .int .i64 x.flags]] := ⟨_, rfl⟩
    have hok1 : StOk st1 := by
      rw [hst1]
      refine hok.snoc ?_
      have := mk_low (n := st'.length + 1) (m := x)
      simpa [Mk.av, AV.lowB, AObj.lowB] using this
    have hat : MkAt st1 st'.length x := by rw [hst1]; simp [MkAt]
    have htk1 : st1.take st.length = st := by
      rw [hst1]
      have hle : st.length ≤ st'.length := by
        have := congrArg List.length htk
        simp at this; omega
      rw [List.take_append_of_le_length hle]; exact htk
    have h22 := ref_short_call (n := 32) hm.time.1 hm.time.2 hok1
    have hc : clamp 32 = 32 := rfl
    rw [hc] at h22
    have hsh := short_len x.time 32 (by omega) (by have := hm.time; omega)
    have hpl := (parts_len (prev := prevAt ms i) h hm).1
    have hlf := congrArg List.length (lineF_parts ns (prevAt ms i) x)
    simp only [lineF, List.length_append, List.length_cons, List.length_nil] at hlf
    have q1 : s.length + (shortF x.time 32).length ≤ 281474976710656 := by omega
    rw [hst1] at h22
    simp [a10_3, g2, g5, g6, he1, hi, hx', Mk.av, h22, q1]
    rw [← hst1]
    refine ref_outs (ns := ns) (ap := ap) (m := x) (r := st'.length) (s0 := s ++ shortF x.time 32) h hm hok1 hat (by simp [he1]) (by simp [he1]) (by simp [he1]) (by simp [g1]) (by simp [he1]) (by simp; omega) ?_
    intro e2 hs2 k5
    have he2 : e2.length = 129 := by simp [hs2.1, he1]
    have k7 := hs2.ev 7 rfl (v := .ptr st'.length 0) (by simp [he1])
    have k6 := hs2.ev 6 rfl (v := .int .i64 i) (by simp [g6])
    have k2 := hs2.ev 2 rfl (v := .iptr (.agg [.lst 4 (ms.map Mk.av) (apOf b), .int .i64 en])) (by simp [g2])
    simp [he2]
    refine ref_raised (m := x) (r := st'.length) (s0 := s ++ shortF x.time 32 ++ Lib.joinTail [32] (outsF ns 0 x.outs)) hm hok1 hat (by simp [he2]) (by simp [k5]) (by simp [k7]) (by simp [he2]) (by simp; omega) ?_
    intro e3 hs3 j5
    have he3 : e3.length = 129 := by simp [hs3.1, he2]
    have j7 := hs3.ev 7 rfl (v := .ptr st'.length 0) (by simp [k7])
    have j6 := hs3.ev 6 rfl (v := .int .i64 i) (by simp [k6])
    have j2 := hs3.ev 2 rfl (v := .iptr (.agg [.lst 4 (ms.map Mk.av) (apOf b), .int .i64 en])) (by simp [k2])
    obtain ⟨S, hS⟩ : ∃ S, S = s ++ shortF x.time 32 ++ Lib.joinTail [32] (outsF ns 0 x.outs) ++ Lib.joinTail [32] (x.raised.map fun x => stepF x.1) := ⟨_, rfl⟩
    rw [← hS] at j5
    have hSl := congrArg List.length hS
    simp only [List.length_append] at hSl
    have hmat := hat
    unfold MkAt at hmat
    have hflx := hfl x hxm
    have h23 := digits_call hflx hm.flags.2 hok1
    have hil := itoa_len hm.flags.1 hm.flags.2
    have hprev' : prevAt ms (i + 1) = x.flags := by simp [prevAt, hx]
    have fin : ∀ (S' : List UInt8), S' = S ++ (if x.flags = prevAt ms i then [] else [32, 102, 108, 97, 103, 115, 32] ++ Lib.itoa x.flags) → ∀ E : Env, AX.ev E (.t 5) = .str (S' ++ [10]) → AX.ev E (.t 6) = .int .i64 (i + 1 : Nat) → K1 .nrm E [] st1 := by
      intro S' hS' E hE5 hE6
      refine kn (k - 1) _ _ _ (by omega) ⟨rfl, i + 1, S' ++ [10], by omega, ?_, hE6, hE5, htk1, hok1⟩
      rw [hprev', ← hT, lineF_parts, hS', hS]; simp
    have q2 : S.length + 1 ≤ 281474976710656 := by omega
    have q3 : S.length + 7 ≤ 281474976710656 := by omega
    have q4 : S.length + 7 + (Lib.itoa x.flags).length ≤ 281474976710656 := by omega
    have q5 : S.length + 7 + (Lib.itoa x.flags).length + 1 ≤ 281474976710656 := by omega
    have q4' : S.length + ((Lib.itoa x.flags).length + 7) ≤ 281474976710656 := by omega
    have q4'' : S.length + ((Lib.itoa x.flags).length + 1 + 1 + 1 + 1 + 1 + 1 + 1) ≤ 281474976710656 := by omega
    have q5' : S.length + ((Lib.itoa x.flags).length + 7) + 1 ≤ 281474976710656 := by omega
    have q5'' : S.length + ((Lib.itoa x.flags).length + 1 + 1 + 1 + 1 + 1 + 1 + 1) + 1 ≤ 281474976710656 := by omega
    by_cases hi0 : i = 0
    · have hp0 : prevAt ms i = 0 := by simp [prevAt, hi0]
      rw [hp0] at fin
      subst hi0
      simp at j6 w2
      by_cases hf : x.flags = 0
      · simp [he3, j2, j5, j6, j7, hmat, hf, q2, w2]
        exact fin S (by simp [hf]) _ (by simp [he3]) (by simp [he3])
      · simp [he3, j2, j5, j6, j7, hmat, hf, h23, q2, q3, q4, q5, q4', q4'', q5', q5'', w2]
        exact fin (S ++ [32, 102, 108, 97, 103, 115, 32] ++ Lib.itoa x.flags) (by simp [hf]) _ (by simp [he3]) (by simp [he3])
    · have hi1 : 0 < i := by omega
      have hi2 : i - 1 < ms.length := by omega
      obtain ⟨y, hy, hy', _⟩ := aGetAt hi2
      have hp0 : prevAt ms i = y.flags := by simp [prevAt, hi0, hy]
      have w4 : IntKind.i64.wrap ((i : Int) - 1) = ((i - 1 : Nat) : Int) := by rw [wrap_i64 (by omega) (by omega)]; omega
      rw [hp0] at fin
      by_cases hf : x.flags = y.flags
      · simp [he3, j2, j5, j6, j7, hmat, hf, hi1, hi2, hy', w4, Mk.av, q2, w2]
        exact fin S (by simp [hf]) _ (by simp [he3]) (by simp [he3])
      · simp [he3, j2, j5, j6, j7, hmat, hf, hi1, hi2, hy', w4, Mk.av, h23, q2, q3, q4, q5, q4', q4'', q5', q5'', w2]
        exact fin (S ++ [32, 102, 108, 97, 103, 115, 32] ++ Lib.itoa x.flags) (by simp [hf]) _ (by simp [he3]) (by simp [he3])
  · have : i = ms.length := by omega
    subst this
    simp [linesF] at hT
    simp [a10_3, g2, g6, he1]
    refine kx _ _ _ _ nofun fun hs' => ?_
    by_cases hen0 : en = 0
    · simp [g2, he1, hen0, g5]
      exact hK _ _ _ (.inl rfl) htk ⟨_, rfl, by simp [he1, textF, hen0, hT]⟩
    · have h23 := digits_call hen.1 hen.2 hok
      have hil := itoa_len (n := en) (by omega) hen.2
      have q3 : s.length + 4 ≤ 281474976710656 := by omega
      have q4 : s.length + 4 + (Lib.itoa en).length ≤ 281474976710656 := by omega
      have q4' : s.length + ((Lib.itoa en).length + 4) ≤ 281474976710656 := by omega
      have q4'' : s.length + ((Lib.itoa en).length + 1 + 1 + 1 + 1) ≤ 281474976710656 := by omega
      have q5 : s.length + 4 + (Lib.itoa en).length + 1 ≤ 281474976710656 := by omega
      have q5' : s.length + ((Lib.itoa en).length + 4) + 1 ≤ 281474976710656 := by omega
      have q5'' : s.length + ((Lib.itoa en).length + 1 + 1 + 1 + 1) + 1 ≤ 281474976710656 := by omega
      have hj : lineF [[101, 110, 100], Lib.itoa en] = [101, 110, 100, 32] ++ Lib.itoa en ++ [10] := by
        simp only [lineF]; rw [Lib.join_cons]; simp [Lib.joinTail]
      simp [g2, he1, hen0, g5, h23, q3, q4, q4', q4'', q5, q5', q5'']
      exact hK _ _ _ (.inl rfl) htk ⟨_, rfl, by simp [he1, textF, hen0, hT, hj]⟩
end Go.Proofs.YtfkmdajlpnkebaaDoor

namespace Go.Proofs.YtfkmdajlpnkebaaDoor
open Go Ai

/-! No line's end inside. -/
def No (l : List UInt8) : Prop := (10 : UInt8) ∉ l
theorem ofNat_ne {d : Nat} (h : d < 100) : UInt8.ofNat (48 + d) ≠ 10 := by
  intro hh
  have := congrArg UInt8.toNat hh
  simp at this
  omega
theorem no_dec : ∀ u : Nat, No (Lib.decDigits u) := by
  intro u
  induction u using Nat.strongRecOn with
  | ind u ih =>
    rw [Lib.decDigits]
    split
    · rename_i h
      intro hh
      simp at hh
      exact ofNat_ne (d := u) (by omega) (by simpa using hh.symm)
    · intro hh
      simp only [List.mem_append, List.mem_singleton] at hh
      rcases hh with hh | hh
      · exact ih (u / 10) (by omega) hh
      · exact ofNat_ne (d := u % 10) (by omega) hh.symm
theorem no_itoa (n : Int) : No (Lib.itoa n) := by
  unfold Lib.itoa
  split
  · intro hh
    rcases List.mem_cons.1 hh with hh | hh
    · cases hh
    · exact no_dec _ hh
  · exact no_dec _
theorem no_fr : ∀ (n b : Nat), b < 4294967296 → No (fr n b)
  | 0, _, _ => by simp [No, fr]
  | n + 1, b, hb => by
    intro hh
    simp only [fr] at hh
    rcases List.mem_cons.1 hh with hh | hh
    · exact ofNat_ne (d := b * 10 / 4294967296) (by omega) hh.symm
    · exact no_fr n _ (by omega) hh
theorem no_trim {l : List UInt8} (h : No l) : No (trim0 l) := by
  intro hh
  simp only [trim0, Lib.trimRightB, List.mem_reverse] at hh
  exact h (by simpa using (List.dropWhile_sublist _).subset hh)
theorem no_short (q : Int) (k : Nat) : No (shortF q k) := by
  have h1 := no_dec (q.natAbs / 4294967296)
  have h2 := no_trim (no_fr k (q.natAbs % 4294967296) (by omega))
  have h3 : No (if q < 0 then [45] else ([] : List UInt8)) := by split <;> simp [No]
  unfold No at *
  simp only [shortF]
  split <;> simp [h1, h2, h3]
theorem no_joinTail {sep : List UInt8} (hs : No sep) : ∀ {l : List (List UInt8)}, (∀ s ∈ l, No s) → No (Lib.joinTail sep l)
  | [], _ => by simp [No, joinTail_nil]
  | x :: l, h => by
    have h1 := h x (by simp)
    have h2 := no_joinTail hs (l := l) fun s hh => h s (by simp [hh])
    rw [joinTail_cons]
    unfold No at *
    simp [h1, h2, hs]
theorem no_join {sep : List UInt8} (hs : No sep) {l : List (List UInt8)} (h : ∀ s ∈ l, No s) : No (Lib.join l sep) := by
  cases l with
  | nil => simp [No, Lib.join_nil]
  | cons x l =>
    have h1 := h x (by simp)
    have h2 := no_joinTail hs (l := l) fun s hh => h s (by simp [hh])
    rw [Lib.join_cons]
    unfold No at *
    simp [h1, h2]
theorem no_step (l : List Bool) : No (stepF l) := by
  have h : No (Lib.join ((idxs 0 l).map fun i : Nat => Lib.itoa (i : Int)) [44]) := no_join (by simp [No]) fun s hs => by
    obtain ⟨i, _, rfl⟩ := List.mem_map.1 hs; exact no_itoa _
  unfold No at *
  simp [stepF, h]
theorem no_name {ns : List (List UInt8)} (h : ∀ s ∈ ns, No s) (i : Nat) : No (nameF ns i) := by
  simp only [nameF]
  cases hx : ns[i]? with
  | none => have := no_itoa (i : Int); unfold No at *; simp [this]
  | some s => exact h s (List.mem_of_getElem? hx)
theorem no_outs {ns : List (List UInt8)} (h : ∀ s ∈ ns, No s) : ∀ (l : List Int) (i : Nat), ∀ s ∈ outsF ns i l, No s
  | [], _, s, hs => by simp [outsF] at hs
  | v :: l, i, s, hs => by
    simp only [outsF] at hs
    rcases List.mem_cons.1 hs with rfl | hs
    · have h1 := no_name h i
      have h2 := no_short v 32
      unfold No at *
      simp [h1, h2]
    · exact no_outs h l (i + 1) s hs
theorem count_line {ps : List (List UInt8)} (h : ∀ s ∈ ps, No s) : (lineF ps).count 10 = 1 := by
  have := no_join (sep := [32]) (by simp [No]) h
  simp only [lineF, List.count_append, List.count_eq_zero.2 this]; rfl
theorem no_parts {ns : List (List UInt8)} (h : ∀ s ∈ ns, No s) (prev : Int) (m : Mk) : ∀ s ∈ partsF ns prev m, No s := by
  intro s hs
  simp only [partsF, List.mem_cons, List.mem_append] at hs
  rcases hs with rfl | (hs | hs) | hs
  · exact no_short _ _
  · exact no_outs h _ _ s hs
  · obtain ⟨x, _, rfl⟩ := List.mem_map.1 hs; exact no_step _
  · split at hs
    · simp at hs
    · simp at hs
      rcases hs with rfl | rfl
      · simp [No]
      · exact no_itoa _
theorem count_lines {ns : List (List UInt8)} (h : ∀ s ∈ ns, No s) : ∀ (ms : List Mk) (prev : Int), (linesF ns prev ms).count 10 = ms.length
  | [], _ => rfl
  | m :: l, prev => by
    simp only [linesF, List.count_append, count_line (no_parts h prev m), count_lines h l, List.length_cons]; omega
theorem count_text {ns : List (List UInt8)} (h : ∀ s ∈ ns, No s) (ms : List Mk) (en : Int) : (textF ns ms en).count 10 = ms.length + (if en = 0 then 0 else 1) := by
  simp only [textF, List.count_append, count_lines h]
  split
  · rfl
  · rw [count_line]
    intro s hs
    simp at hs
    rcases hs with rfl | rfl
    · simp [No]
    · exact no_itoa _

theorem names_mem : ∀ {ns : List (List UInt8)} {s : List UInt8}, s ∈ ns → s.length / 20 ≤ names ns
  | y :: l, s, h => by
    simp only [names, List.map_cons, List.sum_cons]
    rcases List.mem_cons.1 h with rfl | h
    · omega
    · have := names_mem h; simp only [names] at this; omega
theorem great_spec {ms : List Mk} {ns : List (List UInt8)} {en : Int} (h : great ms ns en = false) : (∀ m ∈ ms, -1000000000000 ≤ m.flags) ∧ ms.length + sizes ms + names ns ≤ 600 ∧ -1000000000000 ≤ en := by
  simp only [great, Bool.or_eq_false_iff, decide_eq_false_iff_not, List.any_eq_false, decide_eq_true_eq] at h
  obtain ⟨⟨h1, h2⟩, h3⟩ := h
  exact ⟨fun m hm => by have := h1 m hm; omega, by omega, by omega⟩

theorem fn3 : A.fn 3 = some a3 := by kernel_rfl
theorem prim3 : A.prim 3 = none := by kernel_rfl
def w3_0 : List Nat := a3_0.writes
def w3_1 : List Nat := a3_1.writes
def w3_2 : List Nat := a3_2.writes

theorem law3_bytes {ns : List (List UInt8)} {ap : Ap} {ms : List Mk} {b : Bool} {en : Int} {i : Nat} {s T : List UInt8} (hs : ns[i]? = some s) (hsl : s.length ≤ 20000)
    (h10 : runL A (.call 10 [trAv ms (apOf b) en, .lst 1 (ns.map AV.str) ap]) [] = some ⟨.ret, ⟨[.str T], []⟩, []⟩) {e : Env} {Q : PostQ} (he : e.length = 76)
    (h1 : AX.ev e (.t 1) = .lst 1 (ns.map AV.str) ap) (h2 : AX.ev e (.t 2) = .iptr (trAv ms (apOf b) en)) (h5 : AX.ev e (.t 5) = .str T) (h6 : AX.ev e (.t 6) = .int .i64 i) (h7 : AX.ev e (.t 7) = .int .i64 0)
    (hQ1 : ∀ e', Same w3_1 e e' → AX.ev e' (.t 4) = .bool true → Q .ret e' [] [])
    (hQ2 : ∀ e', Same w3_1 e e' → No s → Q (.exit 2) e' [] []) :
    AW A 3 none (.loop a3_1) e [] [] Q := by
  obtain ⟨hil, hs'⟩ := List.getElem?_eq_some_iff.1 hs
  simp [trAv] at h10
  refine aw_loop (W := w3_1) rfl (fun k e ds st' => ds = [] ∧ st' = [] ∧ ∃ j : Nat, j + k = s.length ∧ No (s.take j) ∧ AX.ev e (.t 7) = .int .i64 j) s.length ⟨rfl, rfl, 0, by omega, by simp [No], h7⟩ ?_
  rintro k e1 ds st' hs1 ⟨rfl, rfl, j, hk, hno, g7⟩ K kn kx
  have he1 : e1.length = 76 := by simp [hs1.1, he]
  have g1 := hs1.ev 1 rfl h1
  have g2 := hs1.ev 2 rfl h2
  have g5 := hs1.ev 5 rfl h5
  have g6 := hs1.ev 6 rfl h6
  simp only [trAv] at g2
  by_cases hj : j < s.length
  · obtain ⟨c, hc, hc', _⟩ := aGetAt hj
    have w2 : IntKind.i64.wrap ((j : Int) + 1) = (j : Int) + 1 := wrap_i64 (by omega) (by omega)
    by_cases hc10 : c = 10
    · subst hc10
      simp [a3_1, g1, g2, g5, g6, g7, he1, hil, hs', hj, hc', byteV, h10]
      refine kx _ _ _ _ nofun fun hs' => ?_
      exact hQ1 _ hs' (by simp [he1])
    · have hcn : ¬ (c.toNat : Int) = 10 := fun h => hc10 (UInt8.toNat_inj.1 (show c.toNat = 10 by omega))
      have hcn' : ¬ c.toNat = 10 := by omega
      simp [a3_1, g1, g2, g5, g6, g7, he1, hil, hs', hj, hc', byteV, hcn, hcn', w2]
      refine kn (k - 1) _ _ _ (by omega) ⟨rfl, rfl, j + 1, by omega, ?_, by simp [he1]⟩
      rw [List.take_add_one, hc]
      unfold No at *
      simp [hno, Ne.symm hc10]
  · have : j = s.length := by omega
    subst this
    simp at hno
    simp [a3_1, g1, g6, g7, he1, hil, hs']
    refine kx _ _ _ _ nofun fun hs' => ?_
    exact hQ2 _ hs' hno

theorem law3_count {T : List UInt8} (hT : T.length ≤ 100000000000) {e : Env} {Q : PostQ} (he : e.length = 76) (h5 : AX.ev e (.t 5) = .str T) (h8 : AX.ev e (.t 8) = .int .i64 0) (h9 : AX.ev e (.t 9) = .int .i64 0)
    (hQ : ∀ e', Same w3_0 e e' → AX.ev e' (.t 8) = .int .i64 (T.count 10 : Nat) → Q (.exit 4) e' [] []) :
    AW A 3 none (.loop a3_0) e [] [] Q := by
  refine aw_loop (W := w3_0) rfl (fun k e ds st' => ds = [] ∧ st' = [] ∧ ∃ i n : Nat, i + k = T.length ∧ n ≤ i ∧ n + (T.drop i).count 10 = T.count 10 ∧ AX.ev e (.t 9) = .int .i64 i ∧ AX.ev e (.t 8) = .int .i64 n) T.length ⟨rfl, rfl, 0, 0, by omega, by omega, by simp, h9, h8⟩ ?_
  rintro k e1 ds st' hs1 ⟨rfl, rfl, i, n, hk, hni, hn, g9, g8⟩ K kn kx
  have he1 : e1.length = 76 := by simp [hs1.1, he]
  have g5 := hs1.ev 5 rfl h5
  by_cases hi : i < T.length
  · obtain ⟨c, hc, hc', hd⟩ := aGetAt hi
    rw [hd] at hn
    have w2 : IntKind.i64.wrap ((i : Int) + 1) = (i : Int) + 1 := wrap_i64 (by omega) (by omega)
    have w3 : IntKind.i64.wrap ((n : Int) + 1) = (n : Int) + 1 := wrap_i64 (by omega) (by omega)
    by_cases hc10 : c = 10
    · subst hc10
      rw [List.count_cons_self] at hn
      simp [a3_0, g5, g8, g9, he1, hi, hc', byteV, w2, w3]
      exact kn (k - 1) _ _ _ (by omega) ⟨rfl, rfl, i + 1, n + 1, by omega, by omega, by omega, by simp [he1], by simp [he1]⟩
    · rw [List.count_cons_of_ne hc10] at hn
      have hcn : ¬ (c.toNat : Int) = 10 := fun h => hc10 (UInt8.toNat_inj.1 (show c.toNat = 10 by omega))
      have hcn' : ¬ c.toNat = 10 := by omega
      simp [a3_0, g5, g8, g9, he1, hi, hc', byteV, hcn, hcn', w2, w3]
      exact kn (k - 1) _ _ _ (by omega) ⟨rfl, rfl, i + 1, n, by omega, by omega, by omega, by simp [he1], by simp [g8]⟩
  · have : i = T.length := by omega
    subst this
    simp at hn
    simp [a3_0, g5, g9, he1]
    refine kx _ _ _ _ nofun fun hs' => ?_
    exact hQ _ hs' (by simp [g8, hn])

theorem law3_run {ns : List (List UInt8)} {ap : Ap} {ms : List Mk} {b : Bool} {en : Int} (hl : ms.length ≤ 2000000) (hb : ms.length + sizes ms + names ns ≤ 10000000) (hn : ns.length ≤ 2000000) (hns : ∀ s ∈ ns, s.length ≤ 10000000)
    (hen : -9223372036854775808 ≤ en ∧ en ≤ 9223372036854775807)
    (hms : ∀ m ∈ ms, (-9223372036854775808 ≤ m.time ∧ m.time ≤ 9223372036854775807) ∧ (∀ v ∈ m.outs, -9223372036854775808 ≤ v ∧ v ≤ 9223372036854775807) ∧ (-9223372036854775808 ≤ m.flags ∧ m.flags ≤ 9223372036854775807)) :
    runL A (.seqc 3 [trAv ms (apOf b) en, .lst 1 (ns.map AV.str) ap]) [] = some ⟨.ret, ⟨[.bool true], []⟩, []⟩ := by
  refine (task_of_aw (N := 76) prim3 fn3 rfl rfl StOk.nil ?_).2
  intro e he ha K hK
  have a0 := ha 0
  have a1 := ha 1
  clear ha
  simp [trAv] at a0 a1
  have hg := great_call (ms := ms) (ap := apOf b) (en := en) (ns := ns) (ap2 := ap) hl hb hn hns StOk.nil
  simp [trAv] at hg
  cases hgr : great ms ns en with
  | true =>
    simp [a3, he, a0, a1, alive_call, hg, hgr]
    exact hK _ _ _ (.inl rfl) (by simp) ⟨_, rfl, by simp [he]⟩
  | false =>
    obtain ⟨p1, p2, p3⟩ := great_spec hgr
    have hns' : NsOk ns := ⟨hn, fun s hs => by have := names_mem hs; omega⟩
    have hmk : ∀ m ∈ ms, MkOk m := fun m hm => by
      have := sizes_mem hm
      exact ⟨(hms m hm).1, (hms m hm).2.1, (hms m hm).2.2, by omega, by omega, by omega⟩
    have h9 := lines_call (ap := ap) (b := b) hns' hmk (by omega) hen StOk.nil
    have h10 := ref_lines_call (ap := ap) (b := b) hns' hmk (fun m hm => by have := p1 m hm; omega) (by omega) ⟨by omega, hen.2⟩ StOk.nil
    have hTl : (textF ns ms en).length ≤ 100000000000 := by
      have h1 := lines_len hns' ms 0 hmk
      have h2 : (Lib.join [[101, 110, 100], Lib.itoa en] [32]).length ≤ 50 := by
        refine Nat.le_trans (join_len _ _) ?_
        have := itoa_len hen.1 hen.2
        simp; omega
      simp only [textF, List.length_append]
      split
      · simp; omega
      · simp only [lineF, List.length_append, List.length_cons, List.length_nil]; omega
    have h9' := h9
    have h10' := h10
    simp [trAv] at h9' h10'
    simp [a3, he, a0, a1, alive_call, hg, hgr, h9']
    refine aw_loop (W := w3_2) rfl (fun k e ds st' => ds = [] ∧ st' = [] ∧ ∃ i : Nat, i + k = ns.length ∧ (∀ s ∈ ns.take i, No s) ∧ AX.ev e (.t 6) = .int .i64 i) ns.length ⟨rfl, rfl, 0, by omega, by simp, by simp [he]⟩ ?_
    rintro k e1 ds st' hs ⟨rfl, rfl, i, hk, hno, g6⟩ K1 kn kx
    have he1 : e1.length = 76 := by simp [hs.1, he]
    have g1 := hs.ev 1 rfl (v := .lst 1 (ns.map AV.str) ap) (by simp [a1])
    have g2 := hs.ev 2 rfl (v := .iptr (trAv ms (apOf b) en)) (by simp [he, trAv])
    have g5 := hs.ev 5 rfl (v := .str (textF ns ms en)) (by simp [he])
    by_cases hi : i < ns.length
    · obtain ⟨x, hx, hx', hd⟩ := aGetAt hi
      have w2 : IntKind.i64.wrap ((i : Int) + 1) = (i : Int) + 1 := wrap_i64 (by omega) (by omega)
      simp [a3_2, g1, g6, he1, hi]
      refine law3_bytes (ns := ns) (ap := ap) (ms := ms) (b := b) (en := en) (i := i) (s := x) (T := textF ns ms en) hx (hns'.2 x (List.mem_of_getElem? hx)) h10 (by simp [he1]) (by simp [g1]) (by simp [g2]) (by simp [g5]) (by simp [g6]) (by simp [he1]) ?_ ?_
      · intro e2 hs2 h4
        simp
        refine kx _ _ _ _ nofun fun hs' => ?_
        exact hK _ _ _ (.inl rfl) (by simp) ⟨_, congrArg (fun v => some [v]) h4, by simp⟩
      · intro e2 hs2 hnx
        have he2 : e2.length = 76 := by simp [hs2.1, he1]
        have k6 := hs2.ev 6 rfl (v := .int .i64 i) (by simp [g6])
        simp [k6, he2, w2]
        refine kn (k - 1) _ _ _ (by omega) ⟨rfl, rfl, i + 1, by omega, ?_, by simp [he2]⟩
        intro s hs
        rw [List.take_add_one, hx] at hs
        simp at hs
        rcases hs with hs | rfl
        · exact hno s hs
        · exact hnx
    · have : i = ns.length := by omega
      subst this
      simp at hno
      simp [a3_2, g1, g6, he1]
      refine kx _ _ _ _ nofun fun hs' => ?_
      simp
      refine law3_count (T := textF ns ms en) hTl (by simp [he1]) (by simp [g5]) (by simp [he1]) (by simp [he1]) ?_
      intro e2 hs2 k8
      rw [count_text hno] at k8
      have he2 : e2.length = 76 := by simp [hs2.1, he1]
      have k1 := hs2.ev 1 rfl (v := .lst 1 (ns.map AV.str) ap) (by simp [g1])
      have k2 := hs2.ev 2 rfl (v := .iptr (trAv ms (apOf b) en)) (by simp [g2])
      have k5 := hs2.ev 5 rfl (v := .str (textF ns ms en)) (by simp [g5])
      have w5 : IntKind.i64.wrap ((ms.length : Int) + 1) = (ms.length : Int) + 1 := wrap_i64 (by omega) (by omega)
      simp only [trAv] at k2
      by_cases hen0 : en = 0
      · simp [hen0] at k8
        simp only [hen0] at h10' k2 k5
        simp [k1, k2, k5, k8, he2, h10', hen0]
        exact hK _ _ _ (.inl rfl) (by simp) ⟨_, rfl, by simp [he2]⟩
      · simp [hen0] at k8
        simp [k1, k2, k5, k8, he2, h10', hen0, w5]
        exact hK _ _ _ (.inl rfl) (by simp) ⟨_, rfl, by simp [he2]⟩
end Go.Proofs.YtfkmdajlpnkebaaDoor

namespace Go.Proofs.YtfkmdajlpnkebaaDoor
open Go Ai

theorem i64_bounds {x : Int} (h : (Lit.int .i64 x).wf = true) : -9223372036854775808 ≤ x ∧ x ≤ 9223372036854775807 := by
  simpa [Lit.wf, IntKind.min, IntKind.max, IntKind.signed, IntKind.bits] using h
theorem names_bulk (ns : List (List UInt8)) : ns.length + names ns ≤ AV.bulks (ns.map AV.str) ∧ ∀ s ∈ ns, s.length ≤ AV.bulks (ns.map AV.str) := by
  induction ns with
  | nil => simp [names, AV.bulks]
  | cons x l ih =>
    obtain ⟨h1, h2⟩ := ih
    simp only [names, List.map_cons, List.sum_cons, List.length_cons, AV.bulks, AV.bulk] at h1 ⊢
    refine ⟨by omega, fun s hs => ?_⟩
    rcases List.mem_cons.1 hs with rfl | hs
    · omega
    · have := h2 s hs; omega
set_option maxRecDepth 100000 in
theorem runsTraceLines (avs : List AV) (h : ArgsOf Tryd.prog 8 Tryd.f3.params.toList avs) (hb : AV.bulks avs ≤ 1048576) : ∃ st ds, runL A (.seqc 3 avs) [] = some ⟨.ret, ⟨[.bool true], ds⟩, st⟩ := by
  rw [Tryd.params3] at h
  simp only [ArgsOf] at h
  obtain ⟨a, _, rfl, h1, c, _, rfl, h2, rfl⟩ := h
  obtain ⟨ms, b, en, rfl, we, hms⟩ := of_trace (n := 2) h1
  obtain ⟨ns, b2, rfl, _⟩ := ofType_slice (f := AV.str) (Q := fun _ => True) Tryd.underlying26 cells9 (fun x hx => by obtain ⟨s, rfl, _⟩ := ofType_str Tryd.underlying9 hx; exact ⟨s, rfl, trivial⟩) h2
  have h3 := tr_bulk (ms := ms) (ap := apOf b) (en := en)
  obtain ⟨h4, h5⟩ := names_bulk ns
  simp only [AV.bulks, AV.bulk] at hb h3
  refine ⟨_, _, law3_run (by omega) (by omega) (by omega) (fun s hs => by have := h5 s hs; omega) (i64_bounds we) (fun m hm => ?_)⟩
  obtain ⟨w1, w2, w3⟩ := hms m hm
  exact ⟨i64_bounds w2, fun v hv => i64_bounds (w1 v hv), i64_bounds w3⟩

theorem glOk {W : World} {laid : List (String × DataW Unit)} (_ : laidMetH Tryd.prog laid W) : GlOk gl (J0 W) := by
  intro g v h; cases h
theorem bwOk {W : World} (h : laidMetH Tryd.prog Rows.traceLinesUptoRow.laid W) : Bw W :=
  tab_of_laid (g := 0) (t := 87) (e := 68) (m := 20) (by kernel_rfl) (by kernel_rfl) (by kernel_rfl) Tryd.underlying87 Tryd.underlying68 (by kernel_rfl) (by kernel_rfl) h
end Go.Proofs.YtfkmdajlpnkebaaDoor

