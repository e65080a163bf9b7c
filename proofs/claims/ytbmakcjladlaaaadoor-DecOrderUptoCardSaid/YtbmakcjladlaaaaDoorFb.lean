/- Chapter 02: dec.Short and the document run symbolically; the laws. No condition. -/
import Derived.Test.YtbmakcjladlaaaaDoorFa
import Derived.Test.YtbmakcjladlaaaaDoorEd
import Derived.Lib.ItoaLen
import Derived.Test.YtbmakcjladlaaaaDoorEc
set_option linter.unusedVariables false
set_option linter.unusedSimpArgs false
namespace Go.Proofs.YtbmakcjladlaaaaDoor
open Go Ai

def Bw (w : World) : Prop := Lib.TabIs Tryd.prog w pow10Name .u64 Lib.pow10Tab

theorem primsOk : PrimsOk Tryd.prog gl A Bw := by
  intro f h args st o st' hf hh
  have hf' : (prims.find? fun e => e.1 == f).map (·.2) = some h := hf
  simp only [prims, List.find?_cons, List.find?_nil] at hf'
  split at hf'
  · rename_i e
    have : f = 25 := (beq_iff_eq.1 e).symm
    subst this
    cases hf'
    cases o <;> exact pure_task join25 hh
  · split at hf'
    · rename_i e
      have : f = 17 := (beq_iff_eq.1 e).symm
      subst this
      cases hf'
      cases o <;> exact pure_task (fmtUint17 (B := Bw) fun _ h => h) hh
    · split at hf'
      · rename_i e
        have : f = 24 := (beq_iff_eq.1 e).symm
        subst this
        cases hf'
        cases o <;> exact pure_task trim24 hh
      · split at hf'
        · rename_i e
          have : f = 64 := (beq_iff_eq.1 e).symm
          subst this
          cases hf'
          cases o <;> exact pure_task index64 hh
        · cases hf'

theorem prim8 : A.prim 8 = none := by kernel_rfl
theorem beqs_true {l : List AV} (h : AV.beqs l [.bool true] = true) : l = [.bool true] := by
  match l, h with
  | [.bool true], _ => rfl
  | [.bool false], h => simp [AV.beqs, AV.beq] at h
theorem alive_call : runL A (.call 8 []) [] = some ⟨.ret, ⟨[.bool true], []⟩, []⟩ := by
  have h := alive_run
  have e : runL A (.call 8 []) [] = runL A (.seqc 8 []) [] := by
    rw [runL_eq, runL_eq (.seqc 8 [])]
    simp only [layer, prim8]
  rw [e]
  split at h
  · rename_i fr st hr
    simp only [Bool.and_eq_true, List.isEmpty_iff] at h
    obtain ⟨⟨h1, rfl⟩, h2⟩ := h
    refine runL_some.2 ⟨400, ?_⟩
    rw [hr]
    obtain ⟨env, defs⟩ := fr
    simp only at h1 h2
    rw [beqs_true h1, h2]
  · cases h
end Go.Proofs.YtbmakcjladlaaaaDoor

namespace Go.Proofs.YtbmakcjladlaaaaDoor
open Go Ai

def byteOf (n : Nat) : UInt8 := UInt8.ofNat (48 + n)
def fr : Nat → Nat → List UInt8
  | 0, _ => []
  | n + 1, b => byteOf (b * 10 / 4294967296) :: fr n (b * 10 % 4294967296)
def trim0 (l : List UInt8) : List UInt8 := Lib.trimRightB l 48
def shortF (q : Int) (k : Nat) : List UInt8 :=
  let s := (if q < 0 then [45] else []) ++ Lib.decDigits (q.natAbs / 4294967296)
  let f := trim0 (fr k (q.natAbs % 4294967296))
  if f = [] then s else s ++ 46 :: f
def clamp (n : Int) : Nat := if n < 0 then 0 else if 32 < n then 32 else n.toNat

theorem fr_length : ∀ n b, (fr n b).length = n
  | 0, _ => rfl
  | n + 1, b => by simp [fr, fr_length n]
theorem dec_len (u : Nat) (h : u < 18446744073709551616) : (Lib.decDigits u).length ≤ 20 := by
  rw [Lib.decDigits_length]; exact Lib.nDigits_le20 u h

theorem trim0_snoc (l : List UInt8) : trim0 (l ++ [48]) = trim0 l := by
  simp [trim0, Lib.trimRightB]
theorem trim0_keep {l : List UInt8} {c : UInt8} (h : c ≠ 48) : trim0 (l ++ [c]) = l ++ [c] := by
  simp [trim0, Lib.trimRightB, h]
theorem trim0_nil : trim0 [] = [] := rfl
theorem trim0_zeros (l : List UInt8) : ∀ k, trim0 (l ++ List.replicate k 48) = trim0 l
  | 0 => by simp
  | k + 1 => by
    rw [List.replicate_succ', ← List.append_assoc, trim0_snoc, trim0_zeros l k]
theorem fr_zero : ∀ k, fr k 0 = List.replicate k 48
  | 0 => rfl
  | k + 1 => by simp [fr, fr_zero k, List.replicate_succ]; decide

theorem fn10 : A.fn 10 = some a10 := by kernel_rfl
theorem prim10 : A.prim 10 = none := by kernel_rfl
def w10_0 : List Nat := a10_0.writes
def w10_1 : List Nat := a10_1.writes
def w10_2 : List Nat := a10_2.writes

theorem wrap_u64 {n : Int} (h0 : 0 ≤ n) (h1 : n < 18446744073709551616) : IntKind.u64.wrap n = n := by
  simp [IntKind.wrap, IntKind.signed, IntKind.bits]; omega
theorem wrap_u8 {n : Int} (h0 : 0 ≤ n) (h1 : n < 256) : IntKind.u8.wrap n = n := by
  simp [IntKind.wrap, IntKind.signed, IntKind.bits]; omega

theorem tmodN {u : Nat} {b : Int} : (u : Int).tmod b = (u : Int) % b := Int.tmod_eq_emod_of_nonneg (by omega)
attribute [simp] tmodN

set_option maxRecDepth 20000 in
theorem short_a {u0 : Nat} (hu : u0 < 18446744073709551616) {e : Env} {st : St} {Q : PostQ} (he : e.length = 90) (h7 : AX.ev e (.t 7) = .int .u64 u0) (h9 : AX.ev e (.t 9) = .str [])
    (hQ : ∀ e' a d, Same w10_2 e e' → a < 10 → AX.ev e' (.t 7) = .int .u64 (a : Nat) → AX.ev e' (.t 9) = .str d → Lib.decDigits u0 = byteOf a :: d → Q (.exit 0) e' [] st) :
    AW A 10 none (.loop a10_2) e [] st Q := by
  refine aw_loop (W := w10_2) rfl (fun k e ds st' => ds = [] ∧ st' = st ∧ ∃ (a : Nat) (d : List UInt8), a = k ∧ a < 18446744073709551616 ∧ Lib.decDigits u0 = Lib.decDigits a ++ d ∧ AX.ev e (.t 7) = .int .u64 a ∧ AX.ev e (.t 9) = .str d) u0 ⟨rfl, rfl, u0, [], rfl, hu, by simp, h7, h9⟩ ?_
  rintro k e1 ds st' hs ⟨rfl, rfl, a, d, rfl, ha, hd, g7, g9⟩ K kn kx
  have he1 : e1.length = 90 := by simp [hs.1, he]
  have hlen : (Lib.decDigits a).length + d.length ≤ 20 := by
    have := dec_len u0 hu; rw [hd] at this; simpa using this
  by_cases h10 : 10 ≤ a
  · have h10' : (10 : Int) ≤ (a : Int) := by omega
    obtain ⟨c, hc⟩ : ∃ c : Nat, c = 48 + a % 10 := ⟨_, rfl⟩
    have w1 : IntKind.u64.wrap (48 + (a : Int) % 10) = (c : Int) := by rw [wrap_u64 (by omega) (by omega)]; omega
    have w2 : IntKind.u8.wrap (c : Int) = (c : Int) := wrap_u8 (by omega) (by omega)
    have w4 : (c : Int) < 256 := by omega
    have w4' : c < 256 := by omega
    have w3 : IntKind.u64.wrap ((a : Int) / 10) = ((a / 10 : Nat) : Int) := by rw [wrap_u64 (by omega) (by omega)]; simp
    have w6 : 1 + d.length ≤ 281474976710656 := by omega
    have w7 : d.length + 1 ≤ 281474976710656 := by omega
    simp [a10_2, g7, g9, he1, h10', h10, w1, w2, w3, w4, w4', w6, w7, ofBytes]
    have hdd : Lib.decDigits a = Lib.decDigits (a / 10) ++ [byteOf (a % 10)] := by
      rw [Lib.decDigits, dif_neg (by omega)]; rfl
    exact kn (a / 10) _ _ _ (by omega) ⟨rfl, rfl, a / 10, byteOf (a % 10) :: d, rfl, by omega, by rw [hd, hdd]; simp, by simp [he1], by simp [he1, byteOf, hc]⟩
  · have h10' : ¬ (10 : Int) ≤ (a : Int) := by omega
    simp [a10_2, g7, g9, he1, h10', h10]
    refine kx _ _ _ _ nofun fun hs' => ?_
    have hdd : Lib.decDigits a = [byteOf a] := by rw [Lib.decDigits, dif_pos (by omega)]; rfl
    exact hQ _ a d hs' (by omega) (by simp [g7]) (by simp [g9]) (by rw [hd, hdd]; rfl)

set_option maxRecDepth 20000 in
theorem short_f {n b0 : Nat} (hn : n ≤ 32) (hb : b0 < 4294967296) {e : Env} {st : St} {Q : PostQ} (he : e.length = 90) (h1 : AX.ev e (.t 1) = .int .i64 n) (h8 : AX.ev e (.t 8) = .int .u64 b0) (h10 : AX.ev e (.t 10) = .str []) (h11 : AX.ev e (.t 11) = .int .i64 0)
    (hQ : ∀ e', Same w10_1 e e' → AX.ev e' (.t 10) = .str (fr n b0) → Q (.exit 2) e' [] st) :
    AW A 10 none (.loop a10_1) e [] st Q := by
  refine aw_loop (W := w10_1) rfl (fun k e ds st' => ds = [] ∧ st' = st ∧ ∃ (i b : Nat) (f : List UInt8), i + k = n ∧ b < 4294967296 ∧ f.length = i ∧ f ++ fr k b = fr n b0 ∧ AX.ev e (.t 11) = .int .i64 i ∧ AX.ev e (.t 8) = .int .u64 b ∧ AX.ev e (.t 10) = .str f) n ⟨rfl, rfl, 0, b0, [], by omega, hb, rfl, by simp, h11, h8, h10⟩ ?_
  rintro k e1 ds st' hs ⟨rfl, rfl, i, b, f, hk, hb', hf, hfr, g11, g8, g10⟩ K kn kx
  have he1 : e1.length = 90 := by simp [hs.1, he]
  have g1 := hs.ev 1 rfl h1
  cases k with
  | zero =>
    have : i = n := by omega
    subst this
    simp [a10_1, g1, g11, he1]
    refine kx _ _ _ _ nofun fun hs' => ?_
    exact hQ _ hs' (by simp [g10]; simpa [fr] using hfr)
  | succ k =>
    have hi : i < n := by omega
    have hq : b * 10 / 4294967296 < 10 := by omega
    have w0 : IntKind.u64.wrap ((b : Int) * 10) = (b : Int) * 10 := wrap_u64 (by omega) (by omega)
    have w1 : IntKind.u64.wrap ((b : Int) * 10 / 4294967296) = ((b * 10 / 4294967296 : Nat) : Int) := by rw [wrap_u64 (by omega) (by omega)]; simp
    obtain ⟨c, hc⟩ : ∃ c : Nat, c = 48 + b * 10 / 4294967296 := ⟨_, rfl⟩
    have w2 : IntKind.u64.wrap (48 + (b : Int) * 10 / 4294967296) = (c : Int) := by rw [wrap_u64 (by omega) (by omega)]; omega
    have w3 : IntKind.u8.wrap (c : Int) = (c : Int) := wrap_u8 (by omega) (by omega)
    have w4 : (c : Int) < 256 := by omega
    have w4' : c < 256 := by omega
    have w6 : f.length + 1 ≤ 281474976710656 := by omega
    have w7 : IntKind.i64.wrap ((i : Int) + 1) = (i : Int) + 1 := wrap_i64 (by omega) (by omega)
    have w8 : (0 : Int) ≤ (b : Int) * 10 := by omega
    simp [a10_1, g1, g8, g10, g11, he1, hi, w0, w1, w2, w3, w4, w4', w6, w7, Int.tdiv_eq_ediv_of_nonneg w8, Int.tmod_eq_emod_of_nonneg w8, ofBytes]
    exact kn k _ _ _ (by omega) ⟨rfl, rfl, i + 1, b * 10 % 4294967296, f ++ [byteOf (b * 10 / 4294967296)], by omega, by omega, by simp [hf], by rw [← hfr]; simp [fr], by simp [he1], by simp [he1], by simp [he1, byteOf, hc]⟩

theorem short_t {f0 : List UInt8} (hf0 : f0.length ≤ 32) {e : Env} {st : St} {Q : PostQ} (he : e.length = 90) (h10 : AX.ev e (.t 10) = .str f0)
    (hQ : ∀ e', Same w10_0 e e' → AX.ev e' (.t 10) = .str (trim0 f0) → Q (.exit 4) e' [] st) :
    AW A 10 none (.loop a10_0) e [] st Q := by
  refine aw_loop (W := w10_0) rfl (fun k e ds st' => ds = [] ∧ st' = st ∧ ∃ f : List UInt8, f.length = k ∧ f.length ≤ 32 ∧ trim0 f = trim0 f0 ∧ AX.ev e (.t 10) = .str f) f0.length ⟨rfl, rfl, f0, rfl, hf0, rfl, h10⟩ ?_
  rintro k e1 ds st' hs ⟨rfl, rfl, f, hk, hf, htr, g10⟩ K kn kx
  have he1 : e1.length = 90 := by simp [hs.1, he]
  rcases List.eq_nil_or_concat f with rfl | ⟨f', c, hfc⟩
  · simp [a10_0, g10, he1]
    refine kx _ _ _ _ nofun fun hs' => ?_
    exact hQ _ hs' (by simp [g10]; rw [← htr]; rfl)
  · rw [List.concat_eq_append] at hfc
    subst hfc
    simp at hf hk
    have w0 : IntKind.i64.wrap (f'.length : Int) = (f'.length : Int) := wrap_i64 (by omega) (by omega)
    have w1 : IntKind.i64.wrap ((f'.length : Int) + 1 - 1) = (f'.length : Int) := by rw [wrap_i64 (by omega) (by omega)]; omega
    by_cases hc : c = 48
    · subst hc
      have hle1 : (f'.length : Int) ≤ (f'.length : Int) + 1 := by omega
      simp [a10_0, g10, he1, w0, w1, byteV, bound, hle1]
      exact kn f'.length _ _ _ (by omega) ⟨rfl, rfl, f', rfl, by omega, by rw [← htr, trim0_snoc], by simp [he1]⟩
    · have hc' : ¬ (c.toNat : Int) = 48 := fun h => hc (UInt8.toNat_inj.1 (show c.toNat = 48 by omega))
      have hc'' : ¬ c.toNat = 48 := by omega
      simp [a10_0, g10, he1, w0, w1, hc, hc', hc'', byteV, bound]
      refine kx _ _ _ _ nofun fun hs' => ?_
      exact hQ _ hs' (by rw [← htr, trim0_keep hc]; simp [g10])

def r10 : ACode := match a10.body with
  | .seq _ (.seq _ (.seq _ (.seq _ (.seq _ (.seq _ (.seq _ (.seq _ (.seq _ (.seq _ r))))))))) => r
  | _ => .skip

theorem short_tail {u k : Nat} {s : List UInt8} (hu : u < 18446744073709551616) (hk : k ≤ 32) (hs : s.length ≤ 1) {e : Env} {st : St} {K : PostQ} (he : e.length = 90) (h1 : AX.ev e (.t 1) = .int .i64 k) (h5 : AX.ev e (.t 5) = .str s)
    (h7 : AX.ev e (.t 7) = .int .u64 (u / 4294967296 : Nat)) (h8 : AX.ev e (.t 8) = .int .u64 (u % 4294967296 : Nat)) (h9 : AX.ev e (.t 9) = .str [])
    (hK : ∀ e2, e2.length = 90 → AX.ev e2 (.t 4) = .str (if trim0 (fr k (u % 4294967296)) = [] then s ++ Lib.decDigits (u / 4294967296) else (s ++ Lib.decDigits (u / 4294967296)) ++ 46 :: trim0 (fr k (u % 4294967296))) → K .ret e2 [] st) :
    AW A 10 none (.loop a10_2) e [] st (Blk 0 (SeqQ A 10 none r10 K)) := by
  refine short_a (u0 := u / 4294967296) (by omega) he h7 h9 ?_
  intro e2 a d hs2 ha g7 g9 hd
  have he2 : e2.length = 90 := by simp [hs2.1, he]
  have g1 := hs2.ev 1 rfl h1
  have g5 := hs2.ev 5 rfl h5
  have g8 := hs2.ev 8 rfl h8
  have hdl : d.length ≤ 20 := by have := dec_len (u / 4294967296) (by omega); rw [hd] at this; simp at this; omega
  obtain ⟨c, hc⟩ : ∃ c : Nat, c = 48 + a := ⟨_, rfl⟩
  have w1 : IntKind.u64.wrap (48 + (a : Int)) = (c : Int) := by rw [wrap_u64 (by omega) (by omega)]; omega
  have w2 : IntKind.u8.wrap (c : Int) = (c : Int) := wrap_u8 (by omega) (by omega)
  have w4 : (c : Int) < 256 := by omega
  have w4' : c < 256 := by omega
  have w6 : s.length + 1 ≤ 281474976710656 := by omega
  have w7 : s.length + 1 + d.length ≤ 281474976710656 := by omega
  have w7' : s.length + (d.length + 1) ≤ 281474976710656 := by omega
  simp [r10, a10, g5, g7, g9, he2, w1, w2, w4, w4', w6, w7, w7', ofBytes]
  refine short_f (n := k) (b0 := u % 4294967296) hk (by omega) (by simp [he2]) (by simp [g1]) (by simp [g8]) (by simp [he2]) (by simp [he2]) ?_
  intro e3 hs3 k10
  have he3 : e3.length = 90 := by simp [hs3.1, he2]
  have k5 := hs3.ev 5 rfl (v := .str (s ++ Lib.decDigits (u / 4294967296))) (by simp [he2, hd, byteOf, hc])
  simp
  refine short_t (f0 := fr k (u % 4294967296)) (by rw [fr_length]; exact hk) (by simp [he3]) (by simp [k10]) ?_
  intro e4 hs4 m10
  have he4 : e4.length = 90 := by simp [hs4.1, he3]
  have m5 := hs4.ev 5 rfl k5
  have hl1 : (Lib.decDigits (u / 4294967296)).length ≤ 20 := dec_len _ (by omega)
  have hl2 : (trim0 (fr k (u % 4294967296))).length ≤ 32 := by
    have : (trim0 (fr k (u % 4294967296))).length ≤ (fr k (u % 4294967296)).length := by
      simp only [trim0, Lib.trimRightB, List.length_reverse]
      have := (List.dropWhile_sublist (fun b : UInt8 => b == 48) (l := (fr k (u % 4294967296)).reverse)).length_le
      simpa using this
    rw [fr_length] at this; omega
  by_cases hz : trim0 (fr k (u % 4294967296)) = []
  · simp [m10, m5, he4, hz]
    exact hK _ (by simp [he4]) (by simp [he4, hz])
  · have w8 : s.length + (Lib.decDigits (u / 4294967296)).length + 1 ≤ 281474976710656 := by omega
    have w9 : s.length + (Lib.decDigits (u / 4294967296)).length + 1 + (trim0 (fr k (u % 4294967296))).length ≤ 281474976710656 := by omega
    have w9' : s.length + ((Lib.decDigits (u / 4294967296)).length + 1) ≤ 281474976710656 := by omega
    have w10 : s.length + ((Lib.decDigits (u / 4294967296)).length + 1) + (trim0 (fr k (u % 4294967296))).length ≤ 281474976710656 := by omega
    have w11 : s.length + ((Lib.decDigits (u / 4294967296)).length + (trim0 (fr k (u % 4294967296))).length + 1) ≤ 281474976710656 := by omega
    simp [m10, m5, he4, hz, w8, w9, w9', w10, w11]
    exact hK _ (by simp [he4]) (by simp [he4, hz])

theorem ref_short_call {q n : Int} (hq0 : -9223372036854775808 ≤ q) (hq1 : q ≤ 9223372036854775807) {st : St} (hst : StOk st) :
    runL A (.call 10 [.int .i64 q, .int .i64 n]) st = some ⟨.ret, ⟨[.str (shortF q (clamp n))], []⟩, st⟩ := by
  refine (task_of_aw (N := 90) prim10 fn10 rfl rfl hst ?_).1
  intro e he ha K hK
  have a0 := ha 0
  have a1 := ha 1
  clear ha
  simp at a0 a1
  obtain ⟨u, hu⟩ : ∃ u : Nat, u = q.natAbs := ⟨_, rfl⟩
  have hu64 : u < 18446744073709551616 := by omega
  have w1 : IntKind.u64.wrap ((u : Int) / 4294967296) = ((u / 4294967296 : Nat) : Int) := by rw [wrap_u64 (by omega) (by omega)]; simp
  have fin : ∀ (s : List UInt8), s = (if q < 0 then [45] else []) → ∀ e2 : Env, e2.length = 90 → AX.ev e2 (.t 4) = .str (if trim0 (fr (clamp n) (u % 4294967296)) = [] then s ++ Lib.decDigits (u / 4294967296) else (s ++ Lib.decDigits (u / 4294967296)) ++ 46 :: trim0 (fr (clamp n) (u % 4294967296))) → K .ret e2 [] st := by
    intro s hs e2 he2 h4
    refine hK _ _ _ (.inl rfl) (by simp) ⟨_, congrArg (fun v => some [v]) h4, ?_⟩
    simp [shortF, hs, hu]
  by_cases hq : q < 0
  · have hqu : q = -(u : Int) := by omega
    have w2 : IntKind.u64.wrap q = q + 18446744073709551616 := by
      simp [IntKind.wrap, IntKind.signed, IntKind.bits]; omega
    have w3 : IntKind.i64.wrap (q + 1) = q + 1 := wrap_i64 (by omega) (by omega)
    have w4 : IntKind.i64.wrap (0 - (q + 1)) = (u : Int) - 1 := by rw [wrap_i64 (by omega) (by omega)]; omega
    have w4' : IntKind.i64.wrap (-(q + 1)) = (u : Int) - 1 := by rw [wrap_i64 (by omega) (by omega)]; omega
    have w5 : IntKind.u64.wrap ((u : Int) - 1) = (u : Int) - 1 := wrap_u64 (by omega) (by omega)
    have w6 : IntKind.u64.wrap ((u : Int) - 1 + 1) = (u : Int) := by rw [wrap_u64 (by omega) (by omega)]; omega
    have w6' : IntKind.u64.wrap (u : Int) = (u : Int) := wrap_u64 (by omega) (by omega)
    by_cases hn0 : n < 0
    · simp [a10, he, a0, a1, hq, hn0, w1, w2, w3, w4, w4', w5, w6, w6']
      exact short_tail (u := u) (k := clamp n) (s := [45]) hu64 (by simp [clamp, hn0]) (by simp) (by simp [he]) (by simp [he, clamp, hn0]) (by simp [he]) (by simp [he]) (by simp [he]) (by simp [he]) (fin [45] (by simp [hq]))
    · by_cases hn1 : 32 < n
      · simp [a10, he, a0, a1, hq, hn0, hn1, w1, w2, w3, w4, w4', w5, w6, w6']
        exact short_tail (u := u) (k := clamp n) (s := [45]) hu64 (by simp [clamp, hn0, hn1]) (by simp) (by simp [he]) (by simp [he, clamp, hn0, hn1]) (by simp [he]) (by simp [he]) (by simp [he]) (by simp [he]) (fin [45] (by simp [hq]))
      · simp [a10, he, a0, a1, hq, hn0, hn1, w1, w2, w3, w4, w4', w5, w6, w6']
        exact short_tail (u := u) (k := clamp n) (s := [45]) hu64 (by simp [clamp, hn0, hn1]; omega) (by simp) (by simp [he]) (by simp [clamp, hn0, hn1, a1]; omega) (by simp [he]) (by simp [he]) (by simp [he]) (by simp [he]) (fin [45] (by simp [hq]))
  · have hqu : q = (u : Int) := by omega
    have w2 : IntKind.u64.wrap q = (u : Int) := by rw [hqu]; exact wrap_u64 (by omega) (by omega)
    by_cases hn0 : n < 0
    · simp [a10, he, a0, a1, hq, hn0, w1, w2]
      exact short_tail (u := u) (k := clamp n) (s := []) hu64 (by simp [clamp, hn0]) (by simp) (by simp [he]) (by simp [he, clamp, hn0]) (by simp [he]) (by simp [he]) (by simp [he]) (by simp [he]) (fin [] (by simp [hq]))
    · by_cases hn1 : 32 < n
      · simp [a10, he, a0, a1, hq, hn0, hn1, w1, w2]
        exact short_tail (u := u) (k := clamp n) (s := []) hu64 (by simp [clamp, hn0, hn1]) (by simp) (by simp [he]) (by simp [he, clamp, hn0, hn1]) (by simp [he]) (by simp [he]) (by simp [he]) (by simp [he]) (fin [] (by simp [hq]))
      · simp [a10, he, a0, a1, hq, hn0, hn1, w1, w2]
        exact short_tail (u := u) (k := clamp n) (s := []) hu64 (by simp [clamp, hn0, hn1]; omega) (by simp) (by simp [he]) (by simp [clamp, hn0, hn1, a1]; omega) (by simp [he]) (by simp [he]) (by simp [he]) (by simp [he]) (fin [] (by simp [hq]))
end Go.Proofs.YtbmakcjladlaaaaDoor

namespace Go.Proofs.YtbmakcjladlaaaaDoor
open Go Ai

theorem runL_pure {f : FuncId} {h : List AV → Option AV} {args : List AV} {v : AV} {st : St} (hp : A.prim f = some (pureP h)) (hv : h args = some v) : runL A (.call f args) st = some ⟨.ret, ⟨[v], []⟩, st⟩ := by
  rw [runL_eq]; simp only [layer, hp, pureP, hv, Option.map_some]

theorem prim17 : A.prim 17 = some (pureP fmtUintA) := rfl
theorem prim24 : A.prim 24 = some (pureP trimRightA) := rfl
theorem prim25 : A.prim 25 = some (pureP joinA) := rfl

theorem fmt_call {u : Nat} (hu : u < 18446744073709551616) {st : St} : runL A (.call 17 [.int .u64 u, .int .i64 10]) st = some ⟨.ret, ⟨[.str (Lib.decDigits u)], []⟩, st⟩ :=
  runL_pure prim17 (by simp [fmtUintA, decF_eq 20 u (by omega) (by omega)]; omega)
theorem trim_call {s : List UInt8} (hs : s.length ≤ 9223372036854775807) {st : St} : runL A (.call 24 [.str s, .str [48]]) st = some ⟨.ret, ⟨[.str (trim0 s)], []⟩, st⟩ :=
  runL_pure prim24 (by simp [trimRightA, hs, trim0])
theorem strsA_map : ∀ l : List (List UInt8), strsA (l.map AV.str) = some l
  | [] => rfl
  | s :: l => by simp [strsA, strsA_map l]
theorem join_call {l : List (List UInt8)} {sep : List UInt8} {ap : Ap} (hl : (Lib.join l sep).length ≤ 140737488355328) (hn : l.length ≤ 140737488355328) {st : St} :
    runL A (.call 25 [.lst 1 (l.map AV.str) ap, .str sep]) st = some ⟨.ret, ⟨[.str (Lib.join l sep)], []⟩, st⟩ :=
  runL_pure prim25 (by simp [joinA, strsA_map, hl, hn])
theorem fn16 : A.fn 16 = some a16 := by kernel_rfl
theorem prim16 : A.prim 16 = none := by kernel_rfl
theorem fn18 : A.fn 18 = some a18 := by kernel_rfl
theorem prim18 : A.prim 18 = none := by kernel_rfl
theorem fn19 : A.fn 19 = some a19 := by kernel_rfl
theorem prim19 : A.prim 19 = none := by kernel_rfl
theorem fn9 : A.fn 9 = some a9 := by kernel_rfl
theorem prim9 : A.prim 9 = none := by kernel_rfl
theorem fn11 : A.fn 11 = some a11 := by kernel_rfl
theorem prim11 : A.prim 11 = none := by kernel_rfl

theorem sign_call {q : Int} (hq0 : -9223372036854775808 ≤ q) (hq1 : q ≤ 9223372036854775807) {st : St} (hst : StOk st) :
    runL A (.call 16 [.int .i64 q]) st = some ⟨.ret, ⟨[.tup [.str (if q < 0 then [45] else []), .int .u64 (q.natAbs : Nat)]], []⟩, st⟩ := by
  refine (task_of_aw (N := 11) prim16 fn16 rfl rfl hst ?_).1
  intro e he ha K hK
  have a0 := ha 0
  clear ha
  simp at a0
  by_cases hq : q < 0
  · have w2 : IntKind.u64.wrap q = q + 18446744073709551616 := by
      simp [IntKind.wrap, IntKind.signed, IntKind.bits]; omega
    have w3 : IntKind.u64.wrap (0 - (q + 18446744073709551616)) = (q.natAbs : Int) := by
      simp [IntKind.wrap, IntKind.signed, IntKind.bits]; omega
    have w3' : IntKind.u64.wrap (-(q + 18446744073709551616)) = (q.natAbs : Int) := by
      simp [IntKind.wrap, IntKind.signed, IntKind.bits]; omega
    simp [a16, he, a0, hq, w2, w3, w3']
    exact hK _ _ _ (.inl rfl) (by simp) ⟨_, rfl, by simp [he, hq, AV.stills]⟩
  · have w2 : IntKind.u64.wrap q = (q.natAbs : Int) := by rw [wrap_u64 (by omega) (by omega)]; omega
    simp [a16, he, a0, hq, w2]
    exact hK _ _ _ (.inl rfl) (by simp) ⟨_, rfl, by simp [he, hq, AV.stills]⟩

theorem ofBytes_byteV : ∀ l : List UInt8, ofBytes (l.map byteV) = some l
  | [] => rfl
  | b :: l => by
    have := b.toNat_lt
    simp [byteV, ofBytes, ofBytes_byteV l]; omega

theorem and_mask {u : Nat} (h : u < 18446744073709551616) : IntKind.u64.wrap ((BitVec.ofInt IntKind.u64.bits (u : Int) &&& BitVec.ofInt IntKind.u64.bits 4294967295).toNat : Int) = ((u % 4294967296 : Nat) : Int) := by
  have e1 : (BitVec.ofInt IntKind.u64.bits (u : Int) &&& BitVec.ofInt IntKind.u64.bits 4294967295).toNat = u % 4294967296 := by
    have h1 : (BitVec.ofInt IntKind.u64.bits (u : Int)).toNat = u := by
      simp [IntKind.bits, BitVec.toNat_ofInt]; omega
    have h2 : (BitVec.ofInt IntKind.u64.bits 4294967295).toNat = 2 ^ 32 - 1 := by simp [IntKind.bits]
    rw [BitVec.toNat_and, h1, h2, Nat.and_two_pow_sub_one_eq_mod]
  rw [e1]
  exact wrap_u64 (by omega) (by omega)
theorem shr32 {u : Nat} (h : u < 18446744073709551616) : shiftOp .shr .u64 (u : Int) 32 = some (.int .u64 (u / 4294967296 : Nat)) := by
  simp [shiftOp, IntKind.bits]
  rw [Int.fdiv_eq_ediv_of_nonneg _ (by omega)]

def w18_0 : List Nat := a18_0.writes
theorem behind_call {u k : Nat} (hu : u < 18446744073709551616) (hk : k ≤ 32) {st : St} (hst : StOk st) :
    runL A (.call 18 [.int .u64 u, .int .i64 k]) st = some ⟨.ret, ⟨[.str (trim0 (fr k (u % 4294967296)))], []⟩, st⟩ := by
  refine (task_of_aw (N := 31) prim18 fn18 rfl rfl hst ?_).1
  intro e he ha K hK
  have a0 := ha 0
  have a1 := ha 1
  clear ha
  simp at a0 a1
  have wm0 := and_mask hu
  simp at wm0
  simp [a18, he, a0, wm0]
  refine aw_loop (W := w18_0) rfl (fun m e ds st' => ds = [] ∧ ∃ (out : List UInt8) (low : Nat) (ap : Ap), m + out.length = k ∧ low < 4294967296 ∧ trim0 (out ++ fr m low) = trim0 (fr k (u % 4294967296)) ∧ Grew st.length st st' ∧
      AX.ev e (.t 5) = .lst 1 (out.map byteV) ap ∧ AX.ev e (.t 6) = .int .u64 low ∧ Own st' st.length 1 (some 5) ap out.length) k
    ⟨rfl, [], u % 4294967296, .tight, by simp, by omega, rfl, .refl, by simp [he], by simp [he], .nil⟩ ?_
  rintro m e1 ds st' hs ⟨rfl, out, low, ap, hm, hlow, htr, hgr, g5, g6, ho⟩ K1 kn kx
  have he1 : e1.length = 31 := by simp [hs.1, he]
  have g1 := hs.ev 1 rfl (v := .int .i64 k) (by simp [a1])
  have fin : trim0 out = trim0 (fr k (u % 4294967296)) → ∀ (E : Env), AX.ev E (.t 5) = .lst 1 (out.map byteV) ap → E.length = 31 → AW A 18 none (.seq (.reg [⟨(some 28), .mov (.t 5), none⟩,
 ⟨(some 29), .convStr (.t 28), none⟩,
 ⟨(some 30), .call (.k (.func (.func 24) [] [])) [(.t 29), (.k (.str [48]))], none⟩,
 ⟨(some 4), .mov (.t 30), none⟩])
 .ret) E [] st' K := by
    intro ht E h5 hE
    have ht49 := trim_call (s := out) (st := st') (by omega)
    simp [h5, hE, ofBytes_byteV, ht49]
    exact hK _ _ _ (.inl rfl) (by have := hgr.take; simpa using this) ⟨_, rfl, by simp [hE, ht]⟩
  by_cases hl0 : low = 0
  · subst hl0
    rw [fr_zero, trim0_zeros] at htr
    simp [a18_0, g1, g5, g6, he1]
    refine kx _ _ _ _ nofun fun hs' => ?_
    simp only [blk_exit, if_true, sq_nrm]
    exact fin htr _ (by simp [g5]) (by simp [he1])
  · cases m with
    | zero =>
      simp [fr] at htr
      have hlk : ¬ out.length < k := by omega
      have hl1 : 0 < low := by omega
      simp [a18_0, g1, g5, g6, he1, hl1, hlk]
      refine kx _ _ _ _ nofun fun hs' => ?_
      simp only [blk_exit, if_true, sq_nrm]
      exact fin htr _ (by simp [g5]) (by simp [he1])
    | succ m =>
      have hlk : out.length < k := by omega
      have hl1 : 0 < low := by omega
      have hq : low * 10 / 4294967296 < 10 := by omega
      have w0 : IntKind.u64.wrap ((low : Int) * 10) = ((low * 10 : Nat) : Int) := by rw [wrap_u64 (by omega) (by omega)]; simp
      have wsh : shiftOp .shr .u64 ((low : Int) * 10) 32 = some (.int .u64 (low * 10 / 4294967296 : Nat)) := by
        have := shr32 (u := low * 10) (by omega); simpa using this
      have w2 : IntKind.u8.wrap ((low * 10 / 4294967296 : Nat) : Int) = ((low * 10 / 4294967296 : Nat) : Int) := wrap_u8 (by omega) (by omega)
      have w3 : IntKind.u8.wrap (48 + ((low * 10 / 4294967296 : Nat) : Int)) = 48 + ((low * 10 / 4294967296 : Nat) : Int) := wrap_u8 (by omega) (by omega)
      have w2' : IntKind.u8.wrap ((low : Int) * 10 / 4294967296) = (low : Int) * 10 / 4294967296 := wrap_u8 (by omega) (by omega)
      have w3' : IntKind.u8.wrap (48 + (low : Int) * 10 / 4294967296) = 48 + (low : Int) * 10 / 4294967296 := wrap_u8 (by omega) (by omega)
      have wm := and_mask (u := low * 10) (by omega)
      simp at wm
      have hbv : AV.int .u8 (48 + (low : Int) * 10 / 4294967296) = byteV (byteOf (low * 10 / 4294967296)) := by
        simp [byteV, byteOf]; omega
      obtain ⟨ap', st1, hap, ho', hg1, _⟩ := append_own (bytes := 1) (ap0 := .tight) (ys := [byteV (byteOf (low * 10 / 4294967296))]) (es := out.map byteV) hgr.len (by simpa using ho.weak) (by simp) (by simp [Ai.great]; omega) (by omega)
      rw [← hbv] at hap
      simp [a18_0, g1, g5, g6, he1, hl1, hlk, w0, wsh, w2, w3, w2', w3', hap, wm]
      exact kn m _ _ _ (by omega) ⟨rfl, out ++ [byteOf (low * 10 / 4294967296)], low * 10 % 4294967296, ap', by simp; omega, by omega, by rw [← htr]; simp [fr], hgr.trans hg1, by simp [he1, hbv], by simp [he1], by simpa using ho'⟩

theorem join_empty : ∀ l : List (List UInt8), Lib.join l [] = l.flatten
  | [] => rfl
  | x :: l => by rw [Lib.join_cons]; simp [Lib.joinTail]
theorem text_call {l : List (List UInt8)} {ap : Ap} (hl : l.flatten.length ≤ 140737488355328) (hn : l.length ≤ 140737488355328) {st : St} (hst : StOk st) :
    runL A (.call 19 [.lst 1 (l.map AV.str) ap]) st = some ⟨.ret, ⟨[.str l.flatten], []⟩, st⟩ := by
  refine (task_of_aw (N := 5) prim19 fn19 rfl rfl hst ?_).1
  intro e he ha K hK
  have a0 := ha 0
  clear ha
  simp at a0
  have hj := join_call (l := l) (sep := []) (ap := ap) (by rw [join_empty]; exact hl) hn (st := st)
  rw [join_empty] at hj
  simp [a19, he, a0, hj]
  exact hK _ _ _ (.inl rfl) (by simp) ⟨_, rfl, by simp [he]⟩

theorem trim0_len (l : List UInt8) : (trim0 l).length ≤ l.length := by
  simp only [trim0, Lib.trimRightB, List.length_reverse]
  have := (List.dropWhile_sublist (fun b : UInt8 => b == 48) (l := l.reverse)).length_le
  simpa using this

theorem dec_short_call {q n : Int} (hq0 : -9223372036854775808 ≤ q) (hq1 : q ≤ 9223372036854775807) {st : St} (hst : StOk st) :
    runL A (.call 9 [.int .i64 q, .int .i64 n]) st = some ⟨.ret, ⟨[.str (shortF q (clamp n))], []⟩, st⟩ := by
  refine (task_of_aw (N := 33) prim9 fn9 rfl rfl hst ?_).1
  intro e he ha K hK
  have a0 := ha 0
  have a1 := ha 1
  clear ha
  simp at a0 a1
  have hu64 : q.natAbs < 18446744073709551616 := by omega
  have hk : clamp n ≤ 32 := by simp only [clamp]; split; omega; split <;> omega
  have h39 := sign_call hq0 hq1 hst
  have h40 := fmt_call (u := q.natAbs / 4294967296) (by omega) (st := st)
  have h41 := behind_call hu64 hk hst
  have hsh := shr32 hu64
  have hmm : (if (0 : Int) < (if 32 < n then 32 else n) then (if 32 < n then 32 else n) else 0) = ((clamp n : Nat) : Int) := by
    simp only [clamp]
    by_cases h1 : n < 0
    · simp [h1, show ¬ 32 < n by omega, show ¬ 0 < n by omega]
    · by_cases h2 : 32 < n
      · simp [h1, h2]
      · simp [h1, h2]; omega
  have hl1 : (Lib.decDigits (q.natAbs / 4294967296)).length ≤ 20 := dec_len _ (by omega)
  have hl2 : (trim0 (fr (clamp n) (q.natAbs % 4294967296))).length ≤ 32 := by
    have := trim0_len (fr (clamp n) (q.natAbs % 4294967296)); rw [fr_length] at this; omega
  obtain ⟨s, hs⟩ : ∃ s : List UInt8, s = if q < 0 then [45] else [] := ⟨_, rfl⟩
  have hsl : s.length ≤ 1 := by rw [hs]; split <;> simp
  rw [← hs] at h39
  by_cases hz : trim0 (fr (clamp n) (q.natAbs % 4294967296)) = []
  · have h42 := text_call (l := [s, Lib.decDigits (q.natAbs / 4294967296)]) (ap := .tight) (by simp; omega) (by simp) hst
    simp at h42
    simp at h40 hsh
    simp [a9, he, a0, a1, h39, hsh, h40, hmm, h41, hz, h42]
    exact hK _ _ _ (.inl rfl) (by simp) ⟨_, rfl, by simp [he, shortF, hz, hs]⟩
  · have h42 := text_call (l := [s, Lib.decDigits (q.natAbs / 4294967296), [46], trim0 (fr (clamp n) (q.natAbs % 4294967296))]) (ap := .tight) (by simp; omega) (by simp) hst
    simp at h42
    simp at h40 hsh
    simp [a9, he, a0, a1, h39, hsh, h40, hmm, h41, hz, h42]
    exact hK _ _ _ (.inl rfl) (by simp) ⟨_, rfl, by simp [he, shortF, hz, hs]⟩

theorem print_call {q : Int} (hq0 : -9223372036854775808 ≤ q) (hq1 : q ≤ 9223372036854775807) {st : St} (hst : StOk st) :
    runL A (.call 11 [.int .i64 q]) st = some ⟨.ret, ⟨[.str (shortF q 32)], []⟩, st⟩ := by
  refine (task_of_aw (N := 5) prim11 fn11 rfl rfl hst ?_).1
  intro e he ha K hK
  have a0 := ha 0
  clear ha
  simp at a0
  have h36 := dec_short_call (n := 32) hq0 hq1 hst
  have hc : clamp 32 = 32 := rfl
  rw [hc] at h36
  simp [a11, he, a0, h36]
  exact hK _ _ _ (.inl rfl) (by simp) ⟨_, rfl, by simp [he]⟩
end Go.Proofs.YtbmakcjladlaaaaDoor

namespace Go.Proofs.YtbmakcjladlaaaaDoor
open Go Ai

theorem fn3 : A.fn 3 = some a3 := by kernel_rfl
theorem prim3 : A.prim 3 = none := by kernel_rfl
theorem fn4 : A.fn 4 = some a4 := by kernel_rfl
theorem prim4 : A.prim 4 = none := by kernel_rfl

theorem law3_run {q n : Int} (h0 : -9223372036854775808 ≤ q) (h1 : q ≤ 9223372036854775807) : runL A (.seqc 3 [.int .i64 q, .int .i64 n]) [] = some ⟨.ret, ⟨[.bool true], []⟩, []⟩ := by
  refine (task_of_aw (N := 14) prim3 fn3 rfl rfl StOk.nil ?_).2
  intro e he ha K hK
  have a0 := ha 0
  have a1 := ha 1
  clear ha
  simp at a0 a1
  have h9 := dec_short_call (n := n) h0 h1 StOk.nil
  have h10 := ref_short_call (n := n) h0 h1 StOk.nil
  simp [a3, he, a0, a1, alive_call, h9, h10]
  exact hK _ _ _ (.inl rfl) (by simp) ⟨_, rfl, by simp [he]⟩

/-! What is cut off is an end. -/
theorem fr_prefix : ∀ (k m b : Nat), k ≤ m → fr k b <+: fr m b
  | 0, _, _, _ => List.nil_prefix
  | k + 1, 0, _, h => by omega
  | k + 1, m + 1, b, h => by
    simp only [fr]
    exact (List.prefix_cons_inj _).2 (fr_prefix k m _ (by omega))
theorem trim0_prefix (l : List UInt8) : trim0 l <+: l := by
  simp only [trim0, Lib.trimRightB]
  rw [← List.reverse_suffix, List.reverse_reverse]
  exact List.dropWhile_suffix _
theorem trim0_last {l : List UInt8} (h : trim0 l ≠ []) : (trim0 l).getLast h ≠ 48 := by
  have hd : l.reverse.dropWhile (· == 48) ≠ [] := by
    intro hh; apply h; simp only [trim0, Lib.trimRightB, hh, List.reverse_nil]
  have := List.head_dropWhile_not (fun b : UInt8 => b == 48) hd
  simp only [trim0, Lib.trimRightB, List.getLast_reverse]
  simpa using this
/-- What has no zero at its end, and is an end of l, is one of l without zeros. -/
theorem trim0_max {p l : List UInt8} (h : p <+: l) (hp : p = [] ∨ ∃ q c, p = q ++ [c] ∧ c ≠ 48) : p <+: trim0 l := by
  obtain ⟨r, rfl⟩ := h
  rcases hp with rfl | ⟨q, c, rfl, hc⟩
  · exact List.nil_prefix
  · -- only r loses
    have key : ∀ (n : Nat) (r : List UInt8), r.length = n → q ++ [c] <+: trim0 (q ++ [c] ++ r) := by
      intro n
      induction n with
      | zero =>
        intro r hr
        rw [List.length_eq_zero_iff.1 hr, List.append_nil, trim0_keep hc]; exact List.prefix_refl _
      | succ n ih =>
        intro r hr
        rcases List.eq_nil_or_concat r with rfl | ⟨r, d, rfl⟩
        · simp at hr
        · rw [List.concat_eq_append] at hr ⊢
          rw [← List.append_assoc]
          by_cases hd : d = 48
          · subst hd; rw [trim0_snoc]; exact ih r (by simpa using hr)
          · rw [trim0_keep hd, List.append_assoc]; exact List.prefix_append _ _
    exact key _ r rfl
theorem trim0_mono {p l : List UInt8} (h : p <+: l) : trim0 p <+: trim0 l := by
  refine trim0_max ((trim0_prefix p).trans h) ?_
  by_cases hz : trim0 p = []
  · exact .inl hz
  · exact .inr ⟨(trim0 p).dropLast, (trim0 p).getLast hz, (List.dropLast_concat_getLast hz).symm, trim0_last hz⟩
theorem short_prefix (q : Int) (k : Nat) (hk : k ≤ 32) : shortF q k <+: shortF q 32 := by
  have h := trim0_mono (fr_prefix k 32 (q.natAbs % 4294967296) hk)
  simp only [shortF]
  generalize (if q < 0 then [45] else []) ++ Lib.decDigits (q.natAbs / 4294967296) = s
  by_cases h1 : trim0 (fr k (q.natAbs % 4294967296)) = []
  · rw [if_pos h1]
    split
    · exact List.prefix_refl _
    · exact List.prefix_append _ _
  · rw [if_neg h1]
    have h2 : trim0 (fr 32 (q.natAbs % 4294967296)) ≠ [] := by
      intro hh; rw [hh] at h; exact h1 (List.prefix_nil.1 h)
    rw [if_neg h2]
    exact (List.prefix_append_right_inj _).2 ((List.prefix_cons_inj _).2 h)

theorem clamp_le (n : Int) : clamp n ≤ 32 := by simp only [clamp]; split; omega; split <;> omega
theorem law4_run {q n : Int} (h0 : -9223372036854775808 ≤ q) (h1 : q ≤ 9223372036854775807) : runL A (.seqc 4 [.int .i64 q, .int .i64 n]) [] = some ⟨.ret, ⟨[.bool true], []⟩, []⟩ := by
  refine (task_of_aw (N := 33) prim4 fn4 rfl rfl StOk.nil ?_).2
  intro e he ha K hK
  have a0 := ha 0
  have a1 := ha 1
  clear ha
  simp at a0 a1
  have h9 := dec_short_call (n := n) h0 h1 StOk.nil
  have h9' := dec_short_call (n := 32) h0 h1 StOk.nil
  have h11 := print_call h0 h1 StOk.nil
  have hc : clamp 32 = 32 := rfl
  rw [hc] at h9'
  have hp := short_prefix q (clamp n) (clamp_le n)
  have hl := hp.length_le
  have ht : (shortF q 32).take (shortF q (clamp n)).length = shortF q (clamp n) := List.prefix_iff_eq_take.1 hp |>.symm
  have hl' : ((shortF q (clamp n)).length : Int) ≤ (shortF q 32).length := by omega
  simp [a4, he, a0, a1, alive_call, h9, h9', h11, hl, hl', ht, bound]
  exact hK _ _ _ (.inl rfl) (by simp) ⟨_, rfl, by simp [he]⟩
end Go.Proofs.YtbmakcjladlaaaaDoor

namespace Go.Proofs.YtbmakcjladlaaaaDoor
open Go Ai

theorem i64_bounds {x : Int} (h : (Lit.int .i64 x).wf = true) : -9223372036854775808 ≤ x ∧ x ≤ 9223372036854775807 := by
  simpa [Lit.wf, IntKind.min, IntKind.max, IntKind.signed, IntKind.bits] using h
set_option maxRecDepth 100000 in
theorem runsDecShort (avs : List AV) (h : ArgsOf Tryd.prog 8 Tryd.f3.params.toList avs) (_ : AV.bulks avs ≤ 1048576) : ∃ st ds, runL A (.seqc 3 avs) [] = some ⟨.ret, ⟨[.bool true], ds⟩, st⟩ := by
  rw [Tryd.params3] at h
  simp only [ArgsOf] at h
  obtain ⟨a, _, rfl, h1, c, _, rfl, h2, rfl⟩ := h
  obtain ⟨q, rfl, hq⟩ := ofType_int Tryd.underlying2 h1
  obtain ⟨n, rfl, _⟩ := ofType_int Tryd.underlying3 h2
  have := i64_bounds hq
  exact ⟨_, _, law3_run this.1 this.2⟩
set_option maxRecDepth 100000 in
theorem runsDecCut (avs : List AV) (h : ArgsOf Tryd.prog 8 Tryd.f4.params.toList avs) (_ : AV.bulks avs ≤ 1048576) : ∃ st ds, runL A (.seqc 4 avs) [] = some ⟨.ret, ⟨[.bool true], ds⟩, st⟩ := by
  rw [Tryd.params4] at h
  simp only [ArgsOf] at h
  obtain ⟨a, _, rfl, h1, c, _, rfl, h2, rfl⟩ := h
  obtain ⟨q, rfl, hq⟩ := ofType_int Tryd.underlying2 h1
  obtain ⟨n, rfl, _⟩ := ofType_int Tryd.underlying3 h2
  have := i64_bounds hq
  exact ⟨_, _, law4_run this.1 this.2⟩

theorem glOk {W : World} {laid : List (String × DataW Unit)} (_ : laidMetH Tryd.prog laid W) : GlOk gl (J0 W) := by
  intro g v h; cases h
theorem bwOk {W : World} (h : laidMetH Tryd.prog Rows.decShortUptoRow.laid W) : Bw W :=
  tab_of_laid (g := 0) (t := 78) (e := 31) (m := 20) (by kernel_rfl) (by kernel_rfl) (by kernel_rfl) Tryd.underlying78 Tryd.underlying31 (by kernel_rfl) (by kernel_rfl) h

/-- The settled world's size. -/
noncomputable def low : Nat := (World.holding Tryd.prog default ⟨#[], #[], []⟩).heap.size
def plainD : DataW Unit → Bool
  | .agg _ => true
  | .lit _ => true
  | _ => false
def setAll : List (Nat × Array Value) → Array Obj → Array Obj
  | [], h => h
  | x :: l, h => setAll l (h.modify x.1 fun
      | .cells _ t frozen => .cells x.2 t frozen
      | o => o)
/-- A world for the witness: the tables, and the two errors, as they are laid. -/
noncomputable def wit (os : Os) : World :=
  let w0 := World.holding Tryd.prog os ⟨#[.cells #[.string ⟨#[118, 97, 108, 117, 101, 32, 111, 117, 116, 32, 111, 102, 32, 114, 97, 110, 103, 101]⟩] 109, .cells #[.string ⟨#[105, 110, 118, 97, 108, 105, 100, 32, 115, 121, 110, 116, 97, 120]⟩] 109], #[], []⟩
  { w0 with heap := setAll [(2, #[.iface 107 (.pointer (some ⟨low, 0, none⟩))]), (1, #[.iface 107 (.pointer (some ⟨low + 1, 0, none⟩))])] (layIn Tryd.prog (Rows.decShortUptoRow.laid.filter fun x => plainD x.2) w0.heap) }
end Go.Proofs.YtbmakcjladlaaaaDoor

