/- Chapter 25, run symbolically: the document's At. No condition. -/
import Derived.Test.YtfkmdajlpnkebaaDoorSu25
import Derived.Test.YtfkmdajlpnkebaaDoorAi37
namespace Go.Proofs.YtfkmdajlpnkebaaDoor
open Go Ai

theorem fn13 : A.fn 13 = some a13 := by kernel_rfl
theorem prim13 : A.prim 13 = none := by kernel_rfl
def w13_0 : List Nat := a13_0.writes

def valsAv (l : List (Nat × Int)) : List AV := l.map fun p => .int .i64 p.2
def marksAv (l : List (Nat × Int)) : List AV := l.map fun p => .int .i64 p.1

theorem ref_at_call {ms : List Mk} {b : Bool} {en c : Int} (hl : ms.length ≤ 2000000) {st : St} (hst : StOk st) {its : List (Nat × Int)} (hits : itsFrom c 0 ms = its) :
    runL A (.call 13 [trAv ms (apOf b) en, .int .i64 c]) st = some ⟨.ret, ⟨[.tup [.lst 1 (valsAv its) (endAp its.length), .lst 1 (marksAv its) (endAp its.length)]], []⟩, st⟩ := by
  refine (task_of_aw (N := 47) prim13 fn13 rfl rfl hst ?_).1
  intro e he ha K hK
  have a0 := ha 0
  have a1 := ha 1
  clear ha
  simp [trAv] at a0 a1
  have hle := itsFrom_len (c := c) (n := 0) (l := ms)
  rw [hits] at hle
  simp [a13, he, a0]
  refine aw_loop (W := w13_0) rfl (fun k e ds st' => ds = [] ∧ ∃ (i : Nat) (pre : List (Nat × Int)) (ap1 ap2 : Ap), i + k = ms.length ∧ pre ++ itsFrom c i (ms.drop i) = its ∧ AX.ev e (.t 8) = .int .i64 i ∧ Grew st.length st st' ∧
      AX.ev e (.t 6) = .lst 1 (valsAv pre) ap1 ∧ AX.ev e (.t 7) = .lst 1 (marksAv pre) ap2 ∧ Own st' st.length 1 (some 2) ap1 pre.length ∧ Own st' st.length 1 (some 3) ap2 pre.length ∧ Apart ap1 ap2) ms.length
    ⟨rfl, 0, [], .tight, .tight, by omega, by simpa using hits, by simp [he], .refl, by simp [he, valsAv], by simp [he, marksAv], .nil, .nil, .tight⟩ ?_
  rintro k e1 ds st' hs ⟨rfl, i, pre, ap1, ap2, hk, hp, g8, hgr, g6, g7, o6, o7, hap⟩ K1 kn kx
  have he1 : e1.length = 47 := by simp [hs.1, he]
  have g2 := hs.ev 2 rfl (v := .iptr (trAv ms (apOf b) en)) (by simp [he, trAv])
  have g1 := hs.ev 1 rfl (v := .int .i64 c) (by simp [a1])
  simp only [trAv] at g2
  by_cases hi : i < ms.length
  · obtain ⟨x, hx, hx', hd⟩ := aGetAt hi
    rw [hd] at hp
    simp only [itsFrom] at hp
    have w2 : IntKind.i64.wrap ((i : Int) + 1) = (i : Int) + 1 := wrap_i64 (by omega) (by omega)
    by_cases h0 : 0 ≤ c
    · by_cases h1 : c < x.outs.length
      · have hn : ¬ c < 0 := by omega
        have hlt : c.toNat < x.outs.length := by omega
        simp [h0, h1, hlt] at hp
        have hpl : pre.length ≤ 2000000 := by have := congrArg List.length hp; simp at this; omega
        obtain ⟨ap1', st1, hap1, o6', hg1, hk1⟩ := append_own (bytes := 8) (ap0 := .tight) (ys := [.int .i64 (x.outs[c.toNat])]) (es := valsAv pre) hgr.len (by simpa [valsAv] using o6) (by simp) (by simp [valsAv, Ai.great]; omega) (by omega)
        obtain ⟨o7', hap'⟩ := hk1 _ _ _ _ o7 hap
        obtain ⟨ap2', st2, hap2, o7'', hg2, hk2⟩ := append_own (bytes := 8) (ap0 := .tight) (ys := [.int .i64 i]) (es := marksAv pre) (Nat.le_trans hgr.len hg1.len) (by simpa [marksAv] using o7') (by simp) (by simp [marksAv, Ai.great]; omega) (by omega)
        obtain ⟨o6'', hap''⟩ := hk2 _ _ _ _ o6' hap'.symm
        simp [a13_0, g1, g2, g6, g7, g8, he1, hi, hx', Mk.av, h0, h1, hn, hlt, hap1, hap2, w2]
        exact kn (k - 1) _ _ _ (by omega) ⟨rfl, i + 1, pre ++ [(i, x.outs[c.toNat])], ap1', ap2', by omega, by simpa using hp, by simp [he1], hgr.trans (hg1.trans hg2), by simp [he1, valsAv], by simp [he1, marksAv], by simpa [valsAv] using o6'', by simpa [marksAv] using o7'', hap''.symm⟩
      · simp [h0, h1] at hp
        simp [a13_0, g1, g2, g6, g7, g8, he1, hi, hx', Mk.av, h0, h1, w2]
        exact kn (k - 1) _ _ _ (by omega) ⟨rfl, i + 1, pre, ap1, ap2, by omega, hp, by simp [he1], hgr, by simp [g6], by simp [g7], o6, o7, hap⟩
    · simp [h0] at hp
      simp [a13_0, g1, g2, g6, g7, g8, he1, hi, hx', Mk.av, h0, w2]
      exact kn (k - 1) _ _ _ (by omega) ⟨rfl, i + 1, pre, ap1, ap2, by omega, hp, by simp [he1], hgr, by simp [g6], by simp [g7], o6, o7, hap⟩
  · have : i = ms.length := by omega
    subst this
    simp [itsFrom] at hp
    subst hp
    simp [a13_0, g2, g8, he1]
    refine kx _ _ _ _ nofun fun hs' => ?_
    simp [g6, g7, he1]
    exact hK _ _ _ (.inl rfl) (by have := hgr.take; simpa using this) ⟨[_, _], by simp [a13, he1]; exact ⟨rfl, rfl⟩, by
      have s1 := own_still o6 (es := valsAv pre) (stills_of fun v hv => by obtain ⟨p, _, rfl⟩ := List.mem_map.1 hv; rfl)
      have s2 := own_still o7 (es := marksAv pre) (stills_of fun v hv => by obtain ⟨p, _, rfl⟩ := List.mem_map.1 hv; rfl)
      simp only [oneOf]
      rw [still_tup2 s1 s2]⟩
end Go.Proofs.YtfkmdajlpnkebaaDoor
