/- Chapter 25: functions run symbolically; the types. No condition. -/
import Derived.Test.YtfkmdajlpnkebaaDoorHa
import Derived.Test.YtfkmdajlpnkebaaDoorEc
set_option linter.unusedVariables false
set_option linter.unusedSimpArgs false
namespace Go.Proofs.YtfkmdajlpnkebaaDoor
open Go Ai

def Bw (w : World) : Prop := Lib.TabIs Tryd.prog w pow10Name .u64 Lib.pow10Tab

theorem primsOk : PrimsOk Tryd.prog gl A Bw := by
  intro f h args st o st' hf hh
  have hf' : (prims.find? fun e => e.1 == f).map (·.2) = some h := hf
  simp only [prims, List.find?_cons, List.find?_nil] at hf'
  split at hf'
  · rename_i e
    have : f = 27 := (beq_iff_eq.1 e).symm
    subst this
    cases hf'
    cases o <;> exact copy27 hh
  · split at hf'
    · rename_i e
      have : f = 21 := (beq_iff_eq.1 e).symm
      subst this
      cases hf'
      cases o <;> exact string21 hh
    · split at hf'
      · rename_i e
        have : f = 31 := (beq_iff_eq.1 e).symm
        subst this
        cases hf'
        cases o <;> exact pure_task join31 hh
      · split at hf'
        · rename_i e
          have : f = 20 := (beq_iff_eq.1 e).symm
          subst this
          cases hf'
          cases o <;> exact pure_task (itoa20 (B := Bw) fun _ h => h) hh
        · split at hf'
          · rename_i e
            have : f = 40 := (beq_iff_eq.1 e).symm
            subst this
            cases hf'
            cases o <;> exact pure_task (fmtUint40 (B := Bw) fun _ h => h) hh
          · split at hf'
            · rename_i e
              have : f = 49 := (beq_iff_eq.1 e).symm
              subst this
              cases hf'
              cases o <;> exact pure_task trim49 hh
            · cases hf'
end Go.Proofs.YtfkmdajlpnkebaaDoor

namespace Go.Proofs.YtfkmdajlpnkebaaDoor
open Go Ai

/-- A mark of a trace. -/
structure Mk where
  time : Int
  outs : List Int
  oap : Bool
  raised : List (List Bool × Bool)
  rap : Bool
  flags : Int

def rsAv (x : List Bool × Bool) : AV := .lst 1 (x.1.map AV.bool) (apOf x.2)
def Mk.av (m : Mk) : AV := .agg [.int .i64 m.time, .lst 1 (m.outs.map (AV.int .i64)) (apOf m.oap), .lst 1 (m.raised.map rsAv) (apOf m.rap), .int .i64 m.flags]
def trAv (ms : List Mk) (ap : Ap) (en : Int) : AV := .agg [.lst 4 (ms.map Mk.av) ap, .int .i64 en]
theorem rs_low {n : Nat} {x : List Bool × Bool} : AV.lowB n (rsAv x) = true := by
  simp only [rsAv, apOf_low]
  exact lows_all fun y hy => by obtain ⟨b, _, rfl⟩ := List.mem_map.1 hy; rfl
theorem mk_low {n : Nat} {m : Mk} : AV.lowB n m.av = true := by
  have h1 : AV.lowsB n (m.outs.map (AV.int .i64)) = true := lows_all fun y hy => by obtain ⟨b, _, rfl⟩ := List.mem_map.1 hy; rfl
  have h2 : AV.lowsB n (m.raised.map rsAv) = true := lows_all fun y hy => by obtain ⟨b, _, rfl⟩ := List.mem_map.1 hy; exact rs_low
  show AV.lowsB n _ = true
  simp only [AV.lowsB, apOf_low, h1, h2, Bool.and_true, Bool.true_and]
  rfl

def raisedAll : List Mk → Nat
  | [] => 0
  | m :: l => m.raised.length + raisedAll l

theorem drop_at {α} {l : List α} {i : Nat} {x : α} (h : l[i]? = some x) : l.drop i = x :: l.drop (i + 1) := by
  obtain ⟨hi, rfl⟩ := List.getElem?_eq_some_iff.1 h
  exact List.drop_eq_getElem_cons hi

theorem fn11 : A.fn 11 = some a11 := by kernel_rfl
theorem prim11 : A.prim 11 = none := by kernel_rfl

def w11_0 : List Nat := a11_0.writes
theorem steps_loop {ms : List Mk} {ap : Ap} {N : Nat} (hl : ms.length ≤ 2000000) (hN : N ≤ 2000000) {e : Env} {st : St} {Q : PostQ} (he : e.length = 20)
    (h7 : AX.ev e (.t 7) = .lst 4 (ms.map Mk.av) ap) (h8 : AX.ev e (.t 8) = .int .i64 ms.length) (h9 : AX.ev e (.t 9) = .int .i64 0) (h3 : AX.ev e (.t 3) = .int .i64 0) (hr : raisedAll ms = N)
    (hQ : ∀ e' l, Same w11_0 e e' → AX.ev e' (.t 3) = .int .i64 N → Q (.exit 0) e' [] (st ++ l)) :
    AW A 11 none (.loop a11_0) e [] st Q := by
  refine aw_loop (W := w11_0) rfl (fun k e ds st' => ds = [] ∧ (∃ l, st' = st ++ l) ∧ ∃ i n : Nat, i + k = ms.length ∧ n + raisedAll (ms.drop i) = N ∧ AX.ev e (.t 9) = .int .i64 i ∧ AX.ev e (.t 3) = .int .i64 n) ms.length ⟨rfl, ⟨[], by simp⟩, 0, 0, by omega, by simpa using hr, h9, h3⟩ ?_
  rintro k e1 ds st' hs ⟨rfl, ⟨l, rfl⟩, i, n, hk, hn, g9, g3⟩ K kn kx
  have g7 := hs.ev 7 rfl h7
  have g8 := hs.ev 8 rfl h8
  have he1 : e1.length = 20 := hs.1.trans he
  by_cases hi : i < ms.length
  · obtain ⟨m, hm, hm', hd⟩ := aGetAt hi
    rw [hd] at hn
    simp only [raisedAll] at hn
    have w1 : IntKind.i64.wrap ((n : Int) + m.raised.length) = (n : Int) + m.raised.length := wrap_i64 (by omega) (by omega)
    have w2 : IntKind.i64.wrap ((i : Int) + 1) = (i : Int) + 1 := wrap_i64 (by omega) (by omega)
    refine aw_of ?_
    simp [a11_0, g9, g3, g7, g8, he1, hi, hm', w1, w2, Mk.av]
    exact kn (k - 1) _ _ _ (by omega) ⟨rfl, ⟨_, rfl⟩, i + 1, n + m.raised.length, by omega, by omega, by simp [he1], by simp [he1]⟩
  · refine aw_of ?_
    simp [a11_0, g9, g3, g7, g8, he1, hi]
    refine kx _ _ _ _ nofun fun hs' => ?_
    have : i = ms.length := by omega
    subst this
    simp [raisedAll] at hn
    exact hQ _ l hs' (by simp [g3, hn])

theorem steps_call {ms : List Mk} {ap : Ap} {en : Int} (hl : ms.length ≤ 2000000) (hr : raisedAll ms ≤ 2000000) {st : St} (hst : StOk st) :
    runL A (.call 11 [trAv ms ap en]) st = some ⟨.ret, ⟨[.int .i64 (raisedAll ms)], []⟩, st⟩ := by
  refine (task_of_aw (N := 20) prim11 fn11 rfl rfl hst ?_).1
  intro e he ha K hK
  have a0 := ha 0
  clear ha
  simp [trAv] at a0
  simp only [a11]
  refine aw_seq.2 (aw_of ?_)
  simp [he, a0]
  refine aw_seq.2 (aw_of ?_)
  simp
  refine aw_seq.2 (aw_seq.2 (aw_of ?_))
  simp [he]
  refine aw_block.2 ?_
  refine steps_loop (ap := ap) hl hr (by simp [he]) (by simp [he]) (by simp [he]) (by simp [he]) (by simp [he]) rfl ?_
  intro e' l hs h3
  refine aw_of ?_
  simp [h3, hs.1, he]
  exact hK _ _ _ (.inl rfl) (by simp) ⟨_, rfl, by simp [hs.1, he]⟩

/-! Great -/
def rl (l : List (List Bool × Bool)) : Nat := (l.map fun x => x.1.length).sum
def sizes : List Mk → Nat
  | [] => 0
  | m :: l => m.outs.length + m.raised.length + rl m.raised + sizes l
def names (l : List (List UInt8)) : Nat := (l.map fun s => s.length / 20).sum
def great (ms : List Mk) (ns : List (List UInt8)) (en : Int) : Bool :=
  ms.any (fun m => decide (m.flags < -1000000000000)) || decide (ms.length + sizes ms + names ns > 600) || decide (en < -1000000000000)

theorem fn8 : A.fn 8 = some a8 := by kernel_rfl
theorem prim8 : A.prim 8 = none := by kernel_rfl

def w8_0 : List Nat := a8_0.writes
theorem great_0 {ns : List (List UInt8)} {ap : Ap} {n N : Nat} (hl : ns.length ≤ 2000000) (hN : N ≤ 10000000) {e : Env} {st : St} {Q : PostQ} (he : e.length = 87)
    (h1 : AX.ev e (.t 1) = .lst 1 (ns.map AV.str) ap) (h8 : AX.ev e (.t 8) = .int .i64 0) (h5 : AX.ev e (.t 5) = .int .i64 n) (hr : n + names ns = N)
    (hs : ∀ s ∈ ns, s.length ≤ 10000000)
    (hQ : ∀ e', Same w8_0 e e' → AX.ev e' (.t 5) = .int .i64 N → Q (.exit 4) e' [] st) :
    AW A 8 none (.loop a8_0) e [] st Q := by
  refine aw_loop (W := w8_0) rfl (fun k e ds st' => ds = [] ∧ st' = st ∧ ∃ i n : Nat, i + k = ns.length ∧ n + names (ns.drop i) = N ∧ AX.ev e (.t 8) = .int .i64 i ∧ AX.ev e (.t 5) = .int .i64 n) ns.length ⟨rfl, rfl, 0, n, by omega, by simpa using hr, h8, h5⟩ ?_
  rintro k e1 ds st' hs1 ⟨rfl, rfl, i, n, hk, hn, g8, g5⟩ K kn kx
  have g1 := hs1.ev 1 rfl h1
  have he1 := hs1.1.trans he
  refine aw_of ?_
  by_cases hi : i < ns.length
  · obtain ⟨m, hm, hm', hd⟩ := aGetAt hi
    rw [hd] at hn
    simp only [names, List.map_cons, List.sum_cons] at hn
    have := hs m (List.mem_of_getElem? hm)
    have w1 : IntKind.i64.wrap ((m.length : Int) / 20) = ((m.length / 20 : Nat) : Int) := by
      rw [wrap_i64 (by omega) (by omega)]; simp
    have w2 : IntKind.i64.wrap ((i : Int) + 1) = (i : Int) + 1 := wrap_i64 (by omega) (by omega)
    have w3 : IntKind.i64.wrap ((n : Int) + (m.length / 20 : Nat)) = ((n + m.length / 20 : Nat) : Int) := wrap_i64 (by omega) (by omega)
    simp [a8_0, g1, g5, g8, he1, hi, hm', w1, w2]
    exact kn (k - 1) _ _ _ (by omega) ⟨rfl, rfl, i + 1, n + m.length / 20, by omega, by simp only [names]; omega, by simp [he1], by simp [he1]; simpa using w3⟩
  · have : i = ns.length := by omega
    subst this
    simp [names] at hn
    subst hn
    simp [a8_0, g1, g8, he1]
    refine kx _ _ _ _ nofun fun hs' => ?_
    exact hQ _ hs' (by simp [g5])

def w8_1 : List Nat := a8_1.writes
theorem great_1 {ms : List Mk} {ap : Ap} {en : Int} {j n N : Nat} {m : Mk} (hl : m.raised.length ≤ 10000000) (hN : N ≤ 10000000) {e : Env} {st : St} {Q : PostQ} (he : e.length = 87)
    (h2 : AX.ev e (.t 2) = .iptr (trAv ms ap en)) (h6 : AX.ev e (.t 6) = .int .i64 j) (hj : j < ms.length) (hm : ms[j] = m) (h7 : AX.ev e (.t 7) = .int .i64 0) (h5 : AX.ev e (.t 5) = .int .i64 n) (hr : n + rl m.raised = N)
    (hQ : ∀ e', Same w8_1 e e' → AX.ev e' (.t 5) = .int .i64 N → Q (.exit 2) e' [] st) :
    AW A 8 none (.loop a8_1) e [] st Q := by
  refine aw_loop (W := w8_1) rfl (fun k e ds st' => ds = [] ∧ st' = st ∧ ∃ i n : Nat, i + k = m.raised.length ∧ n + rl (m.raised.drop i) = N ∧ AX.ev e (.t 7) = .int .i64 i ∧ AX.ev e (.t 5) = .int .i64 n) m.raised.length ⟨rfl, rfl, 0, n, by omega, by simpa using hr, h7, h5⟩ ?_
  rintro k e1 ds st' hs1 ⟨rfl, rfl, i, n, hk, hn, g7, g5⟩ K kn kx
  have g2 := hs1.ev 2 rfl h2
  have g6 := hs1.ev 6 rfl h6
  have he1 := hs1.1.trans he
  refine aw_of ?_
  simp only [trAv] at g2
  by_cases hi : i < m.raised.length
  · obtain ⟨x, hx, hx', hd⟩ := aGetAt hi
    rw [hd] at hn
    simp only [rl, List.map_cons, List.sum_cons] at hn
    have w2 : IntKind.i64.wrap ((i : Int) + 1) = (i : Int) + 1 := wrap_i64 (by omega) (by omega)
    have w3 : IntKind.i64.wrap ((n : Int) + x.1.length) = (n : Int) + x.1.length := wrap_i64 (by omega) (by omega)
    simp [a8_1, g2, g5, g6, g7, he1, hi, hj, hm, hx', w2, w3, Mk.av, rsAv]
    exact kn (k - 1) _ _ _ (by omega) ⟨rfl, rfl, i + 1, n + x.1.length, by omega, by simp only [rl]; omega, by simp [he1], by simp [he1]⟩
  · have : i = m.raised.length := by omega
    subst this
    simp [rl] at hn
    subst hn
    simp [a8_1, g2, g5, g6, g7, he1, hj, hm, Mk.av]
    refine kx _ _ _ _ nofun fun hs' => ?_
    exact hQ _ hs' (by simp [g5])

def w8_2 : List Nat := a8_2.writes
theorem great_2 {ms : List Mk} {ap : Ap} {en : Int} {n N : Nat} (hl : ms.length ≤ 2000000) (hN : N ≤ 10000000) {e : Env} {st : St} {Q : PostQ} (he : e.length = 87)
    (h2 : AX.ev e (.t 2) = .iptr (trAv ms ap en)) (h6 : AX.ev e (.t 6) = .int .i64 0) (h5 : AX.ev e (.t 5) = .int .i64 n) (hr : n + sizes ms = N)
    (hQ1 : ∀ e', Same w8_2 e e' → ms.any (fun m => decide (m.flags < -1000000000000)) = true → AX.ev e' (.t 4) = .bool true → Q .ret e' [] st)
    (hQ : ∀ e', Same w8_2 e e' → ms.any (fun m => decide (m.flags < -1000000000000)) = false → AX.ev e' (.t 5) = .int .i64 N → Q (.exit 0) e' [] st) :
    AW A 8 none (.loop a8_2) e [] st Q := by
  refine aw_loop (W := w8_2) rfl (fun k e ds st' => ds = [] ∧ st' = st ∧ ∃ i n : Nat, i + k = ms.length ∧ n + sizes (ms.drop i) = N ∧ ms.any (fun m => decide (m.flags < -1000000000000)) = (ms.drop i).any (fun m => decide (m.flags < -1000000000000)) ∧ AX.ev e (.t 6) = .int .i64 i ∧ AX.ev e (.t 5) = .int .i64 n) ms.length ⟨rfl, rfl, 0, n, by omega, by simpa using hr, by simp, h6, h5⟩ ?_
  rintro k e1 ds st' hs1 ⟨rfl, rfl, i, n, hk, hn, hf, g6, g5⟩ K kn kx
  have g2 := hs1.ev 2 rfl h2
  have g2' := g2
  have he1 := hs1.1.trans he
  simp only [trAv] at g2
  by_cases hi : i < ms.length
  · obtain ⟨x, hx, hx', hd⟩ := aGetAt hi
    rw [hd] at hn hf
    simp only [sizes] at hn
    have w2 : IntKind.i64.wrap ((i : Int) + 1) = (i : Int) + 1 := wrap_i64 (by omega) (by omega)
    have w3 : IntKind.i64.wrap ((n : Int) + x.outs.length) = (n : Int) + x.outs.length := wrap_i64 (by omega) (by omega)
    have w4 : IntKind.i64.wrap ((n : Int) + x.outs.length + x.raised.length) = ((n + x.outs.length + x.raised.length : Nat) : Int) := wrap_i64 (by omega) (by omega)
    simp only [a8_2]
    refine aw_seq.2 (aw_of ?_)
    simp [g2, g5, g6, he1, hi]
    refine aw_seq.2 (aw_block.2 (aw_seq.2 (aw_of ?_)))
    simp [g2, g5, g6, he1, hi, hx', Mk.av, w3, w4]
    refine aw_seq.2 (aw_seq.2 (aw_of ?_))
    simp
    refine aw_block.2 (great_1 (ms := ms) (ap := ap) (en := en) (j := i) (n := n + x.outs.length + x.raised.length) (m := x) (N := n + x.outs.length + x.raised.length + rl x.raised) (by omega) (by omega) (by simp [he1]) (by simp [g2, trAv]) (by simp [g6]) hi hx' (by simp [he1]) (by simp [he1]) rfl ?_)
    intro e2 hs2 f5
    have f2 := hs2.ev 2 rfl (v := .iptr (trAv ms ap en)) (by simp [g2, trAv])
    have f6 := hs2.ev 6 rfl (v := .int .i64 i) (by simp [g6])
    have he2 : e2.length = 87 := by simp [hs2.1, he1]
    simp only [trAv] at f2
    refine aw_seq.2 (aw_of ?_)
    simp [f2, f6, he2, hi, hx', Mk.av]
    refine aw_of ?_
    by_cases hfl : x.flags < -1000000000000
    · simp [hfl, he2]
      refine kx _ _ _ _ nofun fun hs' => ?_
      exact hQ1 _ hs' (by rw [hf]; simp [hfl]) (by simp [he2])
    · simp [hfl, he2]
      refine aw_of ?_
      simp [f6, he2, w2, f5]
      exact kn (k - 1) _ _ _ (by omega) ⟨rfl, rfl, i + 1, n + x.outs.length + x.raised.length + rl x.raised, by omega, by omega, by rw [hf]; simp [hfl], by simp [he2], by simp [he2, f5]⟩
  · have : i = ms.length := by omega
    subst this
    simp [sizes] at hn hf
    subst hn
    simp only [a8_2]
    refine aw_seq.2 (aw_of ?_)
    simp [g2, g5, g6, he1]
    refine kx _ _ _ _ nofun fun hs' => ?_
    exact hQ _ hs' (by simpa using hf) (by simp [g5])

theorem great_call {ms : List Mk} {ap : Ap} {en : Int} {ns : List (List UInt8)} {ap2 : Ap} (hl : ms.length ≤ 2000000) (hr : ms.length + sizes ms + names ns ≤ 10000000) (hn : ns.length ≤ 2000000) (hns : ∀ s ∈ ns, s.length ≤ 10000000) {st : St} (hst : StOk st) :
    runL A (.call 8 [trAv ms ap en, .lst 1 (ns.map AV.str) ap2]) st = some ⟨.ret, ⟨[.bool (great ms ns en)], []⟩, st⟩ := by
  refine (task_of_aw (N := 87) prim8 fn8 rfl rfl hst ?_).1
  intro e he ha K hK
  have a0 := ha 0
  have a1 := ha 1
  clear ha
  simp [trAv] at a0 a1
  simp only [a8]
  refine aw_seq.2 (aw_of ?_)
  simp [he, a0]
  refine aw_seq.2 (aw_of ?_)
  simp [he, a0]
  refine aw_seq.2 (aw_seq.2 (aw_of ?_))
  simp [he]
  refine aw_block.2 ?_
  refine great_2 (ms := ms) (ap := ap) (en := en) (n := ms.length) (N := ms.length + sizes ms) hl (by omega) (by simp [he]) (by simp [he, a0, trAv]) (by simp [he]) (by simp [he]) rfl ?_ ?_
  · intro e' hs hf h4
    exact hK _ _ _ (.inl rfl) (by simp) ⟨_, congrArg (fun v => some [v]) h4, by simp [great, hf]⟩
  · intro e1 hs hf h5
    have he1 : e1.length = 87 := by simp [hs.1, he]
    have f1 := hs.ev 1 rfl (v := .lst 1 (ns.map AV.str) ap2) (by simp [a1])
    have f2 := hs.ev 2 rfl (v := .iptr (trAv ms ap en)) (by simp [he, trAv])
    simp
    refine aw_seq.2 (aw_seq.2 (aw_of ?_))
    simp
    refine aw_block.2 ?_
    refine great_0 (ns := ns) (ap := ap2) (n := ms.length + sizes ms) hn hr (by simp [he1]) (by simp [f1]) (by simp [he1]) (by simp [h5]) rfl hns ?_
    intro e2 hs2 g5
    have he2 : e2.length = 87 := by simp [hs2.1, he1]
    have g2 := hs2.ev 2 rfl (v := .iptr (trAv ms ap en)) (by simp [f2])
    simp only [trAv] at g2
    simp
    refine aw_of ?_
    by_cases h6 : 600 < ms.length + sizes ms + names ns
    · have h6' : (600 : Int) < (ms.length : Int) + sizes ms + names ns := by omega
      simp [g2, g5, he2, h6']
      exact hK _ _ _ (.inl rfl) (by simp) ⟨_, rfl, by simp [g2, he2, great, hf, h6]⟩
    · have h6' : ¬ (600 : Int) < (ms.length : Int) + sizes ms + names ns := by omega
      simp [g2, g5, he2, h6']
      exact hK _ _ _ (.inl rfl) (by simp) ⟨_, rfl, by simp [g2, he2, great, hf, h6]⟩

/-! Raises -/
def hit (c : Int) (l : List Bool) : Bool := decide (0 ≤ c) && l.getD c.toNat false

theorem fn25 : A.fn 25 = some a25 := by kernel_rfl
theorem prim25 : A.prim 25 = none := by kernel_rfl
theorem fn33 : A.fn 33 = some a33 := by kernel_rfl
theorem prim33 : A.prim 33 = none := by kernel_rfl
theorem fn24 : A.fn 24 = some a24 := by kernel_rfl
theorem prim24 : A.prim 24 = none := by kernel_rfl
theorem fn12 : A.fn 12 = some a12 := by kernel_rfl
theorem prim12 : A.prim 12 = none := by kernel_rfl

theorem hit_call {c : Int} {x : List Bool × Bool} {st : St} :
    runL A (.call 25 [rsAv x, .iptr (.int .i64 c)]) st = some ⟨.ret, ⟨[.bool (hit c x.1)], []⟩, st⟩ := by
  refine (task_of_aw_keep (N := 18) prim25 fn25 rfl rfl ?_).1
  intro e he ha K hK
  have a0 := ha 0
  have a1 := ha 1
  clear ha
  simp [rsAv] at a0 a1
  refine aw_of ?_
  by_cases h0 : 0 ≤ c
  · by_cases h1 : c < x.1.length
    · have hn : ¬ c < 0 := by omega
      have hlt : c.toNat < x.1.length := by omega
      simp [a25, he, a0, a1, h0, h1, hn, hlt]
      exact hK _ _ (.inl rfl) ⟨_, rfl, by simp [he, h0, hlt, hit]⟩
    · have hlt : ¬ c.toNat < x.1.length := by omega
      simp [a25, he, a0, a1, h0, h1, hlt]
      exact hK _ _ (.inl rfl) ⟨_, rfl, by simp [he, h0, hlt, hit]⟩
  · simp [a25, he, a0, a1, h0]
    exact hK _ _ (.inl rfl) ⟨_, rfl, by simp [he, h0, hit]⟩

def w33_0 : List Nat := a33_0.writes
/-- slices.IndexFunc, of any function that answers each element and changes nothing. -/
theorem index_call {α} {av : α → AV} {p : α → Bool} {l : List α} {ap : Ap} {g : FuncId} {cap : List AV} (hl : l.length ≤ 10000000) (hc : ∀ x ∈ l, (av x).isCell = true)
    {st : St} (hst : StOk st) (hp : ∀ x ∈ l, runL A (.call g (av x :: cap)) st = some ⟨.ret, ⟨[.bool (p x)], []⟩, st⟩) :
    runL A (.call 33 [.lst 1 (l.map av) ap, .func (.func g) [] cap]) st = some ⟨.ret, ⟨[.int .i64 (match l.findIdx? p with | some i => (i : Int) | none => -1)], []⟩, st⟩ := by
  refine (task_of_aw (N := 19) prim33 fn33 rfl rfl hst ?_).1
  intro e he ha K hK
  have a0 := ha 0
  have a1 := ha 1
  clear ha
  simp at a0 a1
  simp only [a33]
  refine aw_seq.2 (aw_of ?_)
  simp [he]
  refine aw_seq.2 (aw_seq.2 (aw_of ?_))
  simp [he, a0]
  refine aw_block.2 ?_
  refine aw_loop (W := w33_0) rfl (fun k e ds st' => ds = [] ∧ st' = st ∧ ∃ i : Nat, i + k = l.length ∧ AX.ev e (.t 8) = .int .i64 i ∧ ∀ j x, j < i → l[j]? = some x → p x = false) l.length ⟨rfl, rfl, 0, by omega, by simp [he], by simp⟩ ?_
  rintro k e1 ds st' hs ⟨rfl, rfl, i, hk, g8, hj⟩ K kn kx
  have he1 : e1.length = 19 := by simp [hs.1, he]
  have g0 := hs.ev 0 rfl (v := .lst 1 (l.map av) ap) (by simp [a0])
  have g1 := hs.ev 1 rfl (v := .func (.func g) [] cap) (by simp [a1])
  have g7 := hs.ev 7 rfl (v := .int .i64 l.length) (by simp [he])
  by_cases hi : i < l.length
  · obtain ⟨x, hx, hx', hd⟩ := aGetAt hi
    have w2 : IntKind.i64.wrap ((i : Int) + 1) = (i : Int) + 1 := wrap_i64 (by omega) (by omega)
    have hpx := hp x (List.mem_of_getElem? hx)
    have hcx := hc x (List.mem_of_getElem? hx)
    refine aw_of ?_
    by_cases hb : p x = true
    · simp [a33_0, g0, g1, g7, g8, he1, hi, hx', hcx, hpx, hb]
      refine kx _ _ _ _ nofun fun hs' => ?_
      have : l.findIdx? p = some i := by
        rw [List.findIdx?_eq_some_iff_getElem]
        exact ⟨hi, by rw [hx']; exact hb, fun j hji => by simpa using hj j _ hji (List.getElem?_eq_getElem (by omega))⟩
      exact hK _ _ _ (.inl rfl) (by simp) ⟨_, rfl, by simp [he1, this]⟩
    · simp [a33_0, g0, g1, g7, g8, he1, hi, hx', hcx, hpx, hb, w2]
      exact kn (k - 1) _ _ _ (by omega) ⟨rfl, rfl, i + 1, by omega, by simp [he1], fun j y hji hy => by
        by_cases hji' : j < i
        · exact hj j y hji' hy
        · have : j = i := by omega
          subst this
          rw [hx] at hy; cases hy; simpa using hb⟩
  · have : i = l.length := by omega
    subst this
    refine aw_of ?_
    simp [a33_0, g7, g8, he1]
    refine kx _ _ _ _ nofun fun hs' => ?_
    refine aw_of ?_
    have : l.findIdx? p = none := by
      rw [List.findIdx?_eq_none_iff]
      intro x hx
      obtain ⟨j, hj', rfl⟩ := List.mem_iff_getElem.1 hx
      exact hj j _ hj' (List.getElem?_eq_getElem hj')
    simp [he1]
    exact hK _ _ _ (.inl rfl) (by simp) ⟨_, rfl, by simp [he1, this]⟩

theorem contains_call {α} {av : α → AV} {p : α → Bool} {l : List α} {ap : Ap} {g : FuncId} {cap : List AV} (hl : l.length ≤ 10000000) (hc : ∀ x ∈ l, (av x).isCell = true)
    {st : St} (hst : StOk st) (hp : ∀ x ∈ l, runL A (.call g (av x :: cap)) st = some ⟨.ret, ⟨[.bool (p x)], []⟩, st⟩) :
    runL A (.call 24 [.lst 1 (l.map av) ap, .func (.func g) [] cap]) st = some ⟨.ret, ⟨[.bool (l.any p)], []⟩, st⟩ := by
  refine (task_of_aw (N := 9) prim24 fn24 rfl rfl hst ?_).1
  intro e he ha K hK
  have a0 := ha 0
  have a1 := ha 1
  clear ha
  simp at a0 a1
  have h33 := index_call (ap := ap) hl hc hst hp
  refine aw_of ?_
  simp [a24, he, a0, a1, h33]
  cases hq : l.findIdx? p with
  | none =>
    rw [List.findIdx?_eq_none_iff] at hq
    have : l.any p = false := by simpa using hq
    simp [this]
    exact hK _ _ _ (.inl rfl) (by simp) ⟨_, rfl, by simp [he, this]⟩
  | some i =>
    obtain ⟨hi, h1, _⟩ := List.findIdx?_eq_some_iff_getElem.1 hq
    have : l.any p = true := List.any_eq_true.2 ⟨_, List.getElem_mem hi, h1⟩
    simp [this]
    exact hK _ _ _ (.inl rfl) (by simp) ⟨_, rfl, by simp [he, this]⟩

def raisesN (ms : List Mk) (c : Int) : Nat := match ms with
  | [] => 0
  | m :: l => (if m.raised.any (fun x => hit c x.1) then 1 else 0) + raisesN l c
theorem raisesN_le {c : Int} : ∀ ms : List Mk, raisesN ms c ≤ ms.length
  | [] => Nat.le_refl _
  | m :: l => by have := raisesN_le (c := c) l; simp only [raisesN, List.length_cons]; split <;> omega

def w12_0 : List Nat := a12_0.writes
theorem raises_call {ms : List Mk} {ap : Ap} {en c : Int} (hl : ms.length ≤ 2000000) (hr : ∀ m ∈ ms, m.raised.length ≤ 2000000) {st : St} (hst : StOk st) :
    runL A (.call 12 [trAv ms ap en, .int .i64 c]) st = some ⟨.ret, ⟨[.int .i64 (raisesN ms c)], []⟩, st⟩ := by
  refine (task_of_aw (N := 23) prim12 fn12 rfl rfl hst ?_).1
  intro e he ha K hK
  have a0 := ha 0
  have a1 := ha 1
  clear ha
  simp [trAv] at a0 a1
  simp only [a12]
  refine aw_seq.2 (aw_of ?_)
  simp [he, a0, a1]
  refine aw_seq.2 (aw_of ?_)
  simp
  refine aw_seq.2 (aw_seq.2 (aw_of ?_))
  simp [he]
  refine aw_block.2 ?_
  refine aw_loop (W := w12_0) rfl (fun k e ds st' => ds = [] ∧ StOk st' ∧ (∃ l, st' = st ++ l) ∧ ∃ i n : Nat, i + k = ms.length ∧ n ≤ i ∧ n + raisesN (ms.drop i) c = raisesN ms c ∧ AX.ev e (.t 11) = .int .i64 i ∧ AX.ev e (.t 5) = .int .i64 n) ms.length ⟨rfl, hst, ⟨[], by simp⟩, 0, 0, by omega, by omega, by simp, by simp [he], by simp [he]⟩ ?_
  rintro k e1 ds st' hs ⟨rfl, hst', ⟨l, rfl⟩, i, n, hk, hni, hn, g11, g5⟩ K kn kx
  have he1 : e1.length = 23 := by simp [hs.1, he]
  have g9 := hs.ev 9 rfl (v := .lst 4 (ms.map Mk.av) ap) (by simp [he])
  have g10 := hs.ev 10 rfl (v := .int .i64 ms.length) (by simp [he])
  have g3 := hs.ev 3 rfl (v := .iptr (.int .i64 c)) (by simp [he])
  by_cases hi : i < ms.length
  · obtain ⟨x, hx, hx', hd⟩ := aGetAt hi
    rw [hd] at hn
    simp only [raisesN] at hn
    have w2 : IntKind.i64.wrap ((i : Int) + 1) = (i : Int) + 1 := wrap_i64 (by omega) (by omega)
    have w3 : IntKind.i64.wrap ((n : Int) + 1) = (n : Int) + 1 := wrap_i64 (by omega) (by omega)
    have hst2 : StOk (st ++ l ++ [.cells none (x.av.cells)]) := hst'.snoc (by
      have := mk_low (n := (st ++ l).length + 1) (m := x)
      simpa [Mk.av, AV.lowB, AObj.lowB] using this)
    have hcc := contains_call (av := rsAv) (p := fun y => hit c y.1) (l := x.raised) (ap := apOf x.rap) (g := 25) (cap := [.iptr (.int .i64 c)]) (by have := hr x (List.mem_of_getElem? hx); omega) (fun _ _ => rfl) hst2 (fun y _ => hit_call)
    simp [Mk.av] at hcc hst2
    refine aw_of ?_
    cases hb : x.raised.any (fun y => hit c y.1) with
    | true =>
      rw [hb] at hn hcc
      simp [a12_0, g9, g10, g3, g11, g5, he1, hi, hx', Mk.av, hcc, w2, w3]
      simp at hn
      exact kn (k - 1) _ _ _ (by omega) ⟨rfl, hst2, ⟨_, rfl⟩, i + 1, n + 1, by omega, by omega, by omega, by simp [he1], by simp [he1]⟩
    | false =>
      rw [hb] at hn hcc
      simp [a12_0, g9, g10, g3, g11, g5, he1, hi, hx', Mk.av, hcc, w2, w3]
      simp at hn
      exact kn (k - 1) _ _ _ (by omega) ⟨rfl, hst2, ⟨_, rfl⟩, i + 1, n, by omega, by omega, by omega, by simp [he1], by simp [he1, g5]⟩
  · have : i = ms.length := by omega
    subst this
    simp [raisesN] at hn
    subst hn
    refine aw_of ?_
    simp [a12_0, g10, g11, he1]
    refine kx _ _ _ _ nofun fun hs' => ?_
    refine aw_of ?_
    simp [he1, g5]
    exact hK _ _ _ (.inl rfl) (by simp) ⟨_, rfl, by simp [he1]⟩

/-! The law -/
theorem great_bound {ms : List Mk} {en : Int} (h : great ms [] en = false) : ms.length + sizes ms ≤ 600 := by
  simp [great, names] at h; omega
theorem sizes_raised : ∀ ms : List Mk, raisedAll ms ≤ sizes ms
  | [] => Nat.le_refl _
  | m :: l => by have := sizes_raised l; simp only [raisedAll, sizes]; omega
theorem sizes_mem : ∀ {ms : List Mk} {m : Mk}, m ∈ ms → m.outs.length + m.raised.length + rl m.raised ≤ sizes ms
  | m' :: l, m, h => by
    simp only [sizes]
    rcases List.mem_cons.1 h with rfl | h
    · omega
    · have := sizes_mem h; omega
theorem rl_mem : ∀ {l : List (List Bool × Bool)} {x}, x ∈ l → x.1.length ≤ rl l
  | y :: l, x, h => by
    simp only [rl, List.map_cons, List.sum_cons]
    rcases List.mem_cons.1 h with rfl | h
    · omega
    · have := rl_mem h; simp only [rl] at this; omega

theorem fn4 : A.fn 4 = some a4 := by kernel_rfl
theorem prim4 : A.prim 4 = none := by kernel_rfl
def w4_0 : List Nat := a4_0.writes
def w4_1 : List Nat := a4_1.writes

theorem prim7 : A.prim 7 = none := by kernel_rfl
theorem beqs_true {l : List AV} (h : AV.beqs l [.bool true] = true) : l = [.bool true] := by
  match l, h with
  | [.bool true], _ => rfl
  | [.bool false], h => simp [AV.beqs, AV.beq] at h
theorem alive_call : runL A (.call 7 []) [] = some ⟨.ret, ⟨[.bool true], []⟩, []⟩ := by
  have h := alive_run
  have e : runL A (.call 7 []) [] = runL A (.seqc 7 []) [] := by
    rw [runL_eq, runL_eq (.seqc 7 [])]
    simp only [layer, prim7]
  rw [e]
  split at h
  · rename_i fr st hr
    simp only [Bool.and_eq_true, List.isEmpty_iff] at h
    obtain ⟨⟨h1, rfl⟩, h2⟩ := h
    refine runL_some.2 ⟨300, ?_⟩
    rw [hr]
    obtain ⟨env, defs⟩ := fr
    simp only at h1 h2
    rw [beqs_true h1, h2]
  · cases h

theorem law4_0 {ms : List Mk} {ap : Ap} {en c : Int} {i n : Nat} {m : Mk} (hl : m.raised.length ≤ 2000000) (hN : n ≤ 2000000) (hr : ∀ x ∈ m.raised, x.1.length ≤ 2000000) {e : Env} {st : St} {Q : PostQ} (he : e.length = 75)
    (h2 : AX.ev e (.t 2) = .iptr (trAv ms ap en)) (h1 : AX.ev e (.t 1) = .int .i64 c) (h7 : AX.ev e (.t 7) = .int .i64 i) (hi : i < ms.length) (hm : ms[i] = m) (h9 : AX.ev e (.t 9) = .int .i64 0) (h5 : AX.ev e (.t 5) = .int .i64 n) (h8 : AX.ev e (.t 8) = .bool false)
    (hQ : ∀ e', Same w4_0 e e' → AX.ev e' (.t 5) = .int .i64 (n + m.raised.length : Nat) → AX.ev e' (.t 8) = .bool (m.raised.any fun x => hit c x.1) → Q (.exit 2) e' [] st) :
    AW A 4 none (.loop a4_0) e [] st Q := by
  refine aw_loop (W := w4_0) rfl (fun k e ds st' => ds = [] ∧ st' = st ∧ ∃ j : Nat, ∃ b : Bool, j + k = m.raised.length ∧ (b || (m.raised.drop j).any fun x => hit c x.1) = (m.raised.any fun x => hit c x.1) ∧ AX.ev e (.t 9) = .int .i64 j ∧ AX.ev e (.t 5) = .int .i64 (n + j : Nat) ∧ AX.ev e (.t 8) = .bool b) m.raised.length ⟨rfl, rfl, 0, false, by omega, by simp, h9, h5, h8⟩ ?_
  rintro k e1 ds st' hs ⟨rfl, rfl, j, b, hk, hb, g9, g5, g8⟩ K kn kx
  have he1 : e1.length = 75 := by simp [hs.1, he]
  have g2 := hs.ev 2 rfl h2
  have g1 := hs.ev 1 rfl h1
  have g7 := hs.ev 7 rfl h7
  simp only [trAv] at g2
  by_cases hj : j < m.raised.length
  · obtain ⟨x, hx, hx', hd⟩ := aGetAt hj
    rw [hd] at hb
    have hxl := hr x (List.mem_of_getElem? hx)
    have w2 : IntKind.i64.wrap ((j : Int) + 1) = (j : Int) + 1 := wrap_i64 (by omega) (by omega)
    have w3 : IntKind.i64.wrap ((n : Int) + j + 1) = (n : Int) + (j + 1) := by rw [wrap_i64 (by omega) (by omega)]; omega
    refine aw_of ?_
    cases b with
    | true =>
      simp [a4_0, g1, g2, g5, g7, g8, g9, he1, hi, hm, hj, hx', Mk.av, rsAv, w2, w3]
      exact kn (k - 1) _ _ _ (by omega) ⟨rfl, rfl, j + 1, true, by omega, by simpa using hb, by simp [he1], by simp [he1], by simp [he1]⟩
    | false =>
      by_cases h0 : 0 ≤ c
      · by_cases h1 : c < x.1.length
        · have hn : ¬ c < 0 := by omega
          have hlt : c.toNat < x.1.length := by omega
          simp [a4_0, g1, g2, g5, g7, g8, g9, he1, hi, hm, hj, hx', Mk.av, rsAv, w2, w3, h0, h1, hn, hlt]
          exact kn (k - 1) _ _ _ (by omega) ⟨rfl, rfl, j + 1, hit c x.1, by omega, by simpa using hb, by simp [he1], by simp [he1], by simp [he1, hit, h0, hlt]⟩
        · have hlt : ¬ c.toNat < x.1.length := by omega
          have hh : hit c x.1 = false := by simp [hit, h0, hlt]
          simp [a4_0, g1, g2, g5, g7, g8, g9, he1, hi, hm, hj, hx', Mk.av, rsAv, w2, w3, h0, h1]
          exact kn (k - 1) _ _ _ (by omega) ⟨rfl, rfl, j + 1, false, by omega, by simpa [hh] using hb, by simp [he1], by simp [he1], by simp [he1]⟩
      · have hh : hit c x.1 = false := by simp [hit, h0]
        simp [a4_0, g1, g2, g5, g7, g8, g9, he1, hi, hm, hj, hx', Mk.av, rsAv, w2, w3, h0]
        exact kn (k - 1) _ _ _ (by omega) ⟨rfl, rfl, j + 1, false, by omega, by simpa [hh] using hb, by simp [he1], by simp [he1], by simp [he1]⟩
  · have : j = m.raised.length := by omega
    subst this
    refine aw_of ?_
    simp [a4_0, g2, g7, g9, he1, hi, hm, Mk.av]
    refine kx _ _ _ _ nofun fun hs' => ?_
    exact hQ _ hs' (by simp [g5]) (by simpa [g8] using hb)

theorem law4_run {ms : List Mk} {ap : Ap} {en c : Int} (hl : ms.length ≤ 2000000) (hb : ms.length + sizes ms ≤ 10000000) : runL A (.seqc 4 [trAv ms ap en, .int .i64 c]) [] = some ⟨.ret, ⟨[.bool true], []⟩, []⟩ := by
  refine (task_of_aw (N := 75) prim4 fn4 rfl rfl StOk.nil ?_).2
  intro e he ha K hK
  have a0 := ha 0
  have a1 := ha 1
  clear ha
  simp [trAv] at a0 a1
  have hg := great_call (ms := ms) (ap := ap) (en := en) (ns := []) (ap2 := .tight) hl (by simpa [names] using hb) (by simp) (by simp) StOk.nil
  simp [trAv] at hg
  simp only [a4]
  refine aw_seq.2 (aw_of ?_)
  simp [he, a0]
  refine aw_seq.2 (aw_of ?_)
  simp [he, alive_call]
  refine aw_seq.2 (aw_of ?_)
  cases hgr : great ms [] en with
  | true =>
    simp [he, hg, hgr]
    exact hK _ _ _ (.inl rfl) (by simp) ⟨_, rfl, by simp [he]⟩
  | false =>
    have hb := great_bound hgr
    simp [he, hg, hgr]
    refine aw_seq.2 (aw_of ?_)
    simp
    refine aw_seq.2 (aw_seq.2 (aw_of ?_))
    simp
    refine aw_block.2 ?_
    refine aw_loop (W := w4_1) rfl (fun k e ds st' => ds = [] ∧ st' = [] ∧ ∃ i n r : Nat, i + k = ms.length ∧ r ≤ i ∧ n + raisedAll (ms.drop i) = raisedAll ms ∧ r + raisesN (ms.drop i) c = raisesN ms c ∧ AX.ev e (.t 7) = .int .i64 i ∧ AX.ev e (.t 5) = .int .i64 n ∧ AX.ev e (.t 6) = .int .i64 r) ms.length
      ⟨rfl, rfl, 0, 0, 0, by omega, by omega, by simp, by simp, by simp [he], by simp [he], by simp [he]⟩ ?_
    rintro k e1 ds st' hs ⟨rfl, rfl, i, n, r, hk, hri, hn, hr, g7, g5, g6⟩ K1 kn kx
    have he1 : e1.length = 75 := by simp [hs.1, he]
    have g2 := hs.ev 2 rfl (v := .iptr (trAv ms ap en)) (by simp [he, trAv])
    have g1 := hs.ev 1 rfl (v := .int .i64 c) (by simp [a1])
    have g2' := g2
    simp only [trAv] at g2'
    have hsr := sizes_raised ms
    by_cases hi : i < ms.length
    · obtain ⟨x, hx, hx', hd⟩ := aGetAt hi
      rw [hd] at hn hr
      simp only [raisedAll, raisesN] at hn hr
      have hxm := sizes_mem (List.mem_of_getElem? hx)
      have w2 : IntKind.i64.wrap ((i : Int) + 1) = (i : Int) + 1 := wrap_i64 (by omega) (by omega)
      have w3 : IntKind.i64.wrap ((r : Int) + 1) = (r : Int) + 1 := wrap_i64 (by omega) (by omega)
      simp only [a4_1]
      refine aw_seq.2 (aw_of ?_)
      simp [g7, g2', he1, hi]
      refine aw_seq.2 (aw_block.2 (aw_seq.2 (aw_of ?_)))
      simp
      refine aw_seq.2 (aw_seq.2 (aw_of ?_))
      simp
      refine aw_block.2 ?_
      refine law4_0 (ms := ms) (ap := ap) (en := en) (c := c) (i := i) (n := n) (m := x) (by omega) (by omega) (fun y hy => by have := rl_mem hy; omega) (by simp [he1]) (by simp [g2]) (by simp [g1]) (by simp [g7]) hi hx' (by simp [he1]) (by simp [g5]) (by simp [he1]) ?_
      intro e2 hs2 f5 f8
      have he2 : e2.length = 75 := by simp [hs2.1, he1]
      have f7 := hs2.ev 7 rfl (v := .int .i64 i) (by simp [g7])
      have f6 := hs2.ev 6 rfl (v := .int .i64 r) (by simp [g6])
      simp
      refine aw_of ?_
      cases hb : x.raised.any (fun x => hit c x.1) with
      | true =>
        rw [hb] at f8 hr
        simp at hr
        simp [f8, f6, he2, w3]
        refine aw_of ?_
        simp [f7, he2, w2]
        exact kn (k - 1) _ _ _ (by omega) ⟨rfl, rfl, i + 1, n + x.raised.length, r + 1, by omega, by omega, by omega, by omega, by simp [he2], by simp [f5], by simp [he2]⟩
      | false =>
        rw [hb] at f8 hr
        simp at hr
        simp [f8, f6, he2, w3]
        refine aw_of ?_
        simp [f7, he2, w2]
        exact kn (k - 1) _ _ _ (by omega) ⟨rfl, rfl, i + 1, n + x.raised.length, r, by omega, by omega, by omega, by omega, by simp [he2], by simp [f5], by simp [f6]⟩
    · have : i = ms.length := by omega
      subst this
      simp [raisedAll, raisesN] at hn hr
      subst hn hr
      simp only [a4_1]
      refine aw_seq.2 (aw_of ?_)
      simp [g7, g2', he1]
      refine kx _ _ _ _ nofun fun hs' => ?_
      simp
      have h11 := steps_call (ms := ms) (ap := ap) (en := en) hl (by omega) StOk.nil
      have h12 := raises_call (ms := ms) (ap := ap) (en := en) (c := c) hl (fun m hm => by have := sizes_mem hm; omega) StOk.nil
      simp [trAv] at h11 h12
      refine aw_of ?_
      simp [g2', g1, g5, g6, he1, h11, h12]
      exact hK _ _ _ (.inl rfl) (by simp) ⟨_, rfl, by simp [he1]⟩
end Go.Proofs.YtfkmdajlpnkebaaDoor

namespace Go.Proofs.YtfkmdajlpnkebaaDoor
open Go Ai

theorem cells4 : Tryd.prog.cellsOf 4 = 1 := by kernel_rfl
theorem cells2 : Tryd.prog.cellsOf 2 = 1 := by kernel_rfl
theorem cells34 : Tryd.prog.cellsOf 34 = 1 := by kernel_rfl
theorem cells33 : Tryd.prog.cellsOf 33 = 4 := by kernel_rfl
theorem cells9 : Tryd.prog.cellsOf 9 = 1 := by kernel_rfl

set_option maxRecDepth 100000 in
theorem of_mark {n : Nat} {a : AV} (h : OfType Tryd.prog (n + 4) 33 a) : ∃ m : Mk, a = m.av ∧ (∀ x ∈ m.outs, (Lit.int .i64 x).wf = true) ∧ (Lit.int .i64 m.time).wf = true ∧ (Lit.int .i64 m.flags).wf = true := by
  obtain ⟨xs, rfl, hx⟩ := ofType_struct Tryd.underlying33 h
  simp only [List.map_cons, List.map_nil, ArgsOf] at hx
  obtain ⟨x1, _, rfl, h1, x2, _, rfl, h2, x3, _, rfl, h3, x4, _, rfl, h4, rfl⟩ := hx
  obtain ⟨ti, rfl, w1⟩ := ofType_int Tryd.underlying2 h1
  obtain ⟨outs, oap, rfl, w2⟩ := ofType_slice (f := AV.int .i64) (Q := fun x => (Lit.int .i64 x).wf = true) Tryd.underlying30 cells2 (fun x hx => ofType_int Tryd.underlying2 hx) h2
  obtain ⟨rs, rap, rfl, _⟩ := ofType_slice (f := rsAv) (Q := fun _ => True) Tryd.underlying31 cells34 (fun x hx => by
    obtain ⟨l, b, rfl, _⟩ := ofType_slice (f := AV.bool) (Q := fun _ => True) Tryd.underlying34 cells4 (fun x hx => by obtain ⟨b, rfl⟩ := ofType_bool Tryd.underlying4 hx; exact ⟨b, rfl, trivial⟩) hx
    exact ⟨(l, b), rfl, trivial⟩) h3
  obtain ⟨fl, rfl, w4⟩ := ofType_int Tryd.underlying3 h4
  exact ⟨⟨ti, outs, oap, rs, rap, fl⟩, rfl, w2, w1, w4⟩

set_option maxRecDepth 100000 in
theorem of_trace {n : Nat} {a : AV} (h : OfType Tryd.prog (n + 6) 25 a) : ∃ ms b en, a = trAv ms (apOf b) en ∧ (Lit.int .i64 en).wf = true ∧ ∀ m ∈ ms, (∀ x ∈ m.outs, (Lit.int .i64 x).wf = true) ∧ (Lit.int .i64 m.time).wf = true ∧ (Lit.int .i64 m.flags).wf = true := by
  obtain ⟨xs, rfl, hx⟩ := ofType_struct Tryd.underlying25 h
  simp only [List.map_cons, List.map_nil, ArgsOf] at hx
  obtain ⟨x1, _, rfl, h1, x2, _, rfl, h2, rfl⟩ := hx
  obtain ⟨ms, b, rfl, hm⟩ := ofType_slice (f := Mk.av) Tryd.underlying22 cells33 (fun x hx => of_mark hx) h1
  obtain ⟨en, rfl, we⟩ := ofType_int Tryd.underlying23 h2
  exact ⟨ms, b, en, rfl, we, hm⟩

theorem bulks_map {α} {f : α → AV} (l : List α) (g : α → Nat) (h : ∀ x ∈ l, g x ≤ (f x).bulk) : (l.map g).sum ≤ AV.bulks (l.map f) := by
  induction l with
  | nil => simp [AV.bulks]
  | cons x l ih =>
    simp only [List.map_cons, List.sum_cons, AV.bulks]
    have := h x (by simp)
    have := ih fun y hy => h y (by simp [hy])
    omega
theorem len_bulks {α} {f : α → AV} (l : List α) (h : ∀ x ∈ l, 1 ≤ (f x).bulk) : l.length ≤ AV.bulks (l.map f) := by
  have := bulks_map (f := f) l (fun _ => 1) h
  have e : (l.map fun _ => 1).sum = l.length := by clear h this; induction l with | nil => rfl | cons x l ih => simp only [List.map_cons, List.sum_cons, List.length_cons, ih]; omega
  omega
theorem rs_bulk (x : List Bool × Bool) : x.1.length + 1 ≤ (rsAv x).bulk := by
  have := len_bulks (f := AV.bool) x.1 fun _ _ => Nat.le_refl _
  simp only [rsAv, AV.bulk]; omega
theorem mk_bulk (m : Mk) : m.outs.length + m.raised.length + rl m.raised + 1 ≤ m.av.bulk := by
  have h1 := len_bulks (f := AV.int .i64) m.outs fun _ _ => Nat.le_refl _
  have h2 := bulks_map (f := rsAv) m.raised (fun x => x.1.length + 1) fun x _ => rs_bulk x
  have h3 : (m.raised.map fun x => x.1.length + 1).sum = rl m.raised + m.raised.length := by
    unfold rl
    induction m.raised with
    | nil => rfl
    | cons x l ih => simp only [List.map_cons, List.sum_cons, List.length_cons, ih]; omega
  simp only [Mk.av, AV.bulk, AV.bulks]; omega
theorem tr_bulk {ms : List Mk} {ap : Ap} {en : Int} : ms.length + sizes ms ≤ (trAv ms ap en).bulk := by
  have h2 := bulks_map (f := Mk.av) ms (fun m => m.outs.length + m.raised.length + rl m.raised + 1) fun x _ => mk_bulk x
  have h3 : (ms.map fun m => m.outs.length + m.raised.length + rl m.raised + 1).sum = sizes ms + ms.length := by
    clear h2
    induction ms with
    | nil => rfl
    | cons x l ih => simp only [List.map_cons, List.sum_cons, List.length_cons, sizes, ih]; omega
  simp only [trAv, AV.bulk, AV.bulks]; omega
end Go.Proofs.YtfkmdajlpnkebaaDoor

