/- The numbers of texts: dec.Parse, dec.Signed, run symbolically; DecSigns. No condition. -/
import Derived.Test.YtbmakcjladlaaaaDoorFb
set_option linter.unusedVariables false
set_option linter.unusedSimpArgs false
namespace Go.Proofs.YtbmakcjladlaaaaDoor
open Go Ai

/-- A set of bytes, as Go keeps it. -/
def set256 (p : Nat → Bool) : List AV := (List.range 256).map fun k => AV.bool (p k)
theorem set256_length (p : Nat → Bool) : (set256 p).length = 256 := by simp [set256]
theorem set256_set (p : Nat → Bool) {c : Nat} : (set256 p).set c (.bool true) = set256 fun k => k == c || p k := by
  apply List.ext_getElem?
  intro i
  simp only [set256, List.getElem?_set, List.length_map, List.length_range, List.getElem?_map, List.getElem?_range]
  by_cases h : c = i
  · subst h
    by_cases h2 : c < 256
    · simp [h2, List.getElem?_range]
    · simp [h2]
  · have : ¬ i = c := fun e => h e.symm
    by_cases h2 : i < 256
    · simp [h, h2, this, List.getElem?_range]
    · simp [h, h2, this]
theorem set256_get (p : Nat → Bool) {c : Nat} (h : c < 256) : (set256 p)[c]? = some (.bool (p c)) := by
  simp [set256, h]
theorem set256_cell (p : Nat → Bool) : (set256 p).all AV.isCell = true := by
  simp [set256, AV.isCell]
theorem putCells_all : ∀ (vs pre cs : List AV), cs.length = vs.length → putCells (pre ++ cs) pre.length vs = pre ++ vs
  | [], pre, cs, h => by
    have : cs = [] := List.eq_nil_of_length_eq_zero h
    subst this; rfl
  | v :: vs, pre, [], h => by simp at h
  | v :: vs, pre, c :: cs, h => by
    have := putCells_all vs (pre ++ [v]) cs (by simpa using h)
    simp at this
    simp [putCells, this]
theorem putCells_full {vs cs : List AV} (h : cs.length = vs.length) : putCells cs 0 vs = vs := putCells_all vs [] cs h
theorem set256_put (p q : Nat → Bool) : putCells (set256 p) 0 (set256 q) = set256 q := putCells_full (by simp [set256_length])
theorem set256_stills (p : Nat → Bool) (n : Nat) (st : St) : AV.stills n st (set256 p) = some (set256 p) := by
  refine stills_of fun x hx => ?_
  simp only [set256, List.mem_map] at hx
  obtain ⟨k, _, rfl⟩ := hx
  rfl

def b36 : AFunc := ⟨21, [.cell 2 256 true, .tmp 3],
 (.seq (.reg [⟨(some 2), .new (.agg (set256 fun _ => false)) true none, none⟩,
 ⟨(some 3), .mov (.k (.bool false)), none⟩])
 (.seq (.seq (.reg [⟨(some 4), .mov (.k (.int .i64 0)), none⟩])
 (.block 0 (.loop a36_0)))
 (.seq (.reg [⟨(some 20), .load 256 true (.t 2), none⟩,
 ⟨none, .store 256 (.t 2) (.t 20), none⟩,
 ⟨(some 3), .mov (.k (.bool true)), none⟩])
 .ret))),
 [], false⟩
theorem fn36 : A.fn 36 = some b36 := by kernel_rfl
theorem prim36 : A.prim 36 = none := by kernel_rfl

def w36_0 : List Nat := a36_0.writes
attribute [simp] set256_length set256_put set256_cell set256_stills

theorem take256' (p : Nat → Bool) : List.take 256 (set256 p) = set256 p := List.take_of_length_le (by simp)
theorem cell256 (p : Nat → Bool) : (∀ x, x ∈ set256 p → x.isCell = true) = True := eq_true (by have := set256_cell p; rwa [List.all_eq_true] at this)
attribute [simp] take256' cell256
theorem take256 (p : Nat → Bool) : takeVar 256 true (set256 p) 0 = some (.agg (set256 p)) := by
  simp [takeVar, List.take_of_length_le]

theorem set_call {s : List UInt8} (hs : ∀ c ∈ s, c.toNat < 128) (hl : s.length ≤ 1000) {st : St} (hst : StOk st) :
    runL A (.call 36 [.str s]) st = some ⟨.ret, ⟨[.tup [.agg (set256 fun k => s.any fun c => c.toNat == k), .bool true]], []⟩, st⟩ := by
  refine (task_of_aw (N := 21) prim36 fn36 rfl rfl hst ?_).1
  intro e he ha K hK
  have a0 := ha 0
  clear ha
  simp at a0
  simp [b36, he, a0]
  refine aw_loop (W := w36_0) rfl (fun m e ds st' => ds = [] ∧ ∃ i : Nat, i + m = s.length ∧ AX.ev e (.t 4) = .int .i64 i ∧ st' = st ++ [.cells none (set256 fun k => (s.take i).any fun c => c.toNat == k)]) s.length
    ⟨rfl, 0, by simp, by simp [he], by simp⟩ ?_
  rintro m e1 ds st' hs' ⟨rfl, i, hm, g4, rfl⟩ K1 kn kx
  have he1 : e1.length = 21 := by simp [hs'.1, he]
  have g0 := hs'.ev 0 rfl (v := .str s) (by simp [a0])
  have g2 := hs'.ev 2 rfl (v := .ptr st.length 0) (by simp [he])
  cases m with
  | zero =>
    have : i = s.length := by omega
    subst this
    simp [a36_0, g0, g4, he1]
    refine kx _ _ _ _ nofun fun hs' => ?_
    have g2' : e1[2]'(by omega) = .ptr st.length 0 := by simpa [AX.ev, List.getD_eq_getElem?_getD, he1] using g2
    simp [g2, he1, take256, AV.cells]
    exact hK _ _ _ (.inl rfl) (by simp) ⟨[.agg (set256 fun k => s.any fun c => c.toNat == k), .bool true], by simp [b36, resultsA, resA, he1, g2', take256], by simp [AV.still, AV.stills, oneOf]⟩
  | succ m =>
    have hi : i < s.length := by omega
    have hc : s[i].toNat < 128 := hs _ (List.getElem_mem hi)
    obtain ⟨c, hcc⟩ : ∃ c : Nat, c = s[i].toNat := ⟨_, rfl⟩
    have w1 : IntKind.i64.wrap ((i : Int) + 1) = (i : Int) + 1 := wrap_i64 (by omega) (by omega)
    have hc2 : ¬ (128 : Int) ≤ (c : Int) := by omega
    have hc2' : ¬ 128 ≤ c := by omega
    have hc3 : (c : Int) < 256 := by omega
    have hc3' : c < 256 := by omega
    have hc4 : c ≤ 255 := by omega
    have hn : ¬ (i : Int) < 0 := by omega
    have hcn : ¬ (c : Int) < 0 := by omega
    simp [a36_0, g0, g2, g4, he1, hi, w1, byteV, ← hcc, hc2, hc2', hc3, hc3', hc4, hn, hcn, putCells, set256_set]
    refine kn m _ _ _ (by omega) ⟨rfl, i + 1, by omega, by simp [he1], ?_⟩
    congr 3
    congr 1
    funext k
    have ht : s.take (i + 1) = s.take i ++ [s[i]] := by simp
    rw [ht, List.any_append, Bool.or_comm]
    simp only [List.any_cons, List.any_nil, Bool.or_false]
    rw [← hcc]
    congr 1
    exact Bool.eq_iff_iff.2 ⟨fun h => by rw [beq_iff_eq] at h ⊢; exact h.symm, fun h => by rw [beq_iff_eq] at h ⊢; exact h.symm⟩

theorem fn53 : A.fn 53 = some a53 := by kernel_rfl
theorem prim53 : A.prim 53 = none := by kernel_rfl
theorem has_call {p : Nat → Bool} {c : UInt8} {st : St} {r : Nat} {ty : Option TypeId} (hr : st[r]? = some (.cells ty (set256 p))) :
    runL A (.call 53 [.ptr r 0, byteV c]) st = some ⟨.ret, ⟨[.bool (p c.toNat)], []⟩, st⟩ := by
  refine (task_of_aw_keep (N := 10) prim53 fn53 rfl rfl ?_).1
  intro e he ha K hK
  have a0 := ha 0
  have a1 := ha 1
  clear ha
  simp [byteV] at a0 a1
  have hc := c.toNat_lt
  have hc1 : (c.toNat : Int) < 256 := by omega
  have hn : ¬ (c.toNat : Int) < 0 := by omega
  have hg := set256_get p hc
  simp [a53, he, a0, a1, hc1, hn, hr, takeVar, hg]
  exact hK _ _ (.inl rfl) ⟨_, rfl, by simp [he]⟩

theorem fn37 : A.fn 37 = some a37 := by kernel_rfl
theorem prim37 : A.prim 37 = none := by kernel_rfl
theorem fn66 : A.fn 66 = some a66 := by kernel_rfl
theorem prim66 : A.prim 66 = none := by kernel_rfl
def w37_0 : List Nat := a37_0.writes
def w66_0 : List Nat := a66_0.writes
def cutR (p : Nat → Bool) (s : List UInt8) : List UInt8 := (s.reverse.dropWhile fun c => p c.toNat).reverse
def cutL (p : Nat → Bool) (s : List UInt8) : List UInt8 := s.dropWhile fun c => p c.toNat
theorem cutR_snoc (p : Nat → Bool) (s : List UInt8) (c : UInt8) : cutR p (s ++ [c]) = if p c.toNat then cutR p s else s ++ [c] := by
  simp only [cutR, List.reverse_append, List.reverse_cons, List.reverse_nil, List.nil_append, List.singleton_append, List.dropWhile_cons]
  split <;> simp

theorem right_call {p : Nat → Bool} {s : List UInt8} (hs : s.length ≤ 1000000000) {st : St} {r : Nat} {ty : Option TypeId} (hr : st[r]? = some (.cells ty (set256 p))) :
    runL A (.call 37 [.str s, .ptr r 0]) st = some ⟨.ret, ⟨[.str (cutR p s)], []⟩, st⟩ := by
  refine (task_of_aw_keep (N := 22) prim37 fn37 rfl rfl ?_).1
  intro e he ha K hK
  have a0 := ha 0
  have a1 := ha 1
  clear ha
  simp at a0 a1
  simp [a37, he, a0, a1]
  refine aw_loop (W := w37_0) rfl (fun m e ds st' => ds = [] ∧ st' = st ∧ ∃ t : List UInt8, t.length = m ∧ m ≤ s.length ∧ cutR p t = cutR p s ∧ AX.ev e (.t 0) = .str t) s.length ⟨rfl, rfl, s, rfl, by simp, rfl, by simp [a0]⟩ ?_
  rintro m e1 ds st' hs' ⟨rfl, rfl, t, htm, hms, ht, g0⟩ K1 kn kx
  have he1 : e1.length = 22 := by simp [hs'.1, he]
  have g1 := hs'.ev 1 rfl (v := .ptr r 0) (by simp [a1])
  rcases List.eq_nil_or_concat t with rfl | ⟨t', c, hfc⟩
  · simp [a37_0, g0, he1]
    refine kx _ _ _ _ nofun fun hs' => ?_
    simp [g0, he1]
    exact hK _ _ (.inl rfl) ⟨_, rfl, by simp [he1, ← ht]; rfl⟩
  · rw [List.concat_eq_append] at hfc
    subst hfc
    simp at htm
    have w0 : IntKind.i64.wrap (t'.length : Int) = (t'.length : Int) := wrap_i64 (by omega) (by omega)
    have w1 : IntKind.i64.wrap ((t'.length : Int) + 1 - 1) = (t'.length : Int) := by rw [wrap_i64 (by omega) (by omega)]; omega
    have hh := has_call (c := c) hr
    simp [byteV] at hh
    have hle : (t'.length : Int) ≤ (t'.length : Int) + 1 := by omega
    rw [cutR_snoc] at ht
    by_cases hp : p c.toNat = true
    · rw [hp] at hh
      rw [if_pos hp] at ht
      simp [a37_0, g0, g1, he1, w0, w1, byteV, hh, bound, hle]
      exact kn t'.length _ _ _ (by omega) ⟨rfl, rfl, t', rfl, by omega, ht, by simp [he1]⟩
    · rw [if_neg hp] at ht
      rw [Bool.not_eq_true] at hp
      rw [hp] at hh
      simp [a37_0, g0, g1, he1, w0, w1, byteV, hh]
      refine kx _ _ _ _ nofun fun hs' => ?_
      simp [g0, he1]
      exact hK _ _ (.inl rfl) ⟨_, rfl, by simp [he1, ← ht]⟩

theorem left_call {p : Nat → Bool} {s : List UInt8} (hs : s.length ≤ 1000000000) {st : St} {r : Nat} {ty : Option TypeId} (hr : st[r]? = some (.cells ty (set256 p))) :
    runL A (.call 66 [.str s, .ptr r 0]) st = some ⟨.ret, ⟨[.str (cutL p s)], []⟩, st⟩ := by
  refine (task_of_aw_keep (N := 16) prim66 fn66 rfl rfl ?_).1
  intro e he ha K hK
  have a0 := ha 0
  have a1 := ha 1
  clear ha
  simp at a0 a1
  simp [a66, he, a0, a1]
  refine aw_loop (W := w66_0) rfl (fun m e ds st' => ds = [] ∧ st' = st ∧ ∃ t : List UInt8, t.length = m ∧ m ≤ s.length ∧ cutL p t = cutL p s ∧ AX.ev e (.t 0) = .str t) s.length ⟨rfl, rfl, s, rfl, by simp, rfl, by simp [a0]⟩ ?_
  rintro m e1 ds st' hs' ⟨rfl, rfl, t, htm, hms, ht, g0⟩ K1 kn kx
  have he1 : e1.length = 16 := by simp [hs'.1, he]
  have g1 := hs'.ev 1 rfl (v := .ptr r 0) (by simp [a1])
  cases t with
  | nil =>
    simp [a66_0, g0, he1]
    refine kx _ _ _ _ nofun fun hs' => ?_
    simp [g0, he1]
    exact hK _ _ (.inl rfl) ⟨_, rfl, by simp [he1, ← ht]; rfl⟩
  | cons c t' =>
    simp at htm
    have hh := has_call (c := c) hr
    simp [byteV] at hh
    have hle : (1 : Int) ≤ (t'.length : Int) + 1 := by omega
    have hpos : (0 : Int) < (t'.length : Int) + 1 := by omega
    by_cases hp : p c.toNat = true
    · rw [hp] at hh
      simp only [cutL, List.dropWhile_cons, hp, if_true] at ht
      simp [a66_0, g0, g1, he1, byteV, hh, bound, hle, hpos]
      exact kn t'.length _ _ _ (by omega) ⟨rfl, rfl, t', rfl, by omega, ht, by simp [he1]⟩
    · rw [Bool.not_eq_true] at hp
      rw [hp] at hh
      simp [cutL, List.dropWhile_cons, hp] at ht
      simp [a66_0, g0, g1, he1, byteV, hh, hpos]
      refine kx _ _ _ _ nofun fun hs' => ?_
      simp [g0, he1]
      exact hK _ _ (.inl rfl) ⟨_, rfl, by simp [he1, ht, cutL]⟩

def trimP (p : Nat → Bool) (s : List UInt8) : List UInt8 := cutL p (cutR p s)
theorem cutR_prefix (p : Nat → Bool) (s : List UInt8) : (cutR p s).length ≤ s.length := by
  simp only [cutR, List.length_reverse]
  have := (List.dropWhile_sublist (fun c : UInt8 => p c.toNat) (l := s.reverse)).length_le
  simpa using this
theorem dropWhile_nil {α} {q : α → Bool} : ∀ {l : List α}, l.dropWhile q = [] ↔ l.all q = true
  | [] => by simp
  | x :: l => by
    rw [List.dropWhile_cons]
    by_cases h : q x = true
    · simp [h, dropWhile_nil]
    · simp [h]
theorem dropWhile_head {α} {q : α → Bool} : ∀ {l : List α} {x : α} {r : List α}, l.dropWhile q = x :: r → q x = false
  | [], _, _, h => by simp at h
  | y :: l, x, r, h => by
    rw [List.dropWhile_cons] at h
    split at h
    · exact dropWhile_head h
    · rename_i hy
      cases h
      simpa using hy
theorem trimP_nil (p : Nat → Bool) (s : List UInt8) : trimP p s = [] ↔ s.all (fun c => p c.toNat) = true := by
  unfold trimP cutL
  rw [dropWhile_nil]
  constructor
  · intro h
    cases hr : s.reverse.dropWhile (fun c => p c.toNat) with
    | nil =>
      rw [dropWhile_nil] at hr
      simpa using hr
    | cons x r =>
      have hx := dropWhile_head hr
      simp [cutR, hr] at h
      rw [h.2] at hx; cases hx
  · intro h
    have : cutR p s = [] := by
      unfold cutR
      rw [List.reverse_eq_nil_iff, dropWhile_nil]; simpa using h
    rw [this]; rfl

def b47 : AFunc := ⟨43, [.tmp 4],
 (.seq (.reg [⟨(some 4), .mov (.k (.str [])), none⟩])
 (.seq (.seq (.reg [⟨(some 7), .mov (.t 0), none⟩,
 ⟨(some 8), .bin .eql (.t 7) (.k (.str [])), none⟩,
 ⟨(some 9), .mov (.t 8), none⟩,
 ⟨(some 10), .mov (.t 1), some (9, false)⟩,
 ⟨(some 11), .bin .eql (.t 10) (.k (.str [])), some (9, false)⟩,
 ⟨(some 12), .pick (.t 9) (.k (.bool true)) (.t 11), none⟩])
 (.cond (.t 12) (.seq (.reg [⟨(some 13), .mov (.t 0), none⟩,
 ⟨(some 4), .mov (.t 13), none⟩])
 .ret)
 .skip))
 (.seq (.seq (.reg [⟨(some 14), .mov (.t 1), none⟩,
 ⟨(some 15), .lenStr (.t 14), none⟩,
 ⟨(some 16), .bin .eql (.t 15) (.k (.int .i64 1)), none⟩,
 ⟨(some 17), .mov (.t 16), none⟩,
 ⟨(some 18), .mov (.t 1), some (17, true)⟩,
 ⟨(some 19), .indexStr (.t 18) (.k (.int .i64 0)), some (17, true)⟩,
 ⟨(some 20), .bin .lss (.t 19) (.k (.int .u8 128)), some (17, true)⟩,
 ⟨(some 21), .pick (.t 17) (.t 20) (.k (.bool false)), none⟩])
 (.cond (.t 21) (.seq (.plan [⟨0, ⟨(some 22), .mov (.t 0), none⟩, []⟩,
 ⟨1, ⟨(some 23), .mov (.t 1), none⟩, []⟩,
 ⟨2, ⟨(some 24), .indexStr (.t 23) (.k (.int .i64 0)), none⟩, []⟩,
 ⟨4, ⟨(some 26), .mov (.t 1), none⟩, []⟩,
 ⟨5, ⟨(some 27), .indexStr (.t 26) (.k (.int .i64 0)), none⟩, []⟩,
 ⟨3, ⟨(some 25), .call (.k (.func (.func 35) [] [])) [(.t 22), (.t 24)], none⟩, []⟩,
 ⟨6, ⟨(some 28), .call (.k (.func (.func 65) [] [])) [(.t 25), (.t 27)], none⟩, []⟩,
 ⟨7, ⟨(some 4), .mov (.t 28), none⟩, []⟩])
 .ret)
 .skip))
 (.seq (.seq (.reg [⟨(some 30), .mov (.t 1), none⟩,
 ⟨(some 31), .call (.k (.func (.func 36) [] [])) [(.t 30)], none⟩,
 ⟨(some 29), .mov (.t 31), none⟩,
 ⟨(some 32), .extract (.t 29) 0, none⟩,
 ⟨(some 33), .extract (.t 29) 1, none⟩,
 ⟨(some 5), .new (.agg (set256 fun _ => false)) true none, none⟩,
 ⟨none, .store 256 (.t 5) (.t 32), none⟩,
 ⟨(some 6), .mov (.t 33), none⟩])
 (.seq (.reg [⟨(some 34), .mov (.t 6), none⟩])
 (.cond (.t 34) (.seq (.reg [⟨(some 35), .mov (.t 0), none⟩,
 ⟨(some 36), .call (.k (.func (.func 37) [] [])) [(.t 35), (.t 5)], none⟩,
 ⟨(some 37), .call (.k (.func (.func 66) [] [])) [(.t 36), (.t 5)], none⟩,
 ⟨(some 4), .mov (.t 37), none⟩])
 .ret)
 .skip)))
 (.seq (.reg [⟨(some 38), .mov (.t 0), none⟩,
 ⟨(some 39), .mov (.t 1), none⟩,
 ⟨(some 40), .call (.k (.func (.func 38) [] [])) [(.t 38), (.t 39)], none⟩,
 ⟨(some 41), .mov (.t 1), none⟩,
 ⟨(some 42), .call (.k (.func (.func 67) [] [])) [(.t 40), (.t 41)], none⟩,
 ⟨(some 4), .mov (.t 42), none⟩])
 .ret))))),
 [], false⟩
theorem fn47 : A.fn 47 = some b47 := by kernel_rfl
theorem prim47 : A.prim 47 = none := by kernel_rfl

def digP (k : Nat) : Bool := decide (48 ≤ k) && decide (k ≤ 57)
def digB (c : UInt8) : Bool := digP c.toNat
theorem ten_set : (fun k => ([48, 49, 50, 51, 52, 53, 54, 55, 56, 57] : List UInt8).any fun c => c.toNat == k) = digP := by
  funext k
  rw [Bool.eq_iff_iff]
  simp [digP]
  omega

theorem trim10_call {s : List UInt8} (hs : s.length ≤ 1000000000) {st : St} (hst : StOk st) :
    runL A (.call 47 [.str s, .str [48, 49, 50, 51, 52, 53, 54, 55, 56, 57]]) st = some ⟨.ret, ⟨[.str (trimP digP s)], []⟩, st⟩ := by
  refine (task_of_aw (N := 43) prim47 fn47 rfl rfl hst ?_).1
  intro e he ha K hK
  have a0 := ha 0
  have a1 := ha 1
  clear ha
  simp at a0 a1
  cases s with
  | nil =>
    simp [b47, he, a0, a1]
    exact hK _ _ _ (.inl rfl) (by simp) ⟨_, rfl, by simp [he, trimP, cutL, cutR]⟩
  | cons c s =>
    have hset := set_call (s := [48, 49, 50, 51, 52, 53, 54, 55, 56, 57]) (by decide) (by decide) hst
    rw [ten_set] at hset
    have hr := right_call (p := digP) (s := c :: s) hs (st := st ++ [.cells none (set256 digP)]) (r := st.length) (ty := none) (by simp)
    have hl := left_call (p := digP) (s := cutR digP (c :: s)) (by have := cutR_prefix digP (c :: s); omega) (st := st ++ [.cells none (set256 digP)]) (r := st.length) (ty := none) (by simp)
    simp [b47, he, a0, a1, hset, hr, hl]
    exact hK _ _ _ (.inl rfl) (by simp) ⟨_, rfl, by simp [he, trimP]⟩
end Go.Proofs.YtbmakcjladlaaaaDoor

namespace Go.Proofs.YtbmakcjladlaaaaDoor
open Go Ai

def cutAt (c : UInt8) : List UInt8 → Option (List UInt8 × List UInt8)
  | [] => none
  | b :: l => if b = c then some ([], l) else (cutAt c l).map fun x => (b :: x.1, x.2)
theorem cutAt_none {c : UInt8} : ∀ {s : List UInt8}, cutAt c s = none → Lib.indexByte s c = -1 ∧ c ∉ s
  | [], _ => ⟨rfl, by simp⟩
  | b :: l, h => by
    unfold cutAt at h
    split at h
    · cases h
    · rename_i hb
      have := cutAt_none (s := l) (by simpa using h)
      refine ⟨by simp [Lib.indexByte, hb, this.1], ?_⟩
      simp only [List.mem_cons, not_or]
      exact ⟨fun e => hb e.symm, this.2⟩
theorem cutAt_some {c : UInt8} : ∀ {s x y : List UInt8}, cutAt c s = some (x, y) → Lib.indexByte s c = x.length ∧ s = x ++ c :: y ∧ c ∉ x
  | [], _, _, h => by cases h
  | b :: l, x, y, h => by
    unfold cutAt at h
    split at h
    · rename_i hb
      cases h
      exact ⟨by simp [Lib.indexByte, hb], by simp [hb], by simp⟩
    · rename_i hb
      simp only [Option.map_eq_some_iff] at h
      obtain ⟨⟨x1, y1⟩, h, e⟩ := h
      cases e
      obtain ⟨h1, h2, h3⟩ := cutAt_some h
      have hn : ¬ Lib.indexByte l c = -1 := by rw [h1]; omega
      refine ⟨by simp [Lib.indexByte, hb, h1], by simp [← h2], ?_⟩
      simp only [List.mem_cons, not_or]
      exact ⟨fun e => hb e.symm, h3⟩

theorem prim64 : A.prim 64 = some (pureP indexOneA) := rfl
theorem fn46 : A.fn 46 = some a46 := by kernel_rfl
theorem prim46 : A.prim 46 = none := by kernel_rfl
theorem fn29 : A.fn 29 = some a29 := by kernel_rfl
theorem prim29 : A.prim 29 = none := by kernel_rfl
theorem fn45 : A.fn 45 = some a45 := by kernel_rfl
theorem prim45 : A.prim 45 = none := by kernel_rfl
theorem fn28 : A.fn 28 = some a28 := by kernel_rfl
theorem prim28 : A.prim 28 = none := by kernel_rfl
theorem fn21 : A.fn 21 = some a21 := by kernel_rfl
theorem prim21 : A.prim 21 = none := by kernel_rfl
theorem fn30 : A.fn 30 = some a30 := by kernel_rfl
theorem prim30 : A.prim 30 = none := by kernel_rfl
theorem fn22 : A.fn 22 = some a22 := by kernel_rfl
theorem prim22 : A.prim 22 = none := by kernel_rfl

theorem index_call {s : List UInt8} {c : UInt8} {st : St} : runL A (.call 64 [.str s, .str [c]]) st = some ⟨.ret, ⟨[.int .i64 (Lib.indexByte s c)], []⟩, st⟩ :=
  runL_pure prim64 rfl

def cutAv (c : UInt8) (s : List UInt8) : AV := match cutAt c s with
  | none => .tup [.str s, .str [], .bool false]
  | some (x, y) => .tup [.str x, .str y, .bool true]
theorem cut46_call {s : List UInt8} {c : UInt8} (hs : s.length ≤ 1000000000) {st : St} (hst : StOk st) :
    runL A (.call 46 [.str s, .str [c]]) st = some ⟨.ret, ⟨[cutAv c s], []⟩, st⟩ := by
  refine (task_of_aw (N := 23) prim46 fn46 rfl rfl hst ?_).1
  intro e he ha K hK
  have a0 := ha 0
  have a1 := ha 1
  clear ha
  simp at a0 a1
  have hi := index_call (s := s) (c := c) (st := st)
  cases hc : cutAt c s with
  | none =>
    obtain ⟨h1, _⟩ := cutAt_none hc
    rw [h1] at hi
    simp [a46, he, a0, a1, hi]
    exact hK _ _ _ (.inl rfl) (by simp) ⟨_, rfl, by simp [he, cutAv, hc, AV.still, AV.stills]⟩
  | some p =>
    obtain ⟨x, y⟩ := p
    obtain ⟨h1, h2, _⟩ := cutAt_some hc
    rw [h1] at hi
    have hl : x.length + 1 + y.length = s.length := by rw [h2]; simp; omega
    have hl' : x.length ≤ s.length := by omega
    have hl1 : x.length + 1 ≤ s.length := by omega
    have hl1' : (x.length : Int) + 1 ≤ (s.length : Int) := by omega
    have hp : (0 : Int) ≤ (x.length : Int) + 1 := by omega
    have w1 : IntKind.i64.wrap ((x.length : Int) + 1) = (x.length : Int) + 1 := wrap_i64 (by omega) (by omega)
    have ht : ((x.length : Int) + 1).toNat = x.length + 1 := by omega
    have e1 : s.take x.length = x := by rw [h2]; simp
    have e2 : s.drop (x.length + 1) = y := by rw [h2, ← List.drop_drop]; simp
    simp [a46, he, a0, a1, hi, bound, hl', hl1, hl1', hp, w1, ht, e1, e2]
    exact hK _ _ _ (.inl rfl) (by simp) ⟨_, rfl, by simp [he, cutAv, hc, AV.still, AV.stills]⟩

theorem cut_call {s : List UInt8} {c : UInt8} (hs : s.length ≤ 1000000000) {st : St} (hst : StOk st) :
    runL A (.call 29 [.str s, .str [c]]) st = some ⟨.ret, ⟨[cutAv c s], []⟩, st⟩ := by
  refine (task_of_aw (N := 13) prim29 fn29 rfl rfl hst ?_).1
  intro e he ha K hK
  have a0 := ha 0
  have a1 := ha 1
  clear ha
  simp at a0 a1
  have hi := cut46_call (c := c) hs hst
  cases hc : cutAt c s with
  | none =>
    simp [cutAv, hc] at hi
    simp [a29, he, a0, a1, hi]
    exact hK _ _ _ (.inl rfl) (by simp) ⟨_, rfl, by simp [he, cutAv, hc, AV.still, AV.stills]⟩
  | some p =>
    obtain ⟨x, y⟩ := p
    simp [cutAv, hc] at hi
    simp [a29, he, a0, a1, hi]
    exact hK _ _ _ (.inl rfl) (by simp) ⟨_, rfl, by simp [he, cutAv, hc, AV.still, AV.stills]⟩

def pre1 (c : UInt8) : List UInt8 → Bool
  | [] => false
  | b :: _ => decide (b = c)
theorem pre_call {s : List UInt8} {c : UInt8} {st : St} (hst : StOk st) :
    runL A (.call 45 [.str s, .str [c]]) st = some ⟨.ret, ⟨[.bool (pre1 c s)], []⟩, st⟩ := by
  refine (task_of_aw (N := 18) prim45 fn45 rfl rfl hst ?_).1
  intro e he ha K hK
  have a0 := ha 0
  have a1 := ha 1
  clear ha
  simp at a0 a1
  cases s with
  | nil =>
    simp [a45, he, a0, a1]
    exact hK _ _ _ (.inl rfl) (by simp) ⟨_, rfl, by simp [he, pre1, AV.still, AV.stills]⟩
  | cons b s =>
    have h1 : (1 : Int) ≤ (s.length : Int) + 1 := by omega
    simp [a45, he, a0, a1, bound, h1]
    exact hK _ _ _ (.inl rfl) (by simp) ⟨_, rfl, by simp [he, pre1, AV.still, AV.stills]⟩
def preAv (c : UInt8) (s : List UInt8) : AV := if pre1 c s then .tup [.str s.tail, .bool true] else .tup [.str s, .bool false]
theorem cutPre_call {s : List UInt8} {c : UInt8} {st : St} (hst : StOk st) :
    runL A (.call 21 [.str s, .str [c]]) st = some ⟨.ret, ⟨[preAv c s], []⟩, st⟩ := by
  have h28 : runL A (.call 28 [.str s, .str [c]]) st = some ⟨.ret, ⟨[preAv c s], []⟩, st⟩ := by
    refine (task_of_aw (N := 15) prim28 fn28 rfl rfl hst ?_).1
    intro e he ha K hK
    have a0 := ha 0
    have a1 := ha 1
    clear ha
    simp at a0 a1
    have hp := pre_call (s := s) (c := c) hst
    cases hc : pre1 c s with
    | false =>
      rw [hc] at hp
      simp [a28, he, a0, a1, hp]
      exact hK _ _ _ (.inl rfl) (by simp) ⟨_, rfl, by simp [he, preAv, hc, AV.still, AV.stills]⟩
    | true =>
      rw [hc] at hp
      have h1 : (1 : Int) ≤ (s.length : Int) := by cases s with
        | nil => cases hc
        | cons => simp; omega
      simp [a28, he, a0, a1, hp, bound, h1]
      exact hK _ _ _ (.inl rfl) (by simp) ⟨_, rfl, by simp [he, preAv, hc, AV.still, AV.stills]⟩
  refine (task_of_aw (N := 11) prim21 fn21 rfl rfl hst ?_).1
  intro e he ha K hK
  have a0 := ha 0
  have a1 := ha 1
  clear ha
  simp at a0 a1
  cases hc : pre1 c s with
  | false =>
    simp [preAv, hc] at h28
    simp [a21, he, a0, a1, h28]
    exact hK _ _ _ (.inl rfl) (by simp) ⟨_, rfl, by simp [he, preAv, hc, AV.still, AV.stills]⟩
  | true =>
    simp [preAv, hc] at h28
    simp [a21, he, a0, a1, h28]
    exact hK _ _ _ (.inl rfl) (by simp) ⟨_, rfl, by simp [he, preAv, hc, AV.still, AV.stills]⟩

def okD (s : List UInt8) (n : Nat) : Bool := decide (1 ≤ s.length) && decide (s.length ≤ n) && s.all digB
theorem digits_call {s : List UInt8} {n : Nat} (hs : s.length ≤ 1000000000) {st : St} (hst : StOk st) :
    runL A (.call 30 [.str s, .int .i64 n]) st = some ⟨.ret, ⟨[.bool (okD s n)], []⟩, st⟩ := by
  refine (task_of_aw (N := 19) prim30 fn30 rfl rfl hst ?_).1
  intro e he ha K hK
  have a0 := ha 0
  have a1 := ha 1
  clear ha
  simp at a0 a1
  by_cases h1 : 1 ≤ s.length
  · have h1' : (1 : Int) ≤ (s.length : Int) := by omega
    by_cases h2 : s.length ≤ n
    · have ht := trim10_call hs hst
      have h2' : (s.length : Int) ≤ (n : Int) := by omega
      have hz : decide (trimP digP s = []) = s.all digB := by
        rw [Bool.eq_iff_iff, decide_eq_true_iff, trimP_nil]; rfl
      simp [a30, he, a0, a1, h1, h1', h2, h2', ht, hz]
      exact hK _ _ _ (.inl rfl) (by simp) ⟨_, rfl, by simp [he, okD, h1, h2, AV.still, AV.stills]⟩
    · have h2' : ¬ (s.length : Int) ≤ (n : Int) := by omega
      simp [a30, he, a0, a1, h1, h1', h2, h2']
      exact hK _ _ _ (.inl rfl) (by simp) ⟨_, rfl, by simp [he, okD, h1, h2, AV.still, AV.stills]⟩
  · have h1' : ¬ (1 : Int) ≤ (s.length : Int) := by omega
    simp [a30, he, a0, a1, h1, h1']
    exact hK _ _ _ (.inl rfl) (by simp) ⟨_, rfl, by simp [he, okD, h1, AV.still, AV.stills]⟩

def okA (x : List UInt8) : Bool := okD x 10 && !(decide (1 < x.length) && decide (x.head? = some 48))
def partsAv (s : List UInt8) : Option (List UInt8 × List UInt8) := match cutAt 46 s with
  | none => if okA s then some (s, []) else none
  | some (x, y) => if okA x && okD y 40 then some (x, y) else none
def partsV : Option (List UInt8 × List UInt8) → AV
  | none => .tup [.str [], .str [], .bool false]
  | some (x, y) => .tup [.str x, .str y, .bool true]
set_option maxHeartbeats 1000000 in
theorem parts_call {s : List UInt8} (hs : s.length ≤ 1000000000) {st : St} (hst : StOk st) :
    runL A (.call 22 [.str s]) st = some ⟨.ret, ⟨[partsV (partsAv s)], []⟩, st⟩ := by
  refine (task_of_aw (N := 37) prim22 fn22 rfl rfl hst ?_).1
  intro e he ha K hK
  have a0 := ha 0
  clear ha
  simp at a0
  have hcut := cut_call (c := 46) hs hst
  have key : ∀ x y : List UInt8, ∀ p : Bool, x.length ≤ 1000000000 → y.length ≤ 1000000000 → cutAv 46 s = .tup [.str x, .str y, .bool p] →
      partsAv s = (if okA x && (!p || okD y 40) then some (x, y) else none) → AW A 22 none a22.body e [] st K := by
    intro x y p hx hy hc hv
    rw [hc] at hcut
    have hd := digits_call (n := 10) hx hst
    have hd2 := digits_call (n := 40) hy hst
    simp at hd hd2
    have fin : ∀ e' : Env, (∃ vs, resultsA st e' a22.results = some vs ∧ oneOf vs = partsV (if okA x && (!p || okD y 40) then some (x, y) else none)) → K .ret e' [] st := by
      rintro e' ⟨vs, h1, h2⟩
      refine hK _ _ _ (.inl rfl) (by simp) ⟨vs, h1, ?_⟩
      rw [h2, hv]
      split <;> simp [partsV, AV.still, AV.stills]
    cases hdd : okD x 10 with
    | false =>
      rw [hdd] at hd
      have hoa : okA x = false := by simp [okA, hdd]
      simp [a22, he, a0, hcut, hd]
      exact fin _ ⟨_, rfl, by simp [he, hoa, partsV]⟩
    | true =>
      rw [hdd] at hd
      have hx1 : 1 ≤ x.length := by simp [okD] at hdd; exact hdd.1.1
      cases x with
      | nil => simp at hx1
      | cons b x =>
        by_cases hx0 : x = []
        · subst hx0
          have hoa : okA [b] = true := by simp [okA, hdd]
          cases p with
          | false =>
            simp [a22, he, a0, hcut, hd]
            exact fin _ ⟨_, rfl, by simp [he, hoa, partsV]⟩
          | true =>
            cases hd3 : okD y 40 with
            | false =>
              rw [hd3] at hd2
              simp [a22, he, a0, hcut, hd, hd2]
              exact fin _ ⟨_, rfl, by simp [he, hoa, hd3, partsV]⟩
            | true =>
              rw [hd3] at hd2
              simp [a22, he, a0, hcut, hd, hd2]
              exact fin _ ⟨_, rfl, by simp [he, hoa, hd3, partsV]⟩
        · have hx2 : 0 < x.length := List.length_pos_iff.2 hx0
          have hx3 : (1 : Int) < (x.length : Int) + 1 := by omega
          by_cases hb : b = 48
          · subst hb
            have hoa : okA (48 :: x) = false := by simp [okA, hdd, hx2]
            simp [a22, he, a0, hcut, hd, hx2, hx3, byteV]
            exact fin _ ⟨_, rfl, by simp [he, hoa, partsV]⟩
          · have hoa : okA (b :: x) = true := by simp [okA, hdd, hb]
            have hb' : ¬ b.toNat = 48 := fun h => hb (UInt8.toNat_inj.1 h)
            have hb'' : ¬ (b.toNat : Int) = 48 := by omega
            cases p with
            | false =>
              simp [a22, he, a0, hcut, hd, hx2, hx3, byteV, hb, hb', hb'']
              exact fin _ ⟨_, rfl, by simp [he, hoa, partsV]⟩
            | true =>
              cases hd3 : okD y 40 with
              | false =>
                rw [hd3] at hd2
                simp [a22, he, a0, hcut, hd, hd2, hx2, hx3, byteV, hb, hb', hb'']
                exact fin _ ⟨_, rfl, by simp [he, hoa, hd3, partsV]⟩
              | true =>
                rw [hd3] at hd2
                simp [a22, he, a0, hcut, hd, hd2, hx2, hx3, byteV, hb, hb', hb'']
                exact fin _ ⟨_, rfl, by simp [he, hoa, hd3, partsV]⟩
  cases hc : cutAt 46 s with
  | none => exact key s [] false hs (by simp) (by simp [cutAv, hc]) (by simp [partsAv, hc])
  | some p =>
    obtain ⟨x, y⟩ := p
    obtain ⟨_, h2, _⟩ := cutAt_some hc
    have hl : x.length + 1 + y.length = s.length := by rw [h2]; simp; omega
    exact key x y true (by omega) (by omega) (by simp [cutAv, hc]) (by simp [partsAv, hc])
end Go.Proofs.YtbmakcjladlaaaaDoor

namespace Go.Proofs.YtbmakcjladlaaaaDoor
open Go Ai

def decN (l : List UInt8) : Nat := l.foldl (fun n c => 10 * n + (c.toNat - 48)) 0
theorem decN_snoc (l : List UInt8) (c : UInt8) : decN (l ++ [c]) = 10 * decN l + (c.toNat - 48) := by simp [decN]
theorem digB_iff {c : UInt8} : digB c = true ↔ 48 ≤ c.toNat ∧ c.toNat ≤ 57 := by simp [digB, digP]
theorem decN_lt : ∀ (n : Nat) (l : List UInt8), l.length = n → (∀ c ∈ l, digB c = true) → decN l < 10 ^ n
  | 0, l, h, _ => by
    have : l = [] := List.eq_nil_of_length_eq_zero h
    subst this; simp [decN]
  | n + 1, l, h, hd => by
    rcases List.eq_nil_or_concat l with rfl | ⟨l', c, rfl⟩
    · simp at h
    · rw [List.concat_eq_append] at *
      have h1 := decN_lt n l' (by simpa using h) fun c hc => hd c (by simp [hc])
      have h2 := digB_iff.1 (hd c (by simp))
      rw [decN_snoc, Nat.pow_succ]; omega

theorem fn42 : A.fn 42 = some a42 := by kernel_rfl
theorem prim42 : A.prim 42 = none := by kernel_rfl
theorem fn26 : A.fn 26 = some a26 := by kernel_rfl
theorem prim26 : A.prim 26 = none := by kernel_rfl
def w42_0 : List Nat := a42_0.writes

set_option maxHeartbeats 1000000 in
theorem uint_call {s : List UInt8} (hs : okD s 10 = true) {st : St} (hst : StOk st) :
    runL A (.call 42 [.str s, .int .i64 10, .int .i64 64]) st = some ⟨.ret, ⟨[.tup [.int .u64 (decN s), .nilIface]], []⟩, st⟩ := by
  refine (task_of_aw (N := 172) prim42 fn42 rfl rfl hst ?_).1
  intro e he ha K hK
  have a0 := ha 0
  have a1 := ha 1
  have a2 := ha 2
  clear ha
  simp at a0 a1 a2
  simp only [okD, Bool.and_eq_true, decide_eq_true_eq, List.all_eq_true] at hs
  obtain ⟨⟨hs1, hs2⟩, hs3⟩ := hs
  have hne : ¬ s = [] := by intro h; subst h; simp at hs1
  have w64 : IntKind.u64.wrap 64 = 64 := by decide
  have wsh : shiftOp .shl .u64 1 64 = some (.int .u64 0) := by rfl
  have wm1 : IntKind.u64.wrap (-1) = 18446744073709551615 := by decide
  simp [a42, he, a0, a1, a2, hne, w64, wsh, wm1]
  refine aw_loop (W := w42_0) rfl (fun m e ds st' => ds = [] ∧ st' = st ∧ ∃ i : Nat, i + m = s.length ∧ AX.ev e (.t 101) = .int .i64 i ∧ AX.ev e (.t 12) = .bool false ∧ AX.ev e (.t 13) = .int .u64 (decN (s.take i))) s.length
    ⟨rfl, rfl, 0, by simp, by simp [he], by simp [he], by simp [he, decN]⟩ ?_
  rintro m e1 ds st' hs' ⟨rfl, rfl, i, hm, g101, g12, g13⟩ K1 kn kx
  have he1 : e1.length = 172 := by simp [hs'.1, he]
  have g1 := hs'.ev 1 rfl (v := .int .i64 10) (by simp [he, a1])
  have g8 := hs'.ev 8 rfl (v := .bool false) (by simp [he])
  have g10 := hs'.ev 10 rfl (v := .int .u64 1844674407370955162) (by simp [he])
  have g11 := hs'.ev 11 rfl (v := .int .u64 18446744073709551615) (by simp [he])
  have g99 := hs'.ev 99 rfl (v := .lst 1 (s.map byteV) .no) (by simp [he])
  have g100 := hs'.ev 100 rfl (v := .int .i64 s.length) (by simp [he])
  cases m with
  | zero =>
    have : i = s.length := by omega
    subst this
    rw [List.take_length] at g13
    simp [a42_0, g100, g101, he1]
    refine kx _ _ _ _ nofun fun hs' => ?_
    simp [g12, g13, he1]
    exact hK _ _ _ (.inl rfl) (by simp) ⟨_, rfl, by simp [he1, g13, AV.still, AV.stills]⟩
  | succ m =>
    have hi : i < s.length := by omega
    have hi' : (i : Int) < (s.length : Int) := by omega
    have hin : ¬ (i : Int) < 0 := by omega
    have hc := digB_iff.1 (hs3 _ (List.getElem_mem hi))
    obtain ⟨d, hd⟩ : ∃ d : Nat, s[i].toNat = 48 + d := ⟨s[i].toNat - 48, by omega⟩
    have hd9 : d ≤ 9 := by omega
    obtain ⟨n, hn⟩ : ∃ n : Nat, n = decN (s.take i) := ⟨_, rfl⟩
    have hn10 : n < 10 ^ 9 := by
      have h1 := decN_lt i (s.take i) (by simp; omega) fun c hc => hs3 c (List.mem_of_mem_take hc)
      have h2 : (10 : Nat) ^ i ≤ 10 ^ 9 := Nat.pow_le_pow_right (by decide) (by omega)
      omega
    have hn1 : decN (s.take (i + 1)) = 10 * n + d := by
      have ht : s.take (i + 1) = s.take i ++ [s[i]] := by simp
      rw [ht, decN_snoc, ← hn, hd]; omega
    have w1 : IntKind.u8.wrap (48 + (d : Int) - 48) = (d : Int) := by rw [wrap_u8 (by omega) (by omega)]; omega
    have w2 : IntKind.u8.wrap 10 = 10 := by decide
    have w3 : IntKind.u64.wrap 10 = 10 := by decide
    have w4 : IntKind.u64.wrap ((n : Int) * 10) = ((n * 10 : Nat) : Int) := by rw [wrap_u64 (by omega) (by omega)]; simp
    have w5 : IntKind.u64.wrap (d : Int) = (d : Int) := wrap_u64 (by omega) (by omega)
    have w6 : IntKind.u64.wrap ((n : Int) * 10 + (d : Int)) = ((10 * n + d : Nat) : Int) := by rw [wrap_u64 (by omega) (by omega)]; simp; omega
    have w7 : IntKind.i64.wrap ((i : Int) + 1) = (i : Int) + 1 := wrap_i64 (by omega) (by omega)
    have c1 : ¬ (48 + d = 95) := by omega
    have c1' : ¬ ((48 : Int) + (d : Int) = 95) := by omega
    have c2 : (48 : Int) ≤ 48 + (d : Int) := by omega
    have c3 : (48 : Int) + (d : Int) ≤ 57 := by omega
    have c4 : ¬ (10 : Int) ≤ (d : Int) := by omega
    have c5 : ¬ (1844674407370955162 : Int) ≤ (n : Int) := by omega
    have c6 : ¬ (10 * (n : Int) + (d : Int) < (n : Int) * 10) := by omega
    have c7 : ¬ ((18446744073709551615 : Int) < 10 * (n : Int) + (d : Int)) := by omega
    rw [← hn] at g13
    simp [a42_0, g1, g8, g10, g11, g12, g13, g99, g100, g101, he1, hi, hi', hin, byteV, hd, w1, w2, w3, w4, w5, w6, w7, c1, c1', c2, c3, c4, c5, c6, c7]
    exact kn m _ _ _ (by omega) ⟨rfl, rfl, i + 1, by omega, by simp [he1], by simp [he1, g12], by simp [he1, hn1]⟩

theorem parseUint_call {s : List UInt8} (hs : okD s 10 = true) {st : St} (hst : StOk st) :
    runL A (.call 26 [.str s, .int .i64 10, .int .i64 64]) st = some ⟨.ret, ⟨[.tup [.int .u64 (decN s), .nilIface]], []⟩, st⟩ := by
  refine (task_of_aw (N := 26) prim26 fn26 rfl rfl hst ?_).1
  intro e he ha K hK
  have a0 := ha 0
  have a1 := ha 1
  have a2 := ha 2
  clear ha
  simp at a0 a1 a2
  have h42 := uint_call hs hst
  simp [a26, he, a0, a1, a2, h42]
  exact hK _ _ _ (.inl rfl) (by simp) ⟨_, rfl, by simp [he, AV.still, AV.stills]⟩

/-! The doubling of digits behind a point. -/
def dbl : List Nat → Nat × List Nat
  | [] => (0, [])
  | d :: l => ((2 * d + (dbl l).1) / 10, (2 * d + (dbl l).1) % 10 :: (dbl l).2)
theorem dbl_length : ∀ l, (dbl l).2.length = l.length
  | [] => rfl
  | d :: l => by simp [dbl, dbl_length l]
theorem dbl_lt : ∀ l : List Nat, ∀ d ∈ (dbl l).2, d < 10
  | [], d, h => by simp [dbl] at h
  | x :: l, d, h => by
    simp only [dbl, List.mem_cons] at h
    rcases h with rfl | h
    · exact Nat.mod_lt _ (by decide)
    · exact dbl_lt l d h
theorem dbl_carry : ∀ l : List Nat, (∀ d ∈ l, d < 10) → (dbl l).1 ≤ 1
  | [], _ => by simp [dbl]
  | x :: l, h => by
    have h1 := dbl_carry l fun d hd => h d (by simp [hd])
    have h2 := h x (by simp)
    simp only [dbl]; omega
def dv (d : Nat) : AV := .int .u8 (48 + d : Nat)
theorem dv_cell (l : List Nat) : (∀ x, x ∈ l.map dv → x.isCell = true) = True := eq_true (by simp [dv, AV.isCell])

theorem fn44 : A.fn 44 = some a44 := by kernel_rfl
theorem prim44 : A.prim 44 = none := by kernel_rfl
def w44_0 : List Nat := a44_0.writes

set_option maxHeartbeats 1000000 in
theorem double_call {l : List Nat} (hl : l.length ≤ 1000) (hd : ∀ d ∈ l, d < 10) {st : St} {r j : Nat} {ty tj : Option TypeId} (hr : st[r]? = some (.cells ty [.sl j 1 0 l.length none])) (hj : st[j]? = some (.cells tj (l.map dv))) (hrj : j ≠ r) :
    runL A (.call 44 [.ptr r 0]) st = some ⟨.ret, ⟨[.int .i64 (dbl l).1], []⟩, st.set j (.cells tj ((dbl l).2.map dv))⟩ := by
  refine (task_of_aw_keep (N := 30) prim44 fn44 rfl rfl ?_).1
  intro e he ha K hK
  have a0 := ha 0
  clear ha
  simp at a0
  have w0 : IntKind.i64.wrap ((l.length : Int) - 1) = (l.length : Int) - 1 := wrap_i64 (by omega) (by omega)
  simp [a44, he, a0, hr, takeVar, w0]
  refine aw_loop (W := w44_0) rfl (fun m e ds st' => ds = [] ∧ m ≤ l.length ∧ st' = st.set j (.cells tj ((l.take m ++ (dbl (l.drop m)).2).map dv)) ∧ AX.ev e (.t 3) = .int .i64 ((m : Int) - 1) ∧ AX.ev e (.t 2) = .int .u8 (dbl (l.drop m)).1) l.length
    ⟨rfl, Nat.le_refl _, ?_, by simp [he], by simp [he, dbl]⟩ ?_
  · have : (l.take l.length ++ (dbl (l.drop l.length)).2) = l := by simp [dbl]
    rw [this]
    apply List.ext_getElem?
    intro i
    rw [List.getElem?_set]
    split
    · rename_i h; subst h; rw [hj, if_pos (List.getElem?_eq_some_iff.1 hj).1]
    · rfl
  rintro m e1 ds st' hs' ⟨rfl, hml, rfl, g3, g2⟩ K1 kn kx
  have he1 : e1.length = 30 := by simp [hs'.1, he]
  have g0 := hs'.ev 0 rfl (v := .ptr r 0) (by simp [a0])
  have hjl := (List.getElem?_eq_some_iff.1 hj).1
  have hrl := (List.getElem?_eq_some_iff.1 hr).1
  have hr' : ∀ x : AObj, (st.set j x)[r]? = some (.cells ty [.sl j 1 0 l.length none]) := fun x => by rw [List.getElem?_set_ne hrj]; exact hr
  cases m with
  | zero =>
    simp at g2 g3
    have hc := dbl_carry l hd
    have w1 : IntKind.i64.wrap ((dbl l).1 : Int) = ((dbl l).1 : Int) := wrap_i64 (by omega) (by omega)
    simp [a44_0, g3, he1]
    refine kx _ _ _ _ nofun fun hs' => ?_
    simp [g2, he1, w1]
    exact hK _ _ (.inl rfl) ⟨_, rfl, by simp [he1]⟩
  | succ m =>
    have hm : m < l.length := by omega
    have hc := dbl_carry (l.drop (m + 1)) fun d hdd => hd d (List.mem_of_mem_drop hdd)
    obtain ⟨c, hcc⟩ : ∃ c : Nat, c = (dbl (l.drop (m + 1))).1 := ⟨_, rfl⟩
    have hx := hd _ (List.getElem_mem hm)
    obtain ⟨x, hxx⟩ : ∃ x : Nat, x = l[m] := ⟨_, rfl⟩
    have hdr : l.drop m = x :: l.drop (m + 1) := by rw [hxx]; exact List.drop_eq_getElem_cons hm
    have htk : l.take (m + 1) = l.take m ++ [x] := by rw [hxx]; simp
    rw [← hcc] at hc g2
    rw [← hxx] at hx
    have g3' : AX.ev e1 (.t 3) = .int .i64 (m : Int) := by rw [g3]; congr 1; omega
    have hdb1 : (dbl (l.drop m)).1 = (2 * x + c) / 10 := by rw [hdr, hcc]; rfl
    have hdb2 : (dbl (l.drop m)).2 = (2 * x + c) % 10 :: (dbl (l.drop (m + 1))).2 := by rw [hdr, hcc]; rfl
    have hlen2 := dbl_length (l.drop (m + 1))
    obtain ⟨t, ht⟩ : ∃ t, t = (dbl (l.drop (m + 1))).2 := ⟨_, rfl⟩
    rw [← ht] at hdb2 hlen2
    rw [htk, ← ht]
    have hgx : (List.map dv (List.take m l ++ [x] ++ t))[m]? = some (dv x) := by
      rw [List.getElem?_map, List.append_assoc, List.getElem?_append_right (by simp; omega)]
      simp [Nat.min_eq_left (Nat.le_of_lt hm)]
    have hset : (List.map dv (List.take m l ++ [x] ++ t)).set m (dv ((2 * x + c) % 10)) = List.map dv (List.take m l ++ (dbl (l.drop m)).2) := by
      rw [hdb2, List.append_assoc, List.map_append, List.map_append, List.set_append]
      simp [Nat.min_eq_left (Nat.le_of_lt hm)]
    have hlen : (List.map dv (List.take m l ++ [x] ++ t)).length = l.length := by simp [hlen2]; omega
    obtain ⟨cs, hcs⟩ : ∃ cs, cs = List.map dv (List.take m l ++ [x] ++ t) := ⟨_, rfl⟩
    rw [← hcs] at hgx hset hlen ⊢
    have w1 : IntKind.u8.wrap (48 + (x : Int) - 48) = (x : Int) := by rw [wrap_u8 (by omega) (by omega)]; omega
    have w2 : IntKind.u8.wrap (2 * (x : Int)) = ((2 * x : Nat) : Int) := by rw [wrap_u8 (by omega) (by omega)]; simp
    have w3 : IntKind.u8.wrap (2 * (x : Int) + (c : Int)) = ((2 * x + c : Nat) : Int) := by rw [wrap_u8 (by omega) (by omega)]; simp
    obtain ⟨y, hy⟩ : ∃ y : Nat, y = 2 * x + c := ⟨_, rfl⟩
    rw [← hy] at hdb1 hdb2 hset w3
    have w4 : IntKind.u8.wrap ((y : Int).tdiv 10) = ((y / 10 : Nat) : Int) := by rw [Int.tdiv_eq_ediv_of_nonneg (by omega), wrap_u8 (by omega) (by omega)]; simp
    have w4' : IntKind.u8.wrap ((y : Int) / 10) = ((y / 10 : Nat) : Int) := by rw [wrap_u8 (by omega) (by omega)]; simp
    have w5 : IntKind.u8.wrap (48 + (y : Int) % 10) = ((48 + y % 10 : Nat) : Int) := by rw [wrap_u8 (by omega) (by omega)]; simp
    have w6 : IntKind.i64.wrap ((m : Int) - 1) = (m : Int) - 1 := wrap_i64 (by omega) (by omega)
    have hdvx : dv x = .int .u8 (48 + (x : Int)) := by simp [dv]
    have hdvy : AV.int .u8 ((48 + y % 10 : Nat) : Int) = dv (y % 10) := rfl
    have hml' : (m : Int) < (l.length : Int) := by omega
    have hmn : ¬ (m : Int) < 0 := by omega
    have hm1 : m + 1 ≤ l.length := by omega
    rw [hdvx] at hgx
    have hgx' : cs[m]'(by omega) = .int .u8 (48 + (x : Int)) := by
      have := List.getElem?_eq_some_iff.1 hgx
      exact this.2
    have hset' : cs.set m (.int .u8 (48 + (y : Int) % 10)) = List.map dv (List.take m l ++ (dbl (List.drop m l)).2) := by
      rw [← hset]; simp [dv]
    simp [a44_0, g0, g2, g3', he1, hr', hjl, takeVar, w1, w2, w3, w4, w4', w5, w6, hml', hmn, hm, hm1, hlen, putCells, hgx', hset']
    exact kn m _ _ _ (by omega) ⟨rfl, by omega, by simp, by simp [he1], by simp [he1, hdb1]⟩

/-- So many bits of what stands behind a point, behind what there is. -/
def fracN : Nat → List Nat → Nat → Nat
  | 0, _, u => u
  | k + 1, l, u => fracN k (dbl l).2 (2 * u + (dbl l).1)
theorem fracN_lt : ∀ (k : Nat) (l : List Nat) (u n : Nat), (∀ d ∈ l, d < 10) → u < 2 ^ n → fracN k l u < 2 ^ (n + k)
  | 0, _, _, _, _, h => h
  | k + 1, l, u, n, hd, h => by
    have h1 := dbl_carry l hd
    have := fracN_lt k (dbl l).2 (2 * u + (dbl l).1) (n + 1) (dbl_lt l) (by rw [Nat.pow_succ]; omega)
    rw [fracN, show n + (k + 1) = n + 1 + k by omega]; exact this
theorem or_low {a b k : Nat} (hb : b < 2 ^ k) (h : a * 2 ^ k + b < 9223372036854775808) :
    IntKind.i64.wrap ((BitVec.ofInt IntKind.i64.bits (a * 2 ^ k : Nat) ||| BitVec.ofInt IntKind.i64.bits (b : Int)).toNat : Int) = ((a * 2 ^ k + b : Nat) : Int) := by
  have h1 : (BitVec.ofInt IntKind.i64.bits ((a * 2 ^ k : Nat) : Int)).toNat = a * 2 ^ k := by
    simp only [IntKind.bits, BitVec.toNat_ofInt]; omega
  have h2 : (BitVec.ofInt IntKind.i64.bits (b : Int)).toNat = b := by
    simp only [IntKind.bits, BitVec.toNat_ofInt]; omega
  rw [BitVec.toNat_or, h1, h2, Nat.mul_comm, ← Nat.two_pow_add_eq_or_of_lt hb, Nat.mul_comm]
  exact wrap_i64 (by omega) (by omega)
theorem or_low64 {a b k : Nat} (hb : b < 2 ^ k) (h : a * 2 ^ k + b < 18446744073709551616) :
    IntKind.u64.wrap ((BitVec.ofInt IntKind.u64.bits (a * 2 ^ k : Nat) ||| BitVec.ofInt IntKind.u64.bits (b : Int)).toNat : Int) = ((a * 2 ^ k + b : Nat) : Int) := by
  have h1 : (BitVec.ofInt IntKind.u64.bits ((a * 2 ^ k : Nat) : Int)).toNat = a * 2 ^ k := by
    simp only [IntKind.bits, BitVec.toNat_ofInt]; omega
  have h2 : (BitVec.ofInt IntKind.u64.bits (b : Int)).toNat = b := by
    simp only [IntKind.bits, BitVec.toNat_ofInt]; omega
  rw [BitVec.toNat_or, h1, h2, Nat.mul_comm, ← Nat.two_pow_add_eq_or_of_lt hb, Nat.mul_comm]
  exact wrap_u64 (by omega) (by omega)

def digsOf (s : List UInt8) : List Nat := s.map fun c => c.toNat - 48
theorem fn27 : A.fn 27 = some a27 := by kernel_rfl
theorem prim27 : A.prim 27 = none := by kernel_rfl
def w27_0 : List Nat := a27_0.writes

set_option maxHeartbeats 1000000 in
theorem fraction_call {s : List UInt8} (hs : s.length ≤ 100) (hd : ∀ c ∈ s, digB c = true) {st : St} (hst : StOk st) :
    runL A (.call 27 [.str s]) st = some ⟨.ret, ⟨[.int .i64 (fracN 32 (digsOf s) 0)], []⟩, st⟩ := by
  refine (task_of_aw (N := 18) prim27 fn27 rfl rfl hst ?_).1
  intro e he ha K hK
  have a0 := ha 0
  clear ha
  simp at a0
  have hmap : s.map byteV = (digsOf s).map dv := by
    rw [digsOf, List.map_map]
    refine List.map_congr_left fun c hc => ?_
    have := digB_iff.1 (hd c hc)
    simp only [byteV, dv, Function.comp]
    congr 1; omega
  have hlen : s.length = (digsOf s).length := by simp [digsOf]
  have hdl : ∀ d ∈ digsOf s, d < 10 := by
    intro d hdd
    simp only [digsOf, List.mem_map] at hdd
    obtain ⟨c, hc, rfl⟩ := hdd
    have := digB_iff.1 (hd c hc)
    omega
  obtain ⟨l0, hl0⟩ : ∃ l0, l0 = digsOf s := ⟨_, rfl⟩
  rw [← hl0] at hmap hlen hdl hK
  simp [a27, he, a0, hmap, AV.cells, putCells, AV.isCell]
  refine aw_loop (W := w27_0) rfl (fun m e ds st' => ds = [] ∧ m ≤ 32 ∧ ∃ (l : List Nat) (u : Nat), l.length = l0.length ∧ (∀ d ∈ l, d < 10) ∧ u < 2 ^ (32 - m) ∧ fracN m l u = fracN 32 l0 0 ∧
      st' = st ++ [.cells none (l.map dv), .cells none [.sl st.length 1 0 l0.length none]] ∧ AX.ev e (.t 9) = .int .i64 ((32 - m : Nat) : Int) ∧ AX.ev e (.t 5) = .int .i64 u) 32
    ⟨rfl, Nat.le_refl _, l0, 0, rfl, hdl, by decide, rfl, ?_, by simp [he], by simp [he]⟩ ?_
  · rw [hlen]
  rintro m e1 ds st' hs' ⟨rfl, hm, l, u, hll, hld, hu, hfr, rfl, g9, g5⟩ K1 kn kx
  have he1 : e1.length = 18 := by simp [hs'.1, he]
  have g4 := hs'.ev 4 rfl (v := .func (.func 44) [] [.ptr (st.length + 1) 0]) (by simp [he])
  have hufin : u < 4294967296 := by
    have : (2 : Nat) ^ (32 - m) ≤ 2 ^ 32 := Nat.pow_le_pow_right (by decide) (by omega)
    omega
  cases m with
  | zero =>
    simp [a27_0, g9, he1]
    refine kx _ _ _ _ nofun fun hs' => ?_
    have hfu : fracN 32 l0 0 = u := hfr.symm
    simp [g5, he1]
    exact hK _ _ _ (.inl rfl) (by simp) ⟨_, rfl, by simp [he1, hfu, AV.still, AV.stills]⟩
  | succ m =>
    have hdc := double_call (l := l) (st := st ++ [.cells none (l.map dv), .cells none [.sl st.length 1 0 l0.length none]]) (r := st.length + 1) (j := st.length) (ty := none) (tj := none) (by omega) hld (by simp [hll]) (by simp) (by omega)
    have hc := dbl_carry l hld
    have w1 : IntKind.i64.wrap ((u : Int) * 2) = ((u * 2 ^ 1 : Nat) : Int) := by rw [wrap_i64 (by omega) (by omega)]; simp
    have hu2 : u < 2147483648 := by
      have : (2 : Nat) ^ (32 - (m + 1)) ≤ 2 ^ 31 := Nat.pow_le_pow_right (by decide) (by omega)
      omega
    have wo := or_low (a := u) (b := (dbl l).1) (k := 1) (by omega) (by omega)
    have w2 : IntKind.i64.wrap (((32 - (m + 1) : Nat) : Int) + 1) = ((32 - m : Nat) : Int) := by rw [wrap_i64 (by omega) (by omega)]; omega
    have c1 : ((32 - (m + 1) : Nat) : Int) < 32 := by omega
    have wsh : shiftOp .shl .i64 (u : Int) 1 = some (.int .i64 ((u * 2 ^ 1 : Nat) : Int)) := by
      simp [shiftOp, IntKind.bits]; simpa using w1
    simp at hdc wo wsh
    obtain ⟨q, hq⟩ : ∃ q : Nat, q = 32 - (m + 1) := ⟨_, rfl⟩
    rw [← hq] at g9 c1 w2
    simp [a27_0, g9, g5, g4, he1, c1, hdc, wsh, wo, w2]
    exact kn m _ _ _ (by omega) ⟨rfl, by omega, (dbl l).2, 2 * u + (dbl l).1, by rw [dbl_length]; exact hll, dbl_lt l, by rw [show 32 - m = 32 - (m + 1) + 1 by omega, Nat.pow_succ]; omega, by rw [← hfr]; rfl, by simp, by simp [he1], by simp [he1]; omega⟩
end Go.Proofs.YtbmakcjladlaaaaDoor

namespace Go.Proofs.YtbmakcjladlaaaaDoor
open Go Ai

theorem fn20 : A.fn 20 = some a20 := by kernel_rfl
theorem prim20 : A.prim 20 = none := by kernel_rfl
theorem fn13 : A.fn 13 = some a13 := by kernel_rfl
theorem prim13 : A.prim 13 = none := by kernel_rfl
theorem fn14 : A.fn 14 = some a14 := by kernel_rfl
theorem prim14 : A.prim 14 = none := by kernel_rfl
theorem fn15 : A.fn 15 = some a15 := by kernel_rfl
theorem prim15 : A.prim 15 = none := by kernel_rfl

theorem okD_all {s : List UInt8} {n : Nat} (h : okD s n = true) : s.length ≤ n ∧ ∀ c ∈ s, digB c = true := by
  simp only [okD, Bool.and_eq_true, decide_eq_true_eq, List.all_eq_true] at h
  exact ⟨h.1.2, h.2⟩
theorem partsAv_ok {s x y : List UInt8} (h : partsAv s = some (x, y)) : okD x 10 = true ∧ y.length ≤ 40 ∧ ∀ c ∈ y, digB c = true := by
  unfold partsAv at h
  split at h
  · split at h
    · rename_i ho
      cases h
      simp only [okA, Bool.and_eq_true] at ho
      exact ⟨ho.1, by simp, by simp⟩
    · cases h
  · split at h
    · rename_i ho
      cases h
      simp only [okA, Bool.and_eq_true] at ho
      exact ⟨ho.1.1, okD_all ho.2⟩
    · cases h

def sizeN (p : List UInt8 × List UInt8) : Nat := if 4294967295 < decN p.1 then 18446744073709551615 else decN p.1 * 4294967296 + fracN 32 (digsOf p.2) 0
theorem frac_lt {y : List UInt8} (hd : ∀ c ∈ y, digB c = true) : fracN 32 (digsOf y) 0 < 4294967296 := by
  refine fracN_lt 32 (digsOf y) 0 0 ?_ (by decide)
  intro d hdd
  simp only [digsOf, List.mem_map] at hdd
  obtain ⟨c, hc, rfl⟩ := hdd
  have := digB_iff.1 (hd c hc)
  omega
theorem sizeN_lt {p : List UInt8 × List UInt8} (hd : ∀ c ∈ p.2, digB c = true) : sizeN p < 18446744073709551616 := by
  have := frac_lt hd
  unfold sizeN; split <;> omega
def sizeV : Option (List UInt8 × List UInt8) → AV
  | none => .tup [.int .u64 0, .bool false]
  | some p => .tup [.int .u64 (sizeN p), .bool true]

theorem size_call {s : List UInt8} (hs : s.length ≤ 1000000000) {st : St} (hst : StOk st) :
    runL A (.call 20 [.str s]) st = some ⟨.ret, ⟨[sizeV (partsAv s)], []⟩, st⟩ := by
  refine (task_of_aw (N := 34) prim20 fn20 rfl rfl hst ?_).1
  intro e he ha K hK
  have a0 := ha 0
  clear ha
  simp at a0
  have hp := parts_call hs hst
  cases hv : partsAv s with
  | none =>
    simp [hv, partsV] at hp
    simp [a20, he, a0, hp]
    exact hK _ _ _ (.inl rfl) (by simp) ⟨_, rfl, by simp [he, hv, sizeV, AV.still, AV.stills]⟩
  | some p =>
    obtain ⟨x, y⟩ := p
    simp [hv, partsV] at hp
    obtain ⟨h1, h2, h3⟩ := partsAv_ok hv
    have hu := parseUint_call h1 hst
    have hn : decN x < 10 ^ 10 := by
      have h4 := okD_all h1
      have := decN_lt x.length x rfl h4.2
      have : (10 : Nat) ^ x.length ≤ 10 ^ 10 := Nat.pow_le_pow_right (by decide) h4.1
      omega
    obtain ⟨n, hnn⟩ : ∃ n, n = decN x := ⟨_, rfl⟩
    rw [← hnn] at hn hu
    by_cases hb : 4294967295 < n
    · have hb' : (4294967295 : Int) < (n : Int) := by omega
      simp [a20, he, a0, hp, hu, hb, hb']
      exact hK _ _ _ (.inl rfl) (by simp) ⟨_, rfl, by simp [he, hv, sizeV, sizeN, ← hnn, hb, AV.still, AV.stills]⟩
    · have hb' : ¬ (4294967295 : Int) < (n : Int) := by omega
      have hf := frac_lt h3
      have hfr := fraction_call (by omega) h3 hst
      obtain ⟨f, hff⟩ : ∃ f, f = fracN 32 (digsOf y) 0 := ⟨_, rfl⟩
      rw [← hff] at hf hfr
      have wsh : shiftOp .shl .u64 (n : Int) 32 = some (.int .u64 ((n * 2 ^ 32 : Nat) : Int)) := by
        simp [shiftOp, IntKind.bits]; rw [wrap_u64 (by omega) (by omega)]
      have wf : IntKind.u64.wrap (f : Int) = (f : Int) := wrap_u64 (by omega) (by omega)
      have wo := or_low64 (a := n) (b := f) (k := 32) (by omega) (by omega)
      simp at wo wsh
      simp [a20, he, a0, hp, hu, hb, hb', wsh, hfr, wf, wo]
      exact hK _ _ _ (.inl rfl) (by simp) ⟨_, rfl, by simp [he, hv, sizeV, sizeN, ← hnn, hb, ← hff, AV.still, AV.stills]⟩

def parseV : Option (List UInt8 × List UInt8) → AV
  | none => .tup [.int .i64 0, .bool false]
  | some p => if 9223372036854775807 < sizeN p then .tup [.int .i64 0, .bool false] else .tup [.int .i64 (sizeN p), .bool true]
theorem parse_call {s : List UInt8} (hs : s.length ≤ 1000000000) {st : St} (hst : StOk st) :
    runL A (.call 13 [.str s]) st = some ⟨.ret, ⟨[parseV (partsAv s)], []⟩, st⟩ := by
  refine (task_of_aw (N := 19) prim13 fn13 rfl rfl hst ?_).1
  intro e he ha K hK
  have a0 := ha 0
  clear ha
  simp at a0
  have hp := size_call hs hst
  cases hv : partsAv s with
  | none =>
    simp [hv, sizeV] at hp
    simp [a13, he, a0, hp]
    exact hK _ _ _ (.inl rfl) (by simp) ⟨_, rfl, by simp [he, hv, parseV, AV.still, AV.stills]⟩
  | some p =>
    simp [hv, sizeV] at hp
    obtain ⟨u, hu⟩ : ∃ u, u = sizeN p := ⟨_, rfl⟩
    rw [← hu] at hp
    by_cases hb : 9223372036854775807 < u
    · have hb' : (9223372036854775807 : Int) < (u : Int) := by omega
      simp [a13, he, a0, hp, hb, hb']
      exact hK _ _ _ (.inl rfl) (by simp) ⟨_, rfl, by simp [he, hv, parseV, ← hu, hb, AV.still, AV.stills]⟩
    · have hb' : ¬ (9223372036854775807 : Int) < (u : Int) := by omega
      have w : IntKind.i64.wrap (u : Int) = (u : Int) := wrap_i64 (by omega) (by omega)
      simp [a13, he, a0, hp, hb, hb', w]
      exact hK _ _ _ (.inl rfl) (by simp) ⟨_, rfl, by simp [he, hv, parseV, ← hu, hb, AV.still, AV.stills]⟩

def negV : Option (List UInt8 × List UInt8) → AV
  | none => .tup [.int .i64 0, .bool false]
  | some p => if 9223372036854775808 < sizeN p then .tup [.int .i64 0, .bool false] else .tup [.int .i64 (-(sizeN p : Int)), .bool true]
def signedV (s : List UInt8) : AV := if pre1 45 s then negV (partsAv (s.tail)) else parseV (partsAv s)
theorem parseV_cases (o : Option (List UInt8 × List UInt8)) : ∃ a b, parseV o = .tup [.int .i64 a, .bool b] := by
  cases o with
  | none => exact ⟨_, _, rfl⟩
  | some p => simp only [parseV]; split <;> exact ⟨_, _, rfl⟩
theorem negV_cases (o : Option (List UInt8 × List UInt8)) : ∃ a b, negV o = .tup [.int .i64 a, .bool b] := by
  cases o with
  | none => exact ⟨_, _, rfl⟩
  | some p => simp only [negV]; split <;> exact ⟨_, _, rfl⟩
theorem signedV_cases (s : List UInt8) : ∃ a b, signedV s = .tup [.int .i64 a, .bool b] := by
  unfold signedV; split
  · exact negV_cases _
  · exact parseV_cases _
theorem signed_call {s : List UInt8} (hs : s.length ≤ 1000000000) {st : St} (hst : StOk st) :
    runL A (.call 14 [.str s]) st = some ⟨.ret, ⟨[signedV s], []⟩, st⟩ := by
  refine (task_of_aw (N := 33) prim14 fn14 rfl rfl hst ?_).1
  intro e he ha K hK
  have a0 := ha 0
  clear ha
  simp at a0
  have hc := cutPre_call (s := s) (c := 45) hst
  cases hpr : pre1 45 s with
  | false =>
    simp [preAv, hpr] at hc
    have hp := parse_call hs hst
    obtain ⟨a, b, hab⟩ := parseV_cases (partsAv s)
    rw [hab] at hp
    simp [a14, he, a0, hc, hp]
    exact hK _ _ _ (.inl rfl) (by simp) ⟨_, rfl, by simp [he, signedV, hpr, hab, AV.still, AV.stills]⟩
  | true =>
    simp [preAv, hpr] at hc
    have hp := size_call (s := s.tail) (by simp; omega) hst
    cases hv : partsAv (s.tail) with
    | none =>
      simp [hv, sizeV] at hp
      simp [a14, he, a0, hc, hp]
      exact hK _ _ _ (.inl rfl) (by simp) ⟨_, rfl, by simp [he, signedV, hpr, hv, negV, AV.still, AV.stills]⟩
    | some p =>
      obtain ⟨_, _, h3⟩ := partsAv_ok hv
      have hlt := sizeN_lt h3
      simp [hv, sizeV] at hp
      obtain ⟨u, hu⟩ : ∃ u, u = sizeN p := ⟨_, rfl⟩
      rw [← hu] at hp hlt
      by_cases hb : 9223372036854775808 < u
      · have hb' : (9223372036854775808 : Int) < (u : Int) := by omega
        simp [a14, he, a0, hc, hp, hb, hb']
        exact hK _ _ _ (.inl rfl) (by simp) ⟨_, rfl, by simp [he, signedV, hpr, hv, negV, ← hu, hb, AV.still, AV.stills]⟩
      · have hb' : ¬ (9223372036854775808 : Int) < (u : Int) := by omega
        have w : IntKind.i64.wrap (IntKind.u64.wrap (-(u : Int))) = -(u : Int) := by
          simp [IntKind.wrap, IntKind.signed, IntKind.bits]; split <;> omega
        simp [a14, he, a0, hc, hp, hb, hb', w]
        exact hK _ _ _ (.inl rfl) (by simp) ⟨_, rfl, by simp [he, signedV, hpr, hv, negV, ← hu, hb, AV.still, AV.stills]⟩

theorem literal_call {s : List UInt8} (hs : s.length ≤ 1000000000) {st : St} (hst : StOk st) :
    runL A (.call 15 [.str s]) st = some ⟨.ret, ⟨[.bool (partsAv s).isSome], []⟩, st⟩ := by
  refine (task_of_aw (N := a15.ntmps) prim15 fn15 rfl rfl hst ?_).1
  intro e he ha K hK
  have a0 := ha 0
  clear ha
  simp at a0
  have hn : a15.ntmps = a15.ntmps := rfl
  simp only [a15] at he
  have hp := parts_call hs hst
  cases hv : partsAv s with
  | none =>
    simp [hv, partsV] at hp
    simp [a15, he, a0, hp]
    exact hK _ _ _ (.inl rfl) (by simp) ⟨_, rfl, by simp [he, hv, AV.still, AV.stills]⟩
  | some p =>
    simp [hv, partsV] at hp
    simp [a15, he, a0, hp]
    exact hK _ _ _ (.inl rfl) (by simp) ⟨_, rfl, by simp [he, hv, AV.still, AV.stills]⟩
end Go.Proofs.YtbmakcjladlaaaaDoor

namespace Go.Proofs.YtbmakcjladlaaaaDoor
open Go Ai

theorem fn6 : A.fn 6 = some a6 := by kernel_rfl
theorem prim6 : A.prim 6 = none := by kernel_rfl
theorem okD_head {c : UInt8} {s : List UInt8} {n : Nat} (hc : digB c = false) : okD (c :: s) n = false := by simp [okD, hc]
theorem parts_minus (s : List UInt8) : partsAv (45 :: s) = none := by
  unfold partsAv
  have h45 : digB 45 = false := by decide
  cases hc : cutAt 46 (45 :: s) with
  | none => simp [okA, okD_head h45]
  | some p =>
    obtain ⟨x, y⟩ := p
    obtain ⟨_, h2, _⟩ := cutAt_some hc
    cases x with
    | nil => simp at h2
    | cons b x =>
      simp at h2
      obtain ⟨rfl, _⟩ := h2
      simp [okA, okD_head h45]

theorem law6_run {s : List UInt8} : runL A (.seqc 6 [.str s]) [] = some ⟨.ret, ⟨[.bool true], []⟩, []⟩ := by
  refine (task_of_aw (N := 43) prim6 fn6 rfl rfl StOk.nil ?_).2
  intro e he ha K hK
  have a0 := ha 0
  clear ha
  simp at a0
  by_cases hl : 100 < s.length
  · have hl' : (100 : Int) < (s.length : Int) := by omega
    simp [a6, he, a0, alive_call, hl, hl']
    exact hK _ _ _ (.inl rfl) (by simp) ⟨_, rfl, by simp [he]⟩
  · have hl' : ¬ (100 : Int) < (s.length : Int) := by omega
    have h13 := parse_call (s := s) (by omega) StOk.nil
    have h14 := signed_call (s := 45 :: s) (by simp; omega) StOk.nil
    have h14' := signed_call (s := 45 :: 45 :: s) (by simp; omega) StOk.nil
    have w1 : s.length + 1 ≤ 281474976710656 := by omega
    have w1' : 1 + s.length ≤ 281474976710656 := by omega
    have w2 : s.length + 1 + 1 ≤ 281474976710656 := by omega
    have w2' : 2 + s.length ≤ 281474976710656 := by omega
    simp [signedV, pre1, parts_minus, negV] at h14'
    simp [signedV, pre1] at h14
    cases hv : partsAv s with
    | none =>
      rw [hv] at h13 h14
      simp [parseV] at h13
      simp [negV] at h14
      simp [a6, he, a0, alive_call, hl, hl', h13, h14, h14', w1, w1', w2, w2']
      exact hK _ _ _ (.inl rfl) (by simp) ⟨_, rfl, by simp [he]⟩
    | some p =>
      rw [hv] at h13 h14
      obtain ⟨u, hu⟩ : ∃ u, u = sizeN p := ⟨_, rfl⟩
      simp only [parseV, ← hu] at h13
      simp only [negV, ← hu] at h14
      by_cases hb : 9223372036854775807 < u
      · rw [if_pos hb] at h13
        by_cases hb2 : 9223372036854775808 < u
        · rw [if_pos hb2] at h14
          simp [a6, he, a0, alive_call, hl, hl', h13, h14, h14', w1, w1', w2, w2']
          exact hK _ _ _ (.inl rfl) (by simp) ⟨_, rfl, by simp [he]⟩
        · rw [if_neg hb2] at h14
          simp [a6, he, a0, alive_call, hl, hl', h13, h14, h14', w1, w1', w2, w2']
          exact hK _ _ _ (.inl rfl) (by simp) ⟨_, rfl, by simp [he]⟩
      · rw [if_neg hb] at h13
        rw [if_neg (by omega)] at h14
        have w : IntKind.i64.wrap (-(u : Int)) = -(u : Int) := wrap_i64 (by omega) (by omega)
        simp [a6, he, a0, alive_call, hl, hl', h13, h14, h14', w1, w1', w2, w2', w]
        exact hK _ _ _ (.inl rfl) (by simp) ⟨_, rfl, by simp [he]⟩
end Go.Proofs.YtbmakcjladlaaaaDoor

namespace Go.Proofs.YtbmakcjladlaaaaDoor
open Go Ai

set_option maxRecDepth 100000 in
theorem runsDecSigns (avs : List AV) (h : ArgsOf Tryd.prog 8 Tryd.f6.params.toList avs) (_ : AV.bulks avs ≤ 1048576) : ∃ st ds, runL A (.seqc 6 avs) [] = some ⟨.ret, ⟨[.bool true], ds⟩, st⟩ := by
  rw [Tryd.params6] at h
  simp only [ArgsOf] at h
  obtain ⟨a, _, rfl, h1, rfl⟩ := h
  obtain ⟨s, rfl, _⟩ := ofType_str (by kernel_rfl) h1
  exact ⟨_, _, law6_run⟩
end Go.Proofs.YtbmakcjladlaaaaDoor

