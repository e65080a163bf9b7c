/- Chapter 03: decimal numbers, run; tokens: the plain laws. No condition. -/
import Derived.Test.YtjgbbdmpddddhaaDoorGa
import Derived.Test.YtjgbbdmpddddhaaDoorEd
set_option linter.unusedVariables false
set_option linter.unusedSimpArgs false
namespace Go.Proofs.YtjgbbdmpddddhaaDoor
open Go Ai

def Bw (w : World) : Prop := Lib.TabIs Tryd.prog w "strings.asciiSpace" .u8 Lib.asciiSpaceTab

theorem primsOk : PrimsOk Tryd.prog gl A Bw := by
  intro f h args st o st' hf hh
  have hf' : (prims.find? fun e => e.1 == f).map (·.2) = some h := hf
  simp only [prims, List.find?_cons, List.find?_nil] at hf'
  split at hf'
  · rename_i e
    have : f = 22 := (beq_iff_eq.1 e).symm
    subst this
    cases hf'
    cases o <;> exact pure_task join22 hh
  · split at hf'
    · rename_i e
      have : f = 33 := (beq_iff_eq.1 e).symm
      subst this
      cases hf'
      cases o <;> exact fields_task (B := Bw) (fun _ h => h) enters33 fields33 hh
    · split at hf'
      · rename_i e
        have : f = 48 := (beq_iff_eq.1 e).symm
        subst this
        cases hf'
        cases o <;> exact pure_task index48 hh
      · split at hf'
        · rename_i e
          have : f = 55 := (beq_iff_eq.1 e).symm
          subst this
          cases hf'
          cases o <;> exact pure_task indexByte55 hh
        · split at hf'
          · rename_i e
            have : f = 19 := (beq_iff_eq.1 e).symm
            subst this
            cases hf'
            cases o <;> exact pure_task count19 hh
          · cases hf'

theorem prim8 : A.prim 8 = none := by kernel_rfl
theorem beqs_true {l : List AV} (h : AV.beqs l [.bool true] = true) : l = [.bool true] := by
  match l, h with
  | [.bool true], _ => rfl
  | [.bool false], h => simp [AV.beqs, AV.beq] at h
theorem alive_call : runL A (.call 8 []) [] = some ⟨.ret, ⟨[.bool true], []⟩, []⟩ := by
  have h := alive_run
  have e : runL A (.call 8 []) [] = runL A (.seqc 8 []) [] := by
    rw [runL_eq, runL_eq (.seqc 8 [])]
    simp only [layer, prim8]
  rw [e]
  split at h
  · rename_i fr st hr
    simp only [Bool.and_eq_true, List.isEmpty_iff] at h
    obtain ⟨⟨h1, rfl⟩, h2⟩ := h
    refine runL_some.2 ⟨400, ?_⟩
    rw [hr]
    obtain ⟨env, defs⟩ := fr
    simp only at h1 h2
    rw [beqs_true h1, h2]
  · cases h
end Go.Proofs.YtjgbbdmpddddhaaDoor

namespace Go.Proofs.YtjgbbdmpddddhaaDoor
open Go Ai

theorem wrap_u64 {n : Int} (h0 : 0 ≤ n) (h1 : n < 18446744073709551616) : IntKind.u64.wrap n = n := by
  simp [IntKind.wrap, IntKind.signed, IntKind.bits]; omega
theorem wrap_u8 {n : Int} (h0 : 0 ≤ n) (h1 : n < 256) : IntKind.u8.wrap n = n := by
  simp [IntKind.wrap, IntKind.signed, IntKind.bits]; omega
theorem tmodN {u : Nat} {b : Int} : (u : Int).tmod b = (u : Int) % b := Int.tmod_eq_emod_of_nonneg (by omega)
attribute [simp] tmodN
theorem runL_pure {f : FuncId} {h : List AV → Option AV} {args : List AV} {v : AV} {st : St} (hp : A.prim f = some (pureP h)) (hv : h args = some v) : runL A (.call f args) st = some ⟨.ret, ⟨[v], []⟩, st⟩ := by
  rw [runL_eq]; simp only [layer, hp, pureP, hv, Option.map_some]
theorem strsA_map : ∀ l : List (List UInt8), strsA (l.map AV.str) = some l
  | [] => rfl
  | s :: l => by simp [strsA, strsA_map l]
theorem ofBytes_byteV : ∀ l : List UInt8, ofBytes (l.map byteV) = some l
  | [] => rfl
  | b :: l => by
    have := b.toNat_lt
    simp [byteV, ofBytes, ofBytes_byteV l]; omega
end Go.Proofs.YtjgbbdmpddddhaaDoor

namespace Go.Proofs.YtjgbbdmpddddhaaDoor
open Go Ai

/-- A set of bytes, as Go keeps it. -/
def set256 (p : Nat → Bool) : List AV := (List.range 256).map fun k => AV.bool (p k)
theorem set256_length (p : Nat → Bool) : (set256 p).length = 256 := by simp [set256]
theorem set256_set (p : Nat → Bool) {c : Nat} : (set256 p).set c (.bool true) = set256 fun k => k == c || p k := by
  apply List.ext_getElem?
  intro i
  simp only [set256, List.getElem?_set, List.length_map, List.length_range, List.getElem?_map, List.getElem?_range]
  by_cases h : c = i
  · subst h
    by_cases h2 : c < 256
    · simp [h2, List.getElem?_range]
    · simp [h2]
  · have : ¬ i = c := fun e => h e.symm
    by_cases h2 : i < 256
    · simp [h, h2, this, List.getElem?_range]
    · simp [h, h2, this]
theorem set256_get (p : Nat → Bool) {c : Nat} (h : c < 256) : (set256 p)[c]? = some (.bool (p c)) := by
  simp [set256, h]
theorem set256_cell (p : Nat → Bool) : (set256 p).all AV.isCell = true := by
  simp [set256, AV.isCell]
theorem putCells_all : ∀ (vs pre cs : List AV), cs.length = vs.length → putCells (pre ++ cs) pre.length vs = pre ++ vs
  | [], pre, cs, h => by
    have : cs = [] := List.eq_nil_of_length_eq_zero h
    subst this; rfl
  | v :: vs, pre, [], h => by simp at h
  | v :: vs, pre, c :: cs, h => by
    have := putCells_all vs (pre ++ [v]) cs (by simpa using h)
    simp at this
    simp [putCells, this]
theorem putCells_full {vs cs : List AV} (h : cs.length = vs.length) : putCells cs 0 vs = vs := putCells_all vs [] cs h
theorem set256_put (p q : Nat → Bool) : putCells (set256 p) 0 (set256 q) = set256 q := putCells_full (by simp [set256_length])
theorem set256_stills (p : Nat → Bool) (n : Nat) (st : St) : AV.stills n st (set256 p) = some (set256 p) := by
  refine stills_of fun x hx => ?_
  simp only [set256, List.mem_map] at hx
  obtain ⟨k, _, rfl⟩ := hx
  rfl

def b36 : AFunc := ⟨21, [.cell 2 256 true, .tmp 3],
 (.seq (.reg [⟨(some 2), .new (.agg (set256 fun _ => false)) true none, none⟩,
 ⟨(some 3), .mov (.k (.bool false)), none⟩])
 (.seq (.seq (.reg [⟨(some 4), .mov (.k (.int .i64 0)), none⟩])
 (.block 0 (.loop a86_0)))
 (.seq (.reg [⟨(some 20), .load 256 true (.t 2), none⟩,
 ⟨none, .store 256 (.t 2) (.t 20), none⟩,
 ⟨(some 3), .mov (.k (.bool true)), none⟩])
 .ret))),
 [], false⟩
theorem fn86 : A.fn 86 = some b36 := by kernel_rfl
theorem prim86 : A.prim 86 = none := by kernel_rfl

def w86_0 : List Nat := a86_0.writes
attribute [simp] set256_length set256_put set256_cell set256_stills

theorem take256' (p : Nat → Bool) : List.take 256 (set256 p) = set256 p := List.take_of_length_le (by simp)
theorem cell256 (p : Nat → Bool) : (∀ x, x ∈ set256 p → x.isCell = true) = True := eq_true (by have := set256_cell p; rwa [List.all_eq_true] at this)
attribute [simp] take256' cell256
theorem take256 (p : Nat → Bool) : takeVar 256 true (set256 p) 0 = some (.agg (set256 p)) := by
  simp [takeVar, List.take_of_length_le]

theorem set_call {s : List UInt8} (hs : ∀ c ∈ s, c.toNat < 128) (hl : s.length ≤ 1000) {st : St} (hst : StOk st) :
    runL A (.call 86 [.str s]) st = some ⟨.ret, ⟨[.tup [.agg (set256 fun k => s.any fun c => c.toNat == k), .bool true]], []⟩, st⟩ := by
  refine (task_of_aw (N := 21) prim86 fn86 rfl rfl hst ?_).1
  intro e he ha K hK
  have a0 := ha 0
  clear ha
  simp at a0
  simp [b36, he, a0]
  refine aw_loop (W := w86_0) rfl (fun m e ds st' => ds = [] ∧ ∃ i : Nat, i + m = s.length ∧ AX.ev e (.t 4) = .int .i64 i ∧ st' = st ++ [.cells none (set256 fun k => (s.take i).any fun c => c.toNat == k)]) s.length
    ⟨rfl, 0, by simp, by simp [he], by simp⟩ ?_
  rintro m e1 ds st' hs' ⟨rfl, i, hm, g4, rfl⟩ K1 kn kx
  have he1 : e1.length = 21 := by simp [hs'.1, he]
  have g0 := hs'.ev 0 rfl (v := .str s) (by simp [a0])
  have g2 := hs'.ev 2 rfl (v := .ptr st.length 0) (by simp [he])
  cases m with
  | zero =>
    have : i = s.length := by omega
    subst this
    simp [a86_0, g0, g4, he1]
    refine kx _ _ _ _ nofun fun hs' => ?_
    have g2' : e1[2]'(by omega) = .ptr st.length 0 := by simpa [AX.ev, List.getD_eq_getElem?_getD, he1] using g2
    simp [g2, he1, take256, AV.cells]
    exact hK _ _ _ (.inl rfl) (by simp) ⟨[.agg (set256 fun k => s.any fun c => c.toNat == k), .bool true], by simp [b36, resultsA, resA, he1, g2', take256], by simp [AV.still, AV.stills, oneOf]⟩
  | succ m =>
    have hi : i < s.length := by omega
    have hc : s[i].toNat < 128 := hs _ (List.getElem_mem hi)
    obtain ⟨c, hcc⟩ : ∃ c : Nat, c = s[i].toNat := ⟨_, rfl⟩
    have w1 : IntKind.i64.wrap ((i : Int) + 1) = (i : Int) + 1 := wrap_i64 (by omega) (by omega)
    have hc2 : ¬ (128 : Int) ≤ (c : Int) := by omega
    have hc2' : ¬ 128 ≤ c := by omega
    have hc3 : (c : Int) < 256 := by omega
    have hc3' : c < 256 := by omega
    have hc4 : c ≤ 255 := by omega
    have hn : ¬ (i : Int) < 0 := by omega
    have hcn : ¬ (c : Int) < 0 := by omega
    simp [a86_0, g0, g2, g4, he1, hi, w1, byteV, ← hcc, hc2, hc2', hc3, hc3', hc4, hn, hcn, putCells, set256_set]
    refine kn m _ _ _ (by omega) ⟨rfl, i + 1, by omega, by simp [he1], ?_⟩
    congr 3
    congr 1
    funext k
    have ht : s.take (i + 1) = s.take i ++ [s[i]] := by simp
    rw [ht, List.any_append, Bool.or_comm]
    simp only [List.any_cons, List.any_nil, Bool.or_false]
    rw [← hcc]
    congr 1
    exact Bool.eq_iff_iff.2 ⟨fun h => by rw [beq_iff_eq] at h ⊢; exact h.symm, fun h => by rw [beq_iff_eq] at h ⊢; exact h.symm⟩

theorem fn94 : A.fn 94 = some a94 := by kernel_rfl
theorem prim94 : A.prim 94 = none := by kernel_rfl
theorem has_call {p : Nat → Bool} {c : UInt8} {st : St} {r : Nat} {ty : Option TypeId} (hr : st[r]? = some (.cells ty (set256 p))) :
    runL A (.call 94 [.ptr r 0, byteV c]) st = some ⟨.ret, ⟨[.bool (p c.toNat)], []⟩, st⟩ := by
  refine (task_of_aw_keep (N := 10) prim94 fn94 rfl rfl ?_).1
  intro e he ha K hK
  have a0 := ha 0
  have a1 := ha 1
  clear ha
  simp [byteV] at a0 a1
  have hc := c.toNat_lt
  have hc1 : (c.toNat : Int) < 256 := by omega
  have hn : ¬ (c.toNat : Int) < 0 := by omega
  have hg := set256_get p hc
  simp [a94, he, a0, a1, hc1, hn, hr, takeVar, hg]
  exact hK _ _ (.inl rfl) ⟨_, rfl, by simp [he]⟩

theorem fn88 : A.fn 88 = some a88 := by kernel_rfl
theorem prim88 : A.prim 88 = none := by kernel_rfl
theorem fn87 : A.fn 87 = some a87 := by kernel_rfl
theorem prim87 : A.prim 87 = none := by kernel_rfl
def w88_0 : List Nat := a88_0.writes
def w87_0 : List Nat := a87_0.writes
def cutR (p : Nat → Bool) (s : List UInt8) : List UInt8 := (s.reverse.dropWhile fun c => p c.toNat).reverse
def cutL (p : Nat → Bool) (s : List UInt8) : List UInt8 := s.dropWhile fun c => p c.toNat
theorem cutR_snoc (p : Nat → Bool) (s : List UInt8) (c : UInt8) : cutR p (s ++ [c]) = if p c.toNat then cutR p s else s ++ [c] := by
  simp only [cutR, List.reverse_append, List.reverse_cons, List.reverse_nil, List.nil_append, List.singleton_append, List.dropWhile_cons]
  split <;> simp

theorem right_call {p : Nat → Bool} {s : List UInt8} (hs : s.length ≤ 1000000000) {st : St} {r : Nat} {ty : Option TypeId} (hr : st[r]? = some (.cells ty (set256 p))) :
    runL A (.call 88 [.str s, .ptr r 0]) st = some ⟨.ret, ⟨[.str (cutR p s)], []⟩, st⟩ := by
  refine (task_of_aw_keep (N := 22) prim88 fn88 rfl rfl ?_).1
  intro e he ha K hK
  have a0 := ha 0
  have a1 := ha 1
  clear ha
  simp at a0 a1
  simp [a88, he, a0, a1]
  refine aw_loop (W := w88_0) rfl (fun m e ds st' => ds = [] ∧ st' = st ∧ ∃ t : List UInt8, t.length = m ∧ m ≤ s.length ∧ cutR p t = cutR p s ∧ AX.ev e (.t 0) = .str t) s.length ⟨rfl, rfl, s, rfl, by simp, rfl, by simp [a0]⟩ ?_
  rintro m e1 ds st' hs' ⟨rfl, rfl, t, htm, hms, ht, g0⟩ K1 kn kx
  have he1 : e1.length = 22 := by simp [hs'.1, he]
  have g1 := hs'.ev 1 rfl (v := .ptr r 0) (by simp [a1])
  rcases List.eq_nil_or_concat t with rfl | ⟨t', c, hfc⟩
  · simp [a88_0, g0, he1]
    refine kx _ _ _ _ nofun fun hs' => ?_
    simp [g0, he1]
    exact hK _ _ (.inl rfl) ⟨_, rfl, by simp [he1, ← ht]; rfl⟩
  · rw [List.concat_eq_append] at hfc
    subst hfc
    simp at htm
    have w0 : IntKind.i64.wrap (t'.length : Int) = (t'.length : Int) := wrap_i64 (by omega) (by omega)
    have w1 : IntKind.i64.wrap ((t'.length : Int) + 1 - 1) = (t'.length : Int) := by rw [wrap_i64 (by omega) (by omega)]; omega
    have hh := has_call (c := c) hr
    simp [byteV] at hh
    have hle : (t'.length : Int) ≤ (t'.length : Int) + 1 := by omega
    rw [cutR_snoc] at ht
    by_cases hp : p c.toNat = true
    · rw [hp] at hh
      rw [if_pos hp] at ht
      simp [a88_0, g0, g1, he1, w0, w1, byteV, hh, bound, hle]
      exact kn t'.length _ _ _ (by omega) ⟨rfl, rfl, t', rfl, by omega, ht, by simp [he1]⟩
    · rw [if_neg hp] at ht
      rw [Bool.not_eq_true] at hp
      rw [hp] at hh
      simp [a88_0, g0, g1, he1, w0, w1, byteV, hh]
      refine kx _ _ _ _ nofun fun hs' => ?_
      simp [g0, he1]
      exact hK _ _ (.inl rfl) ⟨_, rfl, by simp [he1, ← ht]⟩

theorem left_call {p : Nat → Bool} {s : List UInt8} (hs : s.length ≤ 1000000000) {st : St} {r : Nat} {ty : Option TypeId} (hr : st[r]? = some (.cells ty (set256 p))) :
    runL A (.call 87 [.str s, .ptr r 0]) st = some ⟨.ret, ⟨[.str (cutL p s)], []⟩, st⟩ := by
  refine (task_of_aw_keep (N := 16) prim87 fn87 rfl rfl ?_).1
  intro e he ha K hK
  have a0 := ha 0
  have a1 := ha 1
  clear ha
  simp at a0 a1
  simp [a87, he, a0, a1]
  refine aw_loop (W := w87_0) rfl (fun m e ds st' => ds = [] ∧ st' = st ∧ ∃ t : List UInt8, t.length = m ∧ m ≤ s.length ∧ cutL p t = cutL p s ∧ AX.ev e (.t 0) = .str t) s.length ⟨rfl, rfl, s, rfl, by simp, rfl, by simp [a0]⟩ ?_
  rintro m e1 ds st' hs' ⟨rfl, rfl, t, htm, hms, ht, g0⟩ K1 kn kx
  have he1 : e1.length = 16 := by simp [hs'.1, he]
  have g1 := hs'.ev 1 rfl (v := .ptr r 0) (by simp [a1])
  cases t with
  | nil =>
    simp [a87_0, g0, he1]
    refine kx _ _ _ _ nofun fun hs' => ?_
    simp [g0, he1]
    exact hK _ _ (.inl rfl) ⟨_, rfl, by simp [he1, ← ht]; rfl⟩
  | cons c t' =>
    simp at htm
    have hh := has_call (c := c) hr
    simp [byteV] at hh
    have hle : (1 : Int) ≤ (t'.length : Int) + 1 := by omega
    have hpos : (0 : Int) < (t'.length : Int) + 1 := by omega
    by_cases hp : p c.toNat = true
    · rw [hp] at hh
      simp only [cutL, List.dropWhile_cons, hp, if_true] at ht
      simp [a87_0, g0, g1, he1, byteV, hh, bound, hle, hpos]
      exact kn t'.length _ _ _ (by omega) ⟨rfl, rfl, t', rfl, by omega, ht, by simp [he1]⟩
    · rw [Bool.not_eq_true] at hp
      rw [hp] at hh
      simp [cutL, List.dropWhile_cons, hp] at ht
      simp [a87_0, g0, g1, he1, byteV, hh, hpos]
      refine kx _ _ _ _ nofun fun hs' => ?_
      simp [g0, he1]
      exact hK _ _ (.inl rfl) ⟨_, rfl, by simp [he1, ht, cutL]⟩

def trimP (p : Nat → Bool) (s : List UInt8) : List UInt8 := cutL p (cutR p s)
theorem cutR_prefix (p : Nat → Bool) (s : List UInt8) : (cutR p s).length ≤ s.length := by
  simp only [cutR, List.length_reverse]
  have := (List.dropWhile_sublist (fun c : UInt8 => p c.toNat) (l := s.reverse)).length_le
  simpa using this
theorem dropWhile_nil {α} {q : α → Bool} : ∀ {l : List α}, l.dropWhile q = [] ↔ l.all q = true
  | [] => by simp
  | x :: l => by
    rw [List.dropWhile_cons]
    by_cases h : q x = true
    · simp [h, dropWhile_nil]
    · simp [h]
theorem dropWhile_head {α} {q : α → Bool} : ∀ {l : List α} {x : α} {r : List α}, l.dropWhile q = x :: r → q x = false
  | [], _, _, h => by simp at h
  | y :: l, x, r, h => by
    rw [List.dropWhile_cons] at h
    split at h
    · exact dropWhile_head h
    · rename_i hy
      cases h
      simpa using hy
theorem trimP_nil (p : Nat → Bool) (s : List UInt8) : trimP p s = [] ↔ s.all (fun c => p c.toNat) = true := by
  unfold trimP cutL
  rw [dropWhile_nil]
  constructor
  · intro h
    cases hr : s.reverse.dropWhile (fun c => p c.toNat) with
    | nil =>
      rw [dropWhile_nil] at hr
      simpa using hr
    | cons x r =>
      have hx := dropWhile_head hr
      simp [cutR, hr] at h
      rw [h.2] at hx; cases hx
  · intro h
    have : cutR p s = [] := by
      unfold cutR
      rw [List.reverse_eq_nil_iff, dropWhile_nil]; simpa using h
    rw [this]; rfl

def b47 : AFunc := ⟨43, [.tmp 4],
 (.seq (.reg [⟨(some 4), .mov (.k (.str [])), none⟩])
 (.seq (.seq (.reg [⟨(some 7), .mov (.t 0), none⟩,
 ⟨(some 8), .bin .eql (.t 7) (.k (.str [])), none⟩,
 ⟨(some 9), .mov (.t 8), none⟩,
 ⟨(some 10), .mov (.t 1), some (9, false)⟩,
 ⟨(some 11), .bin .eql (.t 10) (.k (.str [])), some (9, false)⟩,
 ⟨(some 12), .pick (.t 9) (.k (.bool true)) (.t 11), none⟩])
 (.cond (.t 12) (.seq (.reg [⟨(some 13), .mov (.t 0), none⟩,
 ⟨(some 4), .mov (.t 13), none⟩])
 .ret)
 .skip))
 (.seq (.seq (.reg [⟨(some 14), .mov (.t 1), none⟩,
 ⟨(some 15), .lenStr (.t 14), none⟩,
 ⟨(some 16), .bin .eql (.t 15) (.k (.int .i64 1)), none⟩,
 ⟨(some 17), .mov (.t 16), none⟩,
 ⟨(some 18), .mov (.t 1), some (17, true)⟩,
 ⟨(some 19), .indexStr (.t 18) (.k (.int .i64 0)), some (17, true)⟩,
 ⟨(some 20), .bin .lss (.t 19) (.k (.int .u8 128)), some (17, true)⟩,
 ⟨(some 21), .pick (.t 17) (.t 20) (.k (.bool false)), none⟩])
 (.cond (.t 21) (.seq (.plan [⟨0, ⟨(some 22), .mov (.t 0), none⟩, []⟩,
 ⟨1, ⟨(some 23), .mov (.t 1), none⟩, []⟩,
 ⟨2, ⟨(some 24), .indexStr (.t 23) (.k (.int .i64 0)), none⟩, []⟩,
 ⟨4, ⟨(some 26), .mov (.t 1), none⟩, []⟩,
 ⟨5, ⟨(some 27), .indexStr (.t 26) (.k (.int .i64 0)), none⟩, []⟩,
 ⟨3, ⟨(some 25), .call (.k (.func (.func 85) [] [])) [(.t 22), (.t 24)], none⟩, []⟩,
 ⟨6, ⟨(some 28), .call (.k (.func (.func 84) [] [])) [(.t 25), (.t 27)], none⟩, []⟩,
 ⟨7, ⟨(some 4), .mov (.t 28), none⟩, []⟩])
 .ret)
 .skip))
 (.seq (.seq (.reg [⟨(some 30), .mov (.t 1), none⟩,
 ⟨(some 31), .call (.k (.func (.func 86) [] [])) [(.t 30)], none⟩,
 ⟨(some 29), .mov (.t 31), none⟩,
 ⟨(some 32), .extract (.t 29) 0, none⟩,
 ⟨(some 33), .extract (.t 29) 1, none⟩,
 ⟨(some 5), .new (.agg (set256 fun _ => false)) true none, none⟩,
 ⟨none, .store 256 (.t 5) (.t 32), none⟩,
 ⟨(some 6), .mov (.t 33), none⟩])
 (.seq (.reg [⟨(some 34), .mov (.t 6), none⟩])
 (.cond (.t 34) (.seq (.reg [⟨(some 35), .mov (.t 0), none⟩,
 ⟨(some 36), .call (.k (.func (.func 88) [] [])) [(.t 35), (.t 5)], none⟩,
 ⟨(some 37), .call (.k (.func (.func 87) [] [])) [(.t 36), (.t 5)], none⟩,
 ⟨(some 4), .mov (.t 37), none⟩])
 .ret)
 .skip)))
 (.seq (.reg [⟨(some 38), .mov (.t 0), none⟩,
 ⟨(some 39), .mov (.t 1), none⟩,
 ⟨(some 40), .call (.k (.func (.func 90) [] [])) [(.t 38), (.t 39)], none⟩,
 ⟨(some 41), .mov (.t 1), none⟩,
 ⟨(some 42), .call (.k (.func (.func 89) [] [])) [(.t 40), (.t 41)], none⟩,
 ⟨(some 4), .mov (.t 42), none⟩])
 .ret))))),
 [], false⟩
theorem fn77 : A.fn 77 = some b47 := by kernel_rfl
theorem prim77 : A.prim 77 = none := by kernel_rfl

def digP (k : Nat) : Bool := decide (48 ≤ k) && decide (k ≤ 57)
def digB (c : UInt8) : Bool := digP c.toNat
theorem ten_set : (fun k => ([48, 49, 50, 51, 52, 53, 54, 55, 56, 57] : List UInt8).any fun c => c.toNat == k) = digP := by
  funext k
  rw [Bool.eq_iff_iff]
  simp [digP]
  omega

theorem trim10_call {s : List UInt8} (hs : s.length ≤ 1000000000) {st : St} (hst : StOk st) :
    runL A (.call 77 [.str s, .str [48, 49, 50, 51, 52, 53, 54, 55, 56, 57]]) st = some ⟨.ret, ⟨[.str (trimP digP s)], []⟩, st⟩ := by
  refine (task_of_aw (N := 43) prim77 fn77 rfl rfl hst ?_).1
  intro e he ha K hK
  have a0 := ha 0
  have a1 := ha 1
  clear ha
  simp at a0 a1
  cases s with
  | nil =>
    simp [b47, he, a0, a1]
    exact hK _ _ _ (.inl rfl) (by simp) ⟨_, rfl, by simp [he, trimP, cutL, cutR]⟩
  | cons c s =>
    have hset := set_call (s := [48, 49, 50, 51, 52, 53, 54, 55, 56, 57]) (by decide) (by decide) hst
    rw [ten_set] at hset
    have hr := right_call (p := digP) (s := c :: s) hs (st := st ++ [.cells none (set256 digP)]) (r := st.length) (ty := none) (by simp)
    have hl := left_call (p := digP) (s := cutR digP (c :: s)) (by have := cutR_prefix digP (c :: s); omega) (st := st ++ [.cells none (set256 digP)]) (r := st.length) (ty := none) (by simp)
    simp [b47, he, a0, a1, hset, hr, hl]
    exact hK _ _ _ (.inl rfl) (by simp) ⟨_, rfl, by simp [he, trimP]⟩
end Go.Proofs.YtjgbbdmpddddhaaDoor

namespace Go.Proofs.YtjgbbdmpddddhaaDoor
open Go Ai

def cutAt (c : UInt8) : List UInt8 → Option (List UInt8 × List UInt8)
  | [] => none
  | b :: l => if b = c then some ([], l) else (cutAt c l).map fun x => (b :: x.1, x.2)
theorem cutAt_none {c : UInt8} : ∀ {s : List UInt8}, cutAt c s = none → Lib.indexByte s c = -1 ∧ c ∉ s
  | [], _ => ⟨rfl, by simp⟩
  | b :: l, h => by
    unfold cutAt at h
    split at h
    · cases h
    · rename_i hb
      have := cutAt_none (s := l) (by simpa using h)
      refine ⟨by simp [Lib.indexByte, hb, this.1], ?_⟩
      simp only [List.mem_cons, not_or]
      exact ⟨fun e => hb e.symm, this.2⟩
theorem cutAt_some {c : UInt8} : ∀ {s x y : List UInt8}, cutAt c s = some (x, y) → Lib.indexByte s c = x.length ∧ s = x ++ c :: y ∧ c ∉ x
  | [], _, _, h => by cases h
  | b :: l, x, y, h => by
    unfold cutAt at h
    split at h
    · rename_i hb
      cases h
      exact ⟨by simp [Lib.indexByte, hb], by simp [hb], by simp⟩
    · rename_i hb
      simp only [Option.map_eq_some_iff] at h
      obtain ⟨⟨x1, y1⟩, h, e⟩ := h
      cases e
      obtain ⟨h1, h2, h3⟩ := cutAt_some h
      have hn : ¬ Lib.indexByte l c = -1 := by rw [h1]; omega
      refine ⟨by simp [Lib.indexByte, hb, h1], by simp [← h2], ?_⟩
      simp only [List.mem_cons, not_or]
      exact ⟨fun e => hb e.symm, h3⟩

theorem prim48 : A.prim 48 = some (pureP indexOneA) := rfl
theorem fn76 : A.fn 76 = some a76 := by kernel_rfl
theorem prim76 : A.prim 76 = none := by kernel_rfl
theorem fn71 : A.fn 71 = some a71 := by kernel_rfl
theorem prim71 : A.prim 71 = none := by kernel_rfl
theorem fn72 : A.fn 72 = some a72 := by kernel_rfl
theorem prim72 : A.prim 72 = none := by kernel_rfl
theorem fn63 : A.fn 63 = some a63 := by kernel_rfl
theorem prim63 : A.prim 63 = none := by kernel_rfl

theorem index_call {s : List UInt8} {c : UInt8} {st : St} : runL A (.call 48 [.str s, .str [c]]) st = some ⟨.ret, ⟨[.int .i64 (Lib.indexByte s c)], []⟩, st⟩ :=
  runL_pure prim48 rfl

def cutAv (c : UInt8) (s : List UInt8) : AV := match cutAt c s with
  | none => .tup [.str s, .str [], .bool false]
  | some (x, y) => .tup [.str x, .str y, .bool true]
theorem cut46_call {s : List UInt8} {c : UInt8} (hs : s.length ≤ 1000000000) {st : St} (hst : StOk st) :
    runL A (.call 76 [.str s, .str [c]]) st = some ⟨.ret, ⟨[cutAv c s], []⟩, st⟩ := by
  refine (task_of_aw (N := 23) prim76 fn76 rfl rfl hst ?_).1
  intro e he ha K hK
  have a0 := ha 0
  have a1 := ha 1
  clear ha
  simp at a0 a1
  have hi := index_call (s := s) (c := c) (st := st)
  cases hc : cutAt c s with
  | none =>
    obtain ⟨h1, _⟩ := cutAt_none hc
    rw [h1] at hi
    simp [a76, he, a0, a1, hi]
    exact hK _ _ _ (.inl rfl) (by simp) ⟨_, rfl, by simp [he, cutAv, hc, AV.still, AV.stills]⟩
  | some p =>
    obtain ⟨x, y⟩ := p
    obtain ⟨h1, h2, _⟩ := cutAt_some hc
    rw [h1] at hi
    have hl : x.length + 1 + y.length = s.length := by rw [h2]; simp; omega
    have hl' : x.length ≤ s.length := by omega
    have hl1 : x.length + 1 ≤ s.length := by omega
    have hl1' : (x.length : Int) + 1 ≤ (s.length : Int) := by omega
    have hp : (0 : Int) ≤ (x.length : Int) + 1 := by omega
    have w1 : IntKind.i64.wrap ((x.length : Int) + 1) = (x.length : Int) + 1 := wrap_i64 (by omega) (by omega)
    have ht : ((x.length : Int) + 1).toNat = x.length + 1 := by omega
    have e1 : s.take x.length = x := by rw [h2]; simp
    have e2 : s.drop (x.length + 1) = y := by rw [h2, ← List.drop_drop]; simp
    simp [a76, he, a0, a1, hi, bound, hl', hl1, hl1', hp, w1, ht, e1, e2]
    exact hK _ _ _ (.inl rfl) (by simp) ⟨_, rfl, by simp [he, cutAv, hc, AV.still, AV.stills]⟩

theorem cut_call {s : List UInt8} {c : UInt8} (hs : s.length ≤ 1000000000) {st : St} (hst : StOk st) :
    runL A (.call 71 [.str s, .str [c]]) st = some ⟨.ret, ⟨[cutAv c s], []⟩, st⟩ := by
  refine (task_of_aw (N := 13) prim71 fn71 rfl rfl hst ?_).1
  intro e he ha K hK
  have a0 := ha 0
  have a1 := ha 1
  clear ha
  simp at a0 a1
  have hi := cut46_call (c := c) hs hst
  cases hc : cutAt c s with
  | none =>
    simp [cutAv, hc] at hi
    simp [a71, he, a0, a1, hi]
    exact hK _ _ _ (.inl rfl) (by simp) ⟨_, rfl, by simp [he, cutAv, hc, AV.still, AV.stills]⟩
  | some p =>
    obtain ⟨x, y⟩ := p
    simp [cutAv, hc] at hi
    simp [a71, he, a0, a1, hi]
    exact hK _ _ _ (.inl rfl) (by simp) ⟨_, rfl, by simp [he, cutAv, hc, AV.still, AV.stills]⟩

def okD (s : List UInt8) (n : Nat) : Bool := decide (1 ≤ s.length) && decide (s.length ≤ n) && s.all digB
theorem digits_call {s : List UInt8} {n : Nat} (hs : s.length ≤ 1000000000) {st : St} (hst : StOk st) :
    runL A (.call 72 [.str s, .int .i64 n]) st = some ⟨.ret, ⟨[.bool (okD s n)], []⟩, st⟩ := by
  refine (task_of_aw (N := 19) prim72 fn72 rfl rfl hst ?_).1
  intro e he ha K hK
  have a0 := ha 0
  have a1 := ha 1
  clear ha
  simp at a0 a1
  by_cases h1 : 1 ≤ s.length
  · have h1' : (1 : Int) ≤ (s.length : Int) := by omega
    by_cases h2 : s.length ≤ n
    · have ht := trim10_call hs hst
      have h2' : (s.length : Int) ≤ (n : Int) := by omega
      have hz : decide (trimP digP s = []) = s.all digB := by
        rw [Bool.eq_iff_iff, decide_eq_true_iff, trimP_nil]; rfl
      simp [a72, he, a0, a1, h1, h1', h2, h2', ht, hz]
      exact hK _ _ _ (.inl rfl) (by simp) ⟨_, rfl, by simp [he, okD, h1, h2, AV.still, AV.stills]⟩
    · have h2' : ¬ (s.length : Int) ≤ (n : Int) := by omega
      simp [a72, he, a0, a1, h1, h1', h2, h2']
      exact hK _ _ _ (.inl rfl) (by simp) ⟨_, rfl, by simp [he, okD, h1, h2, AV.still, AV.stills]⟩
  · have h1' : ¬ (1 : Int) ≤ (s.length : Int) := by omega
    simp [a72, he, a0, a1, h1, h1']
    exact hK _ _ _ (.inl rfl) (by simp) ⟨_, rfl, by simp [he, okD, h1, AV.still, AV.stills]⟩

def okA (x : List UInt8) : Bool := okD x 10 && !(decide (1 < x.length) && decide (x.head? = some 48))
def partsAv (s : List UInt8) : Option (List UInt8 × List UInt8) := match cutAt 46 s with
  | none => if okA s then some (s, []) else none
  | some (x, y) => if okA x && okD y 40 then some (x, y) else none
def partsV : Option (List UInt8 × List UInt8) → AV
  | none => .tup [.str [], .str [], .bool false]
  | some (x, y) => .tup [.str x, .str y, .bool true]
set_option maxHeartbeats 1000000 in
theorem parts_call {s : List UInt8} (hs : s.length ≤ 1000000000) {st : St} (hst : StOk st) :
    runL A (.call 63 [.str s]) st = some ⟨.ret, ⟨[partsV (partsAv s)], []⟩, st⟩ := by
  refine (task_of_aw (N := 37) prim63 fn63 rfl rfl hst ?_).1
  intro e he ha K hK
  have a0 := ha 0
  clear ha
  simp at a0
  have hcut := cut_call (c := 46) hs hst
  have key : ∀ x y : List UInt8, ∀ p : Bool, x.length ≤ 1000000000 → y.length ≤ 1000000000 → cutAv 46 s = .tup [.str x, .str y, .bool p] →
      partsAv s = (if okA x && (!p || okD y 40) then some (x, y) else none) → AW A 63 none a63.body e [] st K := by
    intro x y p hx hy hc hv
    rw [hc] at hcut
    have hd := digits_call (n := 10) hx hst
    have hd2 := digits_call (n := 40) hy hst
    simp at hd hd2
    have fin : ∀ e' : Env, (∃ vs, resultsA st e' a63.results = some vs ∧ oneOf vs = partsV (if okA x && (!p || okD y 40) then some (x, y) else none)) → K .ret e' [] st := by
      rintro e' ⟨vs, h1, h2⟩
      refine hK _ _ _ (.inl rfl) (by simp) ⟨vs, h1, ?_⟩
      rw [h2, hv]
      split <;> simp [partsV, AV.still, AV.stills]
    cases hdd : okD x 10 with
    | false =>
      rw [hdd] at hd
      have hoa : okA x = false := by simp [okA, hdd]
      simp [a63, he, a0, hcut, hd]
      exact fin _ ⟨_, rfl, by simp [he, hoa, partsV]⟩
    | true =>
      rw [hdd] at hd
      have hx1 : 1 ≤ x.length := by simp [okD] at hdd; exact hdd.1.1
      cases x with
      | nil => simp at hx1
      | cons b x =>
        by_cases hx0 : x = []
        · subst hx0
          have hoa : okA [b] = true := by simp [okA, hdd]
          cases p with
          | false =>
            simp [a63, he, a0, hcut, hd]
            exact fin _ ⟨_, rfl, by simp [he, hoa, partsV]⟩
          | true =>
            cases hd3 : okD y 40 with
            | false =>
              rw [hd3] at hd2
              simp [a63, he, a0, hcut, hd, hd2]
              exact fin _ ⟨_, rfl, by simp [he, hoa, hd3, partsV]⟩
            | true =>
              rw [hd3] at hd2
              simp [a63, he, a0, hcut, hd, hd2]
              exact fin _ ⟨_, rfl, by simp [he, hoa, hd3, partsV]⟩
        · have hx2 : 0 < x.length := List.length_pos_iff.2 hx0
          have hx3 : (1 : Int) < (x.length : Int) + 1 := by omega
          by_cases hb : b = 48
          · subst hb
            have hoa : okA (48 :: x) = false := by simp [okA, hdd, hx2]
            simp [a63, he, a0, hcut, hd, hx2, hx3, byteV]
            exact fin _ ⟨_, rfl, by simp [he, hoa, partsV]⟩
          · have hoa : okA (b :: x) = true := by simp [okA, hdd, hb]
            have hb' : ¬ b.toNat = 48 := fun h => hb (UInt8.toNat_inj.1 h)
            have hb'' : ¬ (b.toNat : Int) = 48 := by omega
            cases p with
            | false =>
              simp [a63, he, a0, hcut, hd, hx2, hx3, byteV, hb, hb', hb'']
              exact fin _ ⟨_, rfl, by simp [he, hoa, partsV]⟩
            | true =>
              cases hd3 : okD y 40 with
              | false =>
                rw [hd3] at hd2
                simp [a63, he, a0, hcut, hd, hd2, hx2, hx3, byteV, hb, hb', hb'']
                exact fin _ ⟨_, rfl, by simp [he, hoa, hd3, partsV]⟩
              | true =>
                rw [hd3] at hd2
                simp [a63, he, a0, hcut, hd, hd2, hx2, hx3, byteV, hb, hb', hb'']
                exact fin _ ⟨_, rfl, by simp [he, hoa, hd3, partsV]⟩
  cases hc : cutAt 46 s with
  | none => exact key s [] false hs (by simp) (by simp [cutAv, hc]) (by simp [partsAv, hc])
  | some p =>
    obtain ⟨x, y⟩ := p
    obtain ⟨_, h2, _⟩ := cutAt_some hc
    have hl : x.length + 1 + y.length = s.length := by rw [h2]; simp; omega
    exact key x y true (by omega) (by omega) (by simp [cutAv, hc]) (by simp [partsAv, hc])
end Go.Proofs.YtjgbbdmpddddhaaDoor

namespace Go.Proofs.YtjgbbdmpddddhaaDoor
open Go Ai

def decN (l : List UInt8) : Nat := l.foldl (fun n c => 10 * n + (c.toNat - 48)) 0
theorem decN_snoc (l : List UInt8) (c : UInt8) : decN (l ++ [c]) = 10 * decN l + (c.toNat - 48) := by simp [decN]
theorem digB_iff {c : UInt8} : digB c = true ↔ 48 ≤ c.toNat ∧ c.toNat ≤ 57 := by simp [digB, digP]
theorem decN_lt : ∀ (n : Nat) (l : List UInt8), l.length = n → (∀ c ∈ l, digB c = true) → decN l < 10 ^ n
  | 0, l, h, _ => by
    have : l = [] := List.eq_nil_of_length_eq_zero h
    subst this; simp [decN]
  | n + 1, l, h, hd => by
    rcases List.eq_nil_or_concat l with rfl | ⟨l', c, rfl⟩
    · simp at h
    · rw [List.concat_eq_append] at *
      have h1 := decN_lt n l' (by simpa using h) fun c hc => hd c (by simp [hc])
      have h2 := digB_iff.1 (hd c (by simp))
      rw [decN_snoc, Nat.pow_succ]; omega

theorem fn73 : A.fn 73 = some a73 := by kernel_rfl
theorem prim73 : A.prim 73 = none := by kernel_rfl
theorem fn64 : A.fn 64 = some a64 := by kernel_rfl
theorem prim64 : A.prim 64 = none := by kernel_rfl
def w73_0 : List Nat := a73_0.writes

set_option maxHeartbeats 1000000 in
theorem uint_call {s : List UInt8} (hs : okD s 10 = true) {st : St} (hst : StOk st) :
    runL A (.call 73 [.str s, .int .i64 10, .int .i64 64]) st = some ⟨.ret, ⟨[.tup [.int .u64 (decN s), .nilIface]], []⟩, st⟩ := by
  refine (task_of_aw (N := 172) prim73 fn73 rfl rfl hst ?_).1
  intro e he ha K hK
  have a0 := ha 0
  have a1 := ha 1
  have a2 := ha 2
  clear ha
  simp at a0 a1 a2
  simp only [okD, Bool.and_eq_true, decide_eq_true_eq, List.all_eq_true] at hs
  obtain ⟨⟨hs1, hs2⟩, hs3⟩ := hs
  have hne : ¬ s = [] := by intro h; subst h; simp at hs1
  have w48 : IntKind.u64.wrap 64 = 64 := by decide
  have wsh : shiftOp .shl .u64 1 64 = some (.int .u64 0) := by rfl
  have wm1 : IntKind.u64.wrap (-1) = 18446744073709551615 := by decide
  simp [a73, he, a0, a1, a2, hne, w48, wsh, wm1]
  refine aw_loop (W := w73_0) rfl (fun m e ds st' => ds = [] ∧ st' = st ∧ ∃ i : Nat, i + m = s.length ∧ AX.ev e (.t 101) = .int .i64 i ∧ AX.ev e (.t 12) = .bool false ∧ AX.ev e (.t 13) = .int .u64 (decN (s.take i))) s.length
    ⟨rfl, rfl, 0, by simp, by simp [he], by simp [he], by simp [he, decN]⟩ ?_
  rintro m e1 ds st' hs' ⟨rfl, rfl, i, hm, g101, g12, g13⟩ K1 kn kx
  have he1 : e1.length = 172 := by simp [hs'.1, he]
  have g1 := hs'.ev 1 rfl (v := .int .i64 10) (by simp [he, a1])
  have g8 := hs'.ev 8 rfl (v := .bool false) (by simp [he])
  have g10 := hs'.ev 10 rfl (v := .int .u64 1844674407370955162) (by simp [he])
  have g11 := hs'.ev 11 rfl (v := .int .u64 18446744073709551615) (by simp [he])
  have g99 := hs'.ev 99 rfl (v := .lst 1 (s.map byteV) .no) (by simp [he])
  have g100 := hs'.ev 100 rfl (v := .int .i64 s.length) (by simp [he])
  cases m with
  | zero =>
    have : i = s.length := by omega
    subst this
    rw [List.take_length] at g13
    simp [a73_0, g100, g101, he1]
    refine kx _ _ _ _ nofun fun hs' => ?_
    simp [g12, g13, he1]
    exact hK _ _ _ (.inl rfl) (by simp) ⟨_, rfl, by simp [he1, g13, AV.still, AV.stills]⟩
  | succ m =>
    have hi : i < s.length := by omega
    have hi' : (i : Int) < (s.length : Int) := by omega
    have hin : ¬ (i : Int) < 0 := by omega
    have hc := digB_iff.1 (hs3 _ (List.getElem_mem hi))
    obtain ⟨d, hd⟩ : ∃ d : Nat, s[i].toNat = 48 + d := ⟨s[i].toNat - 48, by omega⟩
    have hd9 : d ≤ 9 := by omega
    obtain ⟨n, hn⟩ : ∃ n : Nat, n = decN (s.take i) := ⟨_, rfl⟩
    have hn10 : n < 10 ^ 9 := by
      have h1 := decN_lt i (s.take i) (by simp; omega) fun c hc => hs3 c (List.mem_of_mem_take hc)
      have h2 : (10 : Nat) ^ i ≤ 10 ^ 9 := Nat.pow_le_pow_right (by decide) (by omega)
      omega
    have hn1 : decN (s.take (i + 1)) = 10 * n + d := by
      have ht : s.take (i + 1) = s.take i ++ [s[i]] := by simp
      rw [ht, decN_snoc, ← hn, hd]; omega
    have w1 : IntKind.u8.wrap (48 + (d : Int) - 48) = (d : Int) := by rw [wrap_u8 (by omega) (by omega)]; omega
    have w2 : IntKind.u8.wrap 10 = 10 := by decide
    have w3 : IntKind.u64.wrap 10 = 10 := by decide
    have w4 : IntKind.u64.wrap ((n : Int) * 10) = ((n * 10 : Nat) : Int) := by rw [wrap_u64 (by omega) (by omega)]; simp
    have w5 : IntKind.u64.wrap (d : Int) = (d : Int) := wrap_u64 (by omega) (by omega)
    have w6 : IntKind.u64.wrap ((n : Int) * 10 + (d : Int)) = ((10 * n + d : Nat) : Int) := by rw [wrap_u64 (by omega) (by omega)]; simp; omega
    have w7 : IntKind.i64.wrap ((i : Int) + 1) = (i : Int) + 1 := wrap_i64 (by omega) (by omega)
    have c1 : ¬ (48 + d = 95) := by omega
    have c1' : ¬ ((48 : Int) + (d : Int) = 95) := by omega
    have c2 : (48 : Int) ≤ 48 + (d : Int) := by omega
    have c3 : (48 : Int) + (d : Int) ≤ 57 := by omega
    have c4 : ¬ (10 : Int) ≤ (d : Int) := by omega
    have c5 : ¬ (1844674407370955162 : Int) ≤ (n : Int) := by omega
    have c6 : ¬ (10 * (n : Int) + (d : Int) < (n : Int) * 10) := by omega
    have c7 : ¬ ((18446744073709551615 : Int) < 10 * (n : Int) + (d : Int)) := by omega
    rw [← hn] at g13
    simp [a73_0, g1, g8, g10, g11, g12, g13, g99, g100, g101, he1, hi, hi', hin, byteV, hd, w1, w2, w3, w4, w5, w6, w7, c1, c1', c2, c3, c4, c5, c6, c7]
    exact kn m _ _ _ (by omega) ⟨rfl, rfl, i + 1, by omega, by simp [he1], by simp [he1, g12], by simp [he1, hn1]⟩

theorem parseUint_call {s : List UInt8} (hs : okD s 10 = true) {st : St} (hst : StOk st) :
    runL A (.call 64 [.str s, .int .i64 10, .int .i64 64]) st = some ⟨.ret, ⟨[.tup [.int .u64 (decN s), .nilIface]], []⟩, st⟩ := by
  refine (task_of_aw (N := 26) prim64 fn64 rfl rfl hst ?_).1
  intro e he ha K hK
  have a0 := ha 0
  have a1 := ha 1
  have a2 := ha 2
  clear ha
  simp at a0 a1 a2
  have h42 := uint_call hs hst
  simp [a64, he, a0, a1, a2, h42]
  exact hK _ _ _ (.inl rfl) (by simp) ⟨_, rfl, by simp [he, AV.still, AV.stills]⟩

/-! The doubling of digits behind a point. -/
def dbl : List Nat → Nat × List Nat
  | [] => (0, [])
  | d :: l => ((2 * d + (dbl l).1) / 10, (2 * d + (dbl l).1) % 10 :: (dbl l).2)
theorem dbl_length : ∀ l, (dbl l).2.length = l.length
  | [] => rfl
  | d :: l => by simp [dbl, dbl_length l]
theorem dbl_lt : ∀ l : List Nat, ∀ d ∈ (dbl l).2, d < 10
  | [], d, h => by simp [dbl] at h
  | x :: l, d, h => by
    simp only [dbl, List.mem_cons] at h
    rcases h with rfl | h
    · exact Nat.mod_lt _ (by decide)
    · exact dbl_lt l d h
theorem dbl_carry : ∀ l : List Nat, (∀ d ∈ l, d < 10) → (dbl l).1 ≤ 1
  | [], _ => by simp [dbl]
  | x :: l, h => by
    have h1 := dbl_carry l fun d hd => h d (by simp [hd])
    have h2 := h x (by simp)
    simp only [dbl]; omega
def dv (d : Nat) : AV := .int .u8 (48 + d : Nat)
theorem dv_cell (l : List Nat) : (∀ x, x ∈ l.map dv → x.isCell = true) = True := eq_true (by simp [dv, AV.isCell])

theorem fn75 : A.fn 75 = some a75 := by kernel_rfl
theorem prim75 : A.prim 75 = none := by kernel_rfl
def w75_0 : List Nat := a75_0.writes

set_option maxHeartbeats 1000000 in
theorem double_call {l : List Nat} (hl : l.length ≤ 1000) (hd : ∀ d ∈ l, d < 10) {st : St} {r j : Nat} {ty tj : Option TypeId} (hr : st[r]? = some (.cells ty [.sl j 1 0 l.length none])) (hj : st[j]? = some (.cells tj (l.map dv))) (hrj : j ≠ r) :
    runL A (.call 75 [.ptr r 0]) st = some ⟨.ret, ⟨[.int .i64 (dbl l).1], []⟩, st.set j (.cells tj ((dbl l).2.map dv))⟩ := by
  refine (task_of_aw_keep (N := 30) prim75 fn75 rfl rfl ?_).1
  intro e he ha K hK
  have a0 := ha 0
  clear ha
  simp at a0
  have w0 : IntKind.i64.wrap ((l.length : Int) - 1) = (l.length : Int) - 1 := wrap_i64 (by omega) (by omega)
  simp [a75, he, a0, hr, takeVar, w0]
  refine aw_loop (W := w75_0) rfl (fun m e ds st' => ds = [] ∧ m ≤ l.length ∧ st' = st.set j (.cells tj ((l.take m ++ (dbl (l.drop m)).2).map dv)) ∧ AX.ev e (.t 3) = .int .i64 ((m : Int) - 1) ∧ AX.ev e (.t 2) = .int .u8 (dbl (l.drop m)).1) l.length
    ⟨rfl, Nat.le_refl _, ?_, by simp [he], by simp [he, dbl]⟩ ?_
  · have : (l.take l.length ++ (dbl (l.drop l.length)).2) = l := by simp [dbl]
    rw [this]
    apply List.ext_getElem?
    intro i
    rw [List.getElem?_set]
    split
    · rename_i h; subst h; rw [hj, if_pos (List.getElem?_eq_some_iff.1 hj).1]
    · rfl
  rintro m e1 ds st' hs' ⟨rfl, hml, rfl, g3, g2⟩ K1 kn kx
  have he1 : e1.length = 30 := by simp [hs'.1, he]
  have g0 := hs'.ev 0 rfl (v := .ptr r 0) (by simp [a0])
  have hjl := (List.getElem?_eq_some_iff.1 hj).1
  have hrl := (List.getElem?_eq_some_iff.1 hr).1
  have hr' : ∀ x : AObj, (st.set j x)[r]? = some (.cells ty [.sl j 1 0 l.length none]) := fun x => by rw [List.getElem?_set_ne hrj]; exact hr
  cases m with
  | zero =>
    simp at g2 g3
    have hc := dbl_carry l hd
    have w1 : IntKind.i64.wrap ((dbl l).1 : Int) = ((dbl l).1 : Int) := wrap_i64 (by omega) (by omega)
    simp [a75_0, g3, he1]
    refine kx _ _ _ _ nofun fun hs' => ?_
    simp [g2, he1, w1]
    exact hK _ _ (.inl rfl) ⟨_, rfl, by simp [he1]⟩
  | succ m =>
    have hm : m < l.length := by omega
    have hc := dbl_carry (l.drop (m + 1)) fun d hdd => hd d (List.mem_of_mem_drop hdd)
    obtain ⟨c, hcc⟩ : ∃ c : Nat, c = (dbl (l.drop (m + 1))).1 := ⟨_, rfl⟩
    have hx := hd _ (List.getElem_mem hm)
    obtain ⟨x, hxx⟩ : ∃ x : Nat, x = l[m] := ⟨_, rfl⟩
    have hdr : l.drop m = x :: l.drop (m + 1) := by rw [hxx]; exact List.drop_eq_getElem_cons hm
    have htk : l.take (m + 1) = l.take m ++ [x] := by rw [hxx]; simp
    rw [← hcc] at hc g2
    rw [← hxx] at hx
    have g3' : AX.ev e1 (.t 3) = .int .i64 (m : Int) := by rw [g3]; congr 1; omega
    have hdb1 : (dbl (l.drop m)).1 = (2 * x + c) / 10 := by rw [hdr, hcc]; rfl
    have hdb2 : (dbl (l.drop m)).2 = (2 * x + c) % 10 :: (dbl (l.drop (m + 1))).2 := by rw [hdr, hcc]; rfl
    have hlen2 := dbl_length (l.drop (m + 1))
    obtain ⟨t, ht⟩ : ∃ t, t = (dbl (l.drop (m + 1))).2 := ⟨_, rfl⟩
    rw [← ht] at hdb2 hlen2
    rw [htk, ← ht]
    have hgx : (List.map dv (List.take m l ++ [x] ++ t))[m]? = some (dv x) := by
      rw [List.getElem?_map, List.append_assoc, List.getElem?_append_right (by simp; omega)]
      simp [Nat.min_eq_left (Nat.le_of_lt hm)]
    have hset : (List.map dv (List.take m l ++ [x] ++ t)).set m (dv ((2 * x + c) % 10)) = List.map dv (List.take m l ++ (dbl (l.drop m)).2) := by
      rw [hdb2, List.append_assoc, List.map_append, List.map_append, List.set_append]
      simp [Nat.min_eq_left (Nat.le_of_lt hm)]
    have hlen : (List.map dv (List.take m l ++ [x] ++ t)).length = l.length := by simp [hlen2]; omega
    obtain ⟨cs, hcs⟩ : ∃ cs, cs = List.map dv (List.take m l ++ [x] ++ t) := ⟨_, rfl⟩
    rw [← hcs] at hgx hset hlen ⊢
    have w1 : IntKind.u8.wrap (48 + (x : Int) - 48) = (x : Int) := by rw [wrap_u8 (by omega) (by omega)]; omega
    have w2 : IntKind.u8.wrap (2 * (x : Int)) = ((2 * x : Nat) : Int) := by rw [wrap_u8 (by omega) (by omega)]; simp
    have w3 : IntKind.u8.wrap (2 * (x : Int) + (c : Int)) = ((2 * x + c : Nat) : Int) := by rw [wrap_u8 (by omega) (by omega)]; simp
    obtain ⟨y, hy⟩ : ∃ y : Nat, y = 2 * x + c := ⟨_, rfl⟩
    rw [← hy] at hdb1 hdb2 hset w3
    have w4 : IntKind.u8.wrap ((y : Int).tdiv 10) = ((y / 10 : Nat) : Int) := by rw [Int.tdiv_eq_ediv_of_nonneg (by omega), wrap_u8 (by omega) (by omega)]; simp
    have w4' : IntKind.u8.wrap ((y : Int) / 10) = ((y / 10 : Nat) : Int) := by rw [wrap_u8 (by omega) (by omega)]; simp
    have w5 : IntKind.u8.wrap (48 + (y : Int) % 10) = ((48 + y % 10 : Nat) : Int) := by rw [wrap_u8 (by omega) (by omega)]; simp
    have w6 : IntKind.i64.wrap ((m : Int) - 1) = (m : Int) - 1 := wrap_i64 (by omega) (by omega)
    have hdvx : dv x = .int .u8 (48 + (x : Int)) := by simp [dv]
    have hdvy : AV.int .u8 ((48 + y % 10 : Nat) : Int) = dv (y % 10) := rfl
    have hml' : (m : Int) < (l.length : Int) := by omega
    have hmn : ¬ (m : Int) < 0 := by omega
    have hm1 : m + 1 ≤ l.length := by omega
    rw [hdvx] at hgx
    have hgx' : cs[m]'(by omega) = .int .u8 (48 + (x : Int)) := by
      have := List.getElem?_eq_some_iff.1 hgx
      exact this.2
    have hset' : cs.set m (.int .u8 (48 + (y : Int) % 10)) = List.map dv (List.take m l ++ (dbl (List.drop m l)).2) := by
      rw [← hset]; simp [dv]
    simp [a75_0, g0, g2, g3', he1, hr', hjl, takeVar, w1, w2, w3, w4, w4', w5, w6, hml', hmn, hm, hm1, hlen, putCells, hgx', hset']
    exact kn m _ _ _ (by omega) ⟨rfl, by omega, by simp, by simp [he1], by simp [he1, hdb1]⟩

/-- So many bits of what stands behind a point, behind what there is. -/
def fracN : Nat → List Nat → Nat → Nat
  | 0, _, u => u
  | k + 1, l, u => fracN k (dbl l).2 (2 * u + (dbl l).1)
theorem fracN_lt : ∀ (k : Nat) (l : List Nat) (u n : Nat), (∀ d ∈ l, d < 10) → u < 2 ^ n → fracN k l u < 2 ^ (n + k)
  | 0, _, _, _, _, h => h
  | k + 1, l, u, n, hd, h => by
    have h1 := dbl_carry l hd
    have := fracN_lt k (dbl l).2 (2 * u + (dbl l).1) (n + 1) (dbl_lt l) (by rw [Nat.pow_succ]; omega)
    rw [fracN, show n + (k + 1) = n + 1 + k by omega]; exact this
theorem or_low {a b k : Nat} (hb : b < 2 ^ k) (h : a * 2 ^ k + b < 9223372036854775808) :
    IntKind.i64.wrap ((BitVec.ofInt IntKind.i64.bits (a * 2 ^ k : Nat) ||| BitVec.ofInt IntKind.i64.bits (b : Int)).toNat : Int) = ((a * 2 ^ k + b : Nat) : Int) := by
  have h1 : (BitVec.ofInt IntKind.i64.bits ((a * 2 ^ k : Nat) : Int)).toNat = a * 2 ^ k := by
    simp only [IntKind.bits, BitVec.toNat_ofInt]; omega
  have h2 : (BitVec.ofInt IntKind.i64.bits (b : Int)).toNat = b := by
    simp only [IntKind.bits, BitVec.toNat_ofInt]; omega
  rw [BitVec.toNat_or, h1, h2, Nat.mul_comm, ← Nat.two_pow_add_eq_or_of_lt hb, Nat.mul_comm]
  exact wrap_i64 (by omega) (by omega)
theorem or_low64 {a b k : Nat} (hb : b < 2 ^ k) (h : a * 2 ^ k + b < 18446744073709551616) :
    IntKind.u64.wrap ((BitVec.ofInt IntKind.u64.bits (a * 2 ^ k : Nat) ||| BitVec.ofInt IntKind.u64.bits (b : Int)).toNat : Int) = ((a * 2 ^ k + b : Nat) : Int) := by
  have h1 : (BitVec.ofInt IntKind.u64.bits ((a * 2 ^ k : Nat) : Int)).toNat = a * 2 ^ k := by
    simp only [IntKind.bits, BitVec.toNat_ofInt]; omega
  have h2 : (BitVec.ofInt IntKind.u64.bits (b : Int)).toNat = b := by
    simp only [IntKind.bits, BitVec.toNat_ofInt]; omega
  rw [BitVec.toNat_or, h1, h2, Nat.mul_comm, ← Nat.two_pow_add_eq_or_of_lt hb, Nat.mul_comm]
  exact wrap_u64 (by omega) (by omega)

def digsOf (s : List UInt8) : List Nat := s.map fun c => c.toNat - 48
theorem fn65 : A.fn 65 = some a65 := by kernel_rfl
theorem prim65 : A.prim 65 = none := by kernel_rfl
def w65_0 : List Nat := a65_0.writes

set_option maxHeartbeats 1000000 in
theorem fraction_call {s : List UInt8} (hs : s.length ≤ 100) (hd : ∀ c ∈ s, digB c = true) {st : St} (hst : StOk st) :
    runL A (.call 65 [.str s]) st = some ⟨.ret, ⟨[.int .i64 (fracN 32 (digsOf s) 0)], []⟩, st⟩ := by
  refine (task_of_aw (N := 18) prim65 fn65 rfl rfl hst ?_).1
  intro e he ha K hK
  have a0 := ha 0
  clear ha
  simp at a0
  have hmap : s.map byteV = (digsOf s).map dv := by
    rw [digsOf, List.map_map]
    refine List.map_congr_left fun c hc => ?_
    have := digB_iff.1 (hd c hc)
    simp only [byteV, dv, Function.comp]
    congr 1; omega
  have hlen : s.length = (digsOf s).length := by simp [digsOf]
  have hdl : ∀ d ∈ digsOf s, d < 10 := by
    intro d hdd
    simp only [digsOf, List.mem_map] at hdd
    obtain ⟨c, hc, rfl⟩ := hdd
    have := digB_iff.1 (hd c hc)
    omega
  obtain ⟨l0, hl0⟩ : ∃ l0, l0 = digsOf s := ⟨_, rfl⟩
  rw [← hl0] at hmap hlen hdl hK
  simp [a65, he, a0, hmap, AV.cells, putCells, AV.isCell]
  refine aw_loop (W := w65_0) rfl (fun m e ds st' => ds = [] ∧ m ≤ 32 ∧ ∃ (l : List Nat) (u : Nat), l.length = l0.length ∧ (∀ d ∈ l, d < 10) ∧ u < 2 ^ (32 - m) ∧ fracN m l u = fracN 32 l0 0 ∧
      st' = st ++ [.cells none (l.map dv), .cells none [.sl st.length 1 0 l0.length none]] ∧ AX.ev e (.t 9) = .int .i64 ((32 - m : Nat) : Int) ∧ AX.ev e (.t 5) = .int .i64 u) 32
    ⟨rfl, Nat.le_refl _, l0, 0, rfl, hdl, by decide, rfl, ?_, by simp [he], by simp [he]⟩ ?_
  · rw [hlen]
  rintro m e1 ds st' hs' ⟨rfl, hm, l, u, hll, hld, hu, hfr, rfl, g9, g5⟩ K1 kn kx
  have he1 : e1.length = 18 := by simp [hs'.1, he]
  have g4 := hs'.ev 4 rfl (v := .func (.func 75) [] [.ptr (st.length + 1) 0]) (by simp [he])
  have hufin : u < 4294967296 := by
    have : (2 : Nat) ^ (32 - m) ≤ 2 ^ 32 := Nat.pow_le_pow_right (by decide) (by omega)
    omega
  cases m with
  | zero =>
    simp [a65_0, g9, he1]
    refine kx _ _ _ _ nofun fun hs' => ?_
    have hfu : fracN 32 l0 0 = u := hfr.symm
    simp [g5, he1]
    exact hK _ _ _ (.inl rfl) (by simp) ⟨_, rfl, by simp [he1, hfu, AV.still, AV.stills]⟩
  | succ m =>
    have hdc := double_call (l := l) (st := st ++ [.cells none (l.map dv), .cells none [.sl st.length 1 0 l0.length none]]) (r := st.length + 1) (j := st.length) (ty := none) (tj := none) (by omega) hld (by simp [hll]) (by simp) (by omega)
    have hc := dbl_carry l hld
    have w1 : IntKind.i64.wrap ((u : Int) * 2) = ((u * 2 ^ 1 : Nat) : Int) := by rw [wrap_i64 (by omega) (by omega)]; simp
    have hu2 : u < 2147483648 := by
      have : (2 : Nat) ^ (32 - (m + 1)) ≤ 2 ^ 31 := Nat.pow_le_pow_right (by decide) (by omega)
      omega
    have wo := or_low (a := u) (b := (dbl l).1) (k := 1) (by omega) (by omega)
    have w2 : IntKind.i64.wrap (((32 - (m + 1) : Nat) : Int) + 1) = ((32 - m : Nat) : Int) := by rw [wrap_i64 (by omega) (by omega)]; omega
    have c1 : ((32 - (m + 1) : Nat) : Int) < 32 := by omega
    have wsh : shiftOp .shl .i64 (u : Int) 1 = some (.int .i64 ((u * 2 ^ 1 : Nat) : Int)) := by
      simp [shiftOp, IntKind.bits]; simpa using w1
    simp at hdc wo wsh
    obtain ⟨q, hq⟩ : ∃ q : Nat, q = 32 - (m + 1) := ⟨_, rfl⟩
    rw [← hq] at g9 c1 w2
    simp [a65_0, g9, g5, g4, he1, c1, hdc, wsh, wo, w2]
    exact kn m _ _ _ (by omega) ⟨rfl, by omega, (dbl l).2, 2 * u + (dbl l).1, by rw [dbl_length]; exact hll, dbl_lt l, by rw [show 32 - m = 32 - (m + 1) + 1 by omega, Nat.pow_succ]; omega, by rw [← hfr]; rfl, by simp, by simp [he1], by simp [he1]; omega⟩
end Go.Proofs.YtjgbbdmpddddhaaDoor

namespace Go.Proofs.YtjgbbdmpddddhaaDoor
open Go Ai

theorem fn53 : A.fn 53 = some a53 := by kernel_rfl
theorem prim53 : A.prim 53 = none := by kernel_rfl
theorem fn44 : A.fn 44 = some a44 := by kernel_rfl
theorem prim44 : A.prim 44 = none := by kernel_rfl

theorem okD_all {s : List UInt8} {n : Nat} (h : okD s n = true) : s.length ≤ n ∧ ∀ c ∈ s, digB c = true := by
  simp only [okD, Bool.and_eq_true, decide_eq_true_eq, List.all_eq_true] at h
  exact ⟨h.1.2, h.2⟩
theorem partsAv_ok {s x y : List UInt8} (h : partsAv s = some (x, y)) : okD x 10 = true ∧ y.length ≤ 40 ∧ ∀ c ∈ y, digB c = true := by
  unfold partsAv at h
  split at h
  · split at h
    · rename_i ho
      cases h
      simp only [okA, Bool.and_eq_true] at ho
      exact ⟨ho.1, by simp, by simp⟩
    · cases h
  · split at h
    · rename_i ho
      cases h
      simp only [okA, Bool.and_eq_true] at ho
      exact ⟨ho.1.1, okD_all ho.2⟩
    · cases h

def sizeN (p : List UInt8 × List UInt8) : Nat := if 4294967295 < decN p.1 then 18446744073709551615 else decN p.1 * 4294967296 + fracN 32 (digsOf p.2) 0
theorem frac_lt {y : List UInt8} (hd : ∀ c ∈ y, digB c = true) : fracN 32 (digsOf y) 0 < 4294967296 := by
  refine fracN_lt 32 (digsOf y) 0 0 ?_ (by decide)
  intro d hdd
  simp only [digsOf, List.mem_map] at hdd
  obtain ⟨c, hc, rfl⟩ := hdd
  have := digB_iff.1 (hd c hc)
  omega
theorem sizeN_lt {p : List UInt8 × List UInt8} (hd : ∀ c ∈ p.2, digB c = true) : sizeN p < 18446744073709551616 := by
  have := frac_lt hd
  unfold sizeN; split <;> omega
def sizeV : Option (List UInt8 × List UInt8) → AV
  | none => .tup [.int .u64 0, .bool false]
  | some p => .tup [.int .u64 (sizeN p), .bool true]

theorem size_call {s : List UInt8} (hs : s.length ≤ 1000000000) {st : St} (hst : StOk st) :
    runL A (.call 53 [.str s]) st = some ⟨.ret, ⟨[sizeV (partsAv s)], []⟩, st⟩ := by
  refine (task_of_aw (N := 34) prim53 fn53 rfl rfl hst ?_).1
  intro e he ha K hK
  have a0 := ha 0
  clear ha
  simp at a0
  have hp := parts_call hs hst
  cases hv : partsAv s with
  | none =>
    simp [hv, partsV] at hp
    simp [a53, he, a0, hp]
    exact hK _ _ _ (.inl rfl) (by simp) ⟨_, rfl, by simp [he, hv, sizeV, AV.still, AV.stills]⟩
  | some p =>
    obtain ⟨x, y⟩ := p
    simp [hv, partsV] at hp
    obtain ⟨h1, h2, h3⟩ := partsAv_ok hv
    have hu := parseUint_call h1 hst
    have hn : decN x < 10 ^ 10 := by
      have h4 := okD_all h1
      have := decN_lt x.length x rfl h4.2
      have : (10 : Nat) ^ x.length ≤ 10 ^ 10 := Nat.pow_le_pow_right (by decide) h4.1
      omega
    obtain ⟨n, hnn⟩ : ∃ n, n = decN x := ⟨_, rfl⟩
    rw [← hnn] at hn hu
    by_cases hb : 4294967295 < n
    · have hb' : (4294967295 : Int) < (n : Int) := by omega
      simp [a53, he, a0, hp, hu, hb, hb']
      exact hK _ _ _ (.inl rfl) (by simp) ⟨_, rfl, by simp [he, hv, sizeV, sizeN, ← hnn, hb, AV.still, AV.stills]⟩
    · have hb' : ¬ (4294967295 : Int) < (n : Int) := by omega
      have hf := frac_lt h3
      have hfr := fraction_call (by omega) h3 hst
      obtain ⟨f, hff⟩ : ∃ f, f = fracN 32 (digsOf y) 0 := ⟨_, rfl⟩
      rw [← hff] at hf hfr
      have wsh : shiftOp .shl .u64 (n : Int) 32 = some (.int .u64 ((n * 2 ^ 32 : Nat) : Int)) := by
        simp [shiftOp, IntKind.bits]; rw [wrap_u64 (by omega) (by omega)]
      have wf : IntKind.u64.wrap (f : Int) = (f : Int) := wrap_u64 (by omega) (by omega)
      have wo := or_low64 (a := n) (b := f) (k := 32) (by omega) (by omega)
      simp at wo wsh
      simp [a53, he, a0, hp, hu, hb, hb', wsh, hfr, wf, wo]
      exact hK _ _ _ (.inl rfl) (by simp) ⟨_, rfl, by simp [he, hv, sizeV, sizeN, ← hnn, hb, ← hff, AV.still, AV.stills]⟩

def parseV : Option (List UInt8 × List UInt8) → AV
  | none => .tup [.int .i64 0, .bool false]
  | some p => if 9223372036854775807 < sizeN p then .tup [.int .i64 0, .bool false] else .tup [.int .i64 (sizeN p), .bool true]
theorem parse_call {s : List UInt8} (hs : s.length ≤ 1000000000) {st : St} (hst : StOk st) :
    runL A (.call 44 [.str s]) st = some ⟨.ret, ⟨[parseV (partsAv s)], []⟩, st⟩ := by
  refine (task_of_aw (N := 19) prim44 fn44 rfl rfl hst ?_).1
  intro e he ha K hK
  have a0 := ha 0
  clear ha
  simp at a0
  have hp := size_call hs hst
  cases hv : partsAv s with
  | none =>
    simp [hv, sizeV] at hp
    simp [a44, he, a0, hp]
    exact hK _ _ _ (.inl rfl) (by simp) ⟨_, rfl, by simp [he, hv, parseV, AV.still, AV.stills]⟩
  | some p =>
    simp [hv, sizeV] at hp
    obtain ⟨u, hu⟩ : ∃ u, u = sizeN p := ⟨_, rfl⟩
    rw [← hu] at hp
    by_cases hb : 9223372036854775807 < u
    · have hb' : (9223372036854775807 : Int) < (u : Int) := by omega
      simp [a44, he, a0, hp, hb, hb']
      exact hK _ _ _ (.inl rfl) (by simp) ⟨_, rfl, by simp [he, hv, parseV, ← hu, hb, AV.still, AV.stills]⟩
    · have hb' : ¬ (9223372036854775807 : Int) < (u : Int) := by omega
      have w : IntKind.i64.wrap (u : Int) = (u : Int) := wrap_i64 (by omega) (by omega)
      simp [a44, he, a0, hp, hb, hb', w]
      exact hK _ _ _ (.inl rfl) (by simp) ⟨_, rfl, by simp [he, hv, parseV, ← hu, hb, AV.still, AV.stills]⟩

end Go.Proofs.YtjgbbdmpddddhaaDoor

namespace Go.Proofs.YtjgbbdmpddddhaaDoor
open Go Ai

/-! Gaps. -/
def gapB (c : UInt8) : Bool := decide (c = 32) || decide (c = 9) || decide (c = 10) || decide (c = 13)
def letB (c : UInt8) : Bool := (decide (65 ≤ c.toNat) && decide (c.toNat ≤ 90)) || (decide (97 ≤ c.toNat) && decide (c.toNat ≤ 122)) || decide (c.toNat = 95)
def innB (c : UInt8) : Bool := letB c || digB c
/-- How many bytes of gaps there are; 'true': inside a comment. -/
def skipN : Bool → List UInt8 → Nat
  | _, [] => 0
  | true, c :: l => 1 + skipN (!decide (c = 10)) l
  | false, c :: l => if c = 35 then 1 + skipN true l else if gapB c then 1 + skipN false l else 0
theorem skipN_le : ∀ (b : Bool) (l : List UInt8), skipN b l ≤ l.length
  | true, [] => by simp [skipN]
  | false, [] => by simp [skipN]
  | true, c :: l => by have := skipN_le (!decide (c = 10)) l; simp [skipN]; omega
  | false, c :: l => by
    have h1 := skipN_le true l
    have h2 := skipN_le false l
    simp only [skipN, List.length_cons]
    split
    · omega
    · split <;> omega
/-- Where gaps end, there is something. -/
theorem skipN_stop : ∀ (b : Bool) (l : List UInt8) (c : UInt8) (r : List UInt8), l.drop (skipN b l) = c :: r → c ≠ 35 ∧ gapB c = false
  | true, [], c, r, h => by simp [skipN] at h
  | false, [], c, r, h => by simp [skipN] at h
  | true, d :: l, c, r, h => by
    rw [skipN, Nat.add_comm, List.drop_succ_cons] at h
    exact skipN_stop _ l c r h
  | false, d :: l, c, r, h => by
    rw [skipN] at h
    split at h
    · rw [Nat.add_comm, List.drop_succ_cons] at h; exact skipN_stop _ l c r h
    · split at h
      · rw [Nat.add_comm, List.drop_succ_cons] at h; exact skipN_stop _ l c r h
      · rename_i h1 h2
        simp at h
        obtain ⟨rfl, _⟩ := h
        exact ⟨h1, by simpa using h2⟩
theorem lf_step (a n k : Nat) : 1 + (if a = n then n + 1 + k else a) = if 1 + a = n + 1 then n + 1 + 1 + k else 1 + a := by
  by_cases h : a = n
  · rw [if_pos h, if_pos (by omega)]; omega
  · rw [if_neg h, if_neg (by omega)]
theorem skipN_lf : ∀ (b : Bool) (l t : List UInt8), skipN b (l ++ 10 :: t) = if skipN b l = l.length then l.length + 1 + skipN false t else skipN b l
  | true, [], t => by simp [skipN]
  | false, [], t => by simp [skipN, gapB]
  | true, c :: l, t => by
    have := skipN_lf (!decide (c = 10)) l t
    simp only [List.cons_append, skipN, this, List.length_cons]
    exact lf_step _ _ _
  | false, c :: l, t => by
    have h1 := skipN_lf true l t
    have h2 := skipN_lf false l t
    simp only [List.cons_append, skipN, h1, h2, List.length_cons]
    split
    · exact lf_step _ _ _
    · split
      · exact lf_step _ _ _
      · rw [if_neg (by omega)]
/-- What is cut off behind the gaps. -/
theorem skipN_take : ∀ (b : Bool) (l : List UInt8) (m : Nat), skipN b l ≤ m → skipN b (l.take m) = skipN b l
  | true, [], m, _ => by simp
  | false, [], m, _ => by simp
  | true, c :: l, 0, h => by simp [skipN] at h
  | true, c :: l, m + 1, h => by
    rw [skipN] at h
    rw [List.take_succ_cons, skipN, skipN, skipN_take _ l m (by omega)]
  | false, c :: l, 0, h => by
    rw [skipN] at h
    rw [skipN]
    split at h
    · omega
    · split at h
      · omega
      · rename_i h1 h2
        simp [h1, h2, skipN]
  | false, c :: l, m + 1, h => by
    rw [skipN] at h
    rw [List.take_succ_cons, skipN, skipN]
    split at h
    · rename_i h1; rw [if_pos h1, if_pos h1, skipN_take _ l m (by omega)]
    · rename_i h1
      rw [if_neg h1, if_neg h1]
      split at h
      · rename_i h2; rw [if_pos h2, if_pos h2, skipN_take _ l m (by omega)]
      · rename_i h2; rw [if_neg h2, if_neg h2]
theorem skipN_app {b : Bool} {l z : List UInt8} (h : skipN b l < l.length) : skipN b (l ++ z) = skipN b l := by
  induction l generalizing b with
  | nil => simp at h
  | cons c l ih =>
    cases b with
    | true =>
      rw [skipN] at h
      rw [List.cons_append, skipN, skipN, ih (by simpa using (by simp at h; omega))]
    | false =>
      rw [skipN] at h
      rw [List.cons_append, skipN, skipN]
      split at h
      · rename_i h1; rw [if_pos h1, if_pos h1, ih (by simp at h; omega)]
      · rename_i h1
        rw [if_neg h1, if_neg h1]
        split at h
        · rename_i h2; rw [if_pos h2, if_pos h2, ih (by simp at h; omega)]
        · rename_i h2; rw [if_neg h2, if_neg h2]

/-! Tokens. -/
structure Tok where
  kind : Nat
  text : List UInt8
  v : Int
  pos : Nat
  deriving DecidableEq
def wordsL : List (List UInt8) := [[102, 117, 110], [110, 111, 100, 101], [104, 121, 98, 114, 105, 100], [108, 101, 116], [100, 101, 114], [105, 110, 105, 116], [114, 101, 115, 101, 116], [111, 110], [117, 112], [109, 101, 109], [109, 111, 100, 101], [102, 114, 111, 109], [103, 111, 116, 111], [111, 117, 116], [105, 102], [116, 104, 101, 110], [101, 108, 115, 101], [112, 114, 101], [102, 98, 121], [116, 114, 117, 101], [102, 97, 108, 115, 101], [110, 111, 116], [97, 110, 100], [111, 114], [105, 115], [115, 113, 114, 116], [114, 101, 116, 117, 114, 110], [115, 101, 116], [102, 105, 120], [98, 111, 111, 108]]
def wordB (s : List UInt8) : Bool := decide (s ∈ wordsL)
def numAfter (a : Nat) : List UInt8 → Nat
  | [] => a
  | d :: r => if d = 46 then (match r with
    | [] => a
    | c :: r' => if digB c then a + 1 + ((c :: r').takeWhile digB).length else a) else a
def numLen (l : List UInt8) : Nat := numAfter (l.takeWhile digB).length (l.drop (l.takeWhile digB).length)
def ones : List UInt8 := [40, 41, 123, 125, 44, 59, 58, 61, 43, 45, 42, 47, 60, 46]
def twoB (c d : UInt8) : Bool := (decide (c = 45) && decide (d = 62)) || (decide (c = 60) && decide (d = 61)) || (decide (c = 61) && decide (d = 61))
def signLen : List UInt8 → Nat
  | [] => 0
  | [c] => if c ∈ ones then 1 else 0
  | c :: d :: _ => if twoB c d then 2 else if c ∈ ones then 1 else 0
def valP (x : List UInt8) : Int × Bool := match partsAv x with
  | none => (0, false)
  | some p => if 9223372036854775807 < sizeN p then (0, false) else ((sizeN p : Int), true)
def tokOf (l : List UInt8) (pos : Nat) : Tok × Bool := match l with
  | [] => (⟨0, [], 0, pos⟩, false)
  | c :: _ =>
    if letB c then (⟨if wordB (l.takeWhile innB) then 3 else 1, l.takeWhile innB, 0, pos⟩, decide ((l.takeWhile innB).length ≤ 16))
    else if digB c then (⟨2, l.take (numLen l), (valP (l.take (numLen l))).1, pos⟩, (valP (l.take (numLen l))).2)
    else (⟨4, l.take (signLen l), 0, pos⟩, decide (signLen l ≠ 0))
theorem takeWhile_len {α} (p : α → Bool) : ∀ l : List α, (l.takeWhile p).length ≤ l.length
  | [] => by simp
  | a :: l => by
    have := takeWhile_len p l
    rw [List.takeWhile_cons]; split <;> simp; omega
theorem numLen_pos {c : UInt8} {l : List UInt8} (h : digB c = true) : 0 < numLen (c :: l) := by
  have : 0 < ((c :: l).takeWhile digB).length := by simp [List.takeWhile_cons, h]
  unfold numLen
  generalize ((c :: l).drop ((c :: l).takeWhile digB).length) = z
  cases z with
  | nil => exact this
  | cons d r =>
    simp only [numAfter]
    split
    · cases r with
      | nil => exact this
      | cons e r => simp only; split <;> omega
    · exact this
theorem tokOf_cons (c : UInt8) (l : List UInt8) (pos : Nat) : tokOf (c :: l) pos =
    if letB c then (⟨if wordB ((c :: l).takeWhile innB) then 3 else 1, (c :: l).takeWhile innB, 0, pos⟩, decide (((c :: l).takeWhile innB).length ≤ 16))
    else if digB c then (⟨2, (c :: l).take (numLen (c :: l)), (valP ((c :: l).take (numLen (c :: l)))).1, pos⟩, (valP ((c :: l).take (numLen (c :: l)))).2)
    else (⟨4, (c :: l).take (signLen (c :: l)), 0, pos⟩, decide (signLen (c :: l) ≠ 0)) := rfl
theorem tokOf_pos {c : UInt8} {l : List UInt8} {pos : Nat} (h : (tokOf (c :: l) pos).2 = true) : 0 < (tokOf (c :: l) pos).1.text.length := by
  unfold tokOf at h ⊢
  simp only at h ⊢
  split
  · rename_i hc
    simp [List.takeWhile_cons, innB, hc]
  · split
    · rename_i hc
      have := numLen_pos (l := l) hc
      simp only [List.length_take, List.length_cons]; omega
    · rename_i h1 h2
      rw [if_neg h1, if_neg h2] at h
      simp only [decide_eq_true_eq] at h
      simp only [List.length_take, List.length_cons]; omega
def lexS : List UInt8 → Nat → Except Nat (List Tok)
  | [], pos => .ok [⟨5, [], 0, pos⟩]
  | c :: l, pos =>
    if h : (tokOf (c :: l) pos).2 = true then
      (lexS (((c :: l).drop (tokOf (c :: l) pos).1.text.length).drop (skipN false ((c :: l).drop (tokOf (c :: l) pos).1.text.length)))
        (pos + (tokOf (c :: l) pos).1.text.length + skipN false ((c :: l).drop (tokOf (c :: l) pos).1.text.length))).map ((tokOf (c :: l) pos).1 :: ·)
    else .error pos
termination_by l => l.length
decreasing_by
  have := tokOf_pos h
  simp only [List.length_drop, List.length_cons]; omega
/-- With gaps ahead. -/
def lexK (l : List UInt8) (pos : Nat) : Except Nat (List Tok) := lexS (l.drop (skipN false l)) (pos + skipN false l)
theorem lexS_nil (pos : Nat) : lexS [] pos = .ok [⟨5, [], 0, pos⟩] := by rw [lexS]
theorem lexS_tok {c : UInt8} {l : List UInt8} {pos : Nat} {x : Tok} (h : tokOf (c :: l) pos = (x, true)) : lexS (c :: l) pos = (lexK ((c :: l).drop x.text.length) (pos + x.text.length)).map (x :: ·) := by
  rw [lexS, dif_pos (by rw [h]), h]; rfl
theorem lexS_bad {c : UInt8} {l : List UInt8} {pos : Nat} (h : (tokOf (c :: l) pos).2 = false) : lexS (c :: l) pos = .error pos := by
  rw [lexS, dif_neg (by rw [h]; simp)]
end Go.Proofs.YtjgbbdmpddddhaaDoor

namespace Go.Proofs.YtjgbbdmpddddhaaDoor
open Go Ai

/-- What may stand behind a token, instead of 'r'. -/
def Safe (z r : List UInt8) : Prop :=
  z = [] ∨ (∃ z', z = 32 :: z' ∨ z = 10 :: z') ∨ ∃ d z' r', z = d :: z' ∧ r = d :: r' ∧ (z' = [] ∨ (∃ q, z' = 10 :: q) ∨ ∃ e z'' r'', z' = e :: z'' ∧ r' = e :: r'')
theorem takeWhile_app {p : UInt8 → Bool} {y z : List UInt8} (hy : ∀ c ∈ y, p c = true) (hz : ∀ d z', z = d :: z' → p d = false) : (y ++ z).takeWhile p = y := by
  induction y with
  | nil =>
    cases z with
    | nil => rfl
    | cons d z => simp [List.takeWhile_cons, hz d z rfl]
  | cons a y ih =>
    rw [List.cons_append, List.takeWhile_cons, if_pos (hy a (by simp)), ih fun c hc => hy c (by simp [hc])]
theorem takeWhile_all {p : UInt8 → Bool} : ∀ {l : List UInt8}, ∀ c ∈ l.takeWhile p, p c = true
  | [], c, h => by simp at h
  | a :: l, c, h => by
    rw [List.takeWhile_cons] at h
    split at h
    · rename_i ha
      rw [List.mem_cons] at h
      rcases h with rfl | h
      · exact ha
      · exact takeWhile_all c h
    · simp at h
theorem takeWhile_stop {p : UInt8 → Bool} : ∀ {l : List UInt8} {d : UInt8} {r : List UInt8}, l.drop (l.takeWhile p).length = d :: r → p d = false
  | [], d, r, h => by simp at h
  | a :: l, d, r, h => by
    rw [List.takeWhile_cons] at h
    split at h
    · rw [List.length_cons, List.drop_succ_cons] at h; exact takeWhile_stop h
    · rename_i ha
      simp at h
      obtain ⟨rfl, _⟩ := h
      simpa using ha
theorem takeWhile_split (p : UInt8 → Bool) (l : List UInt8) : l = l.takeWhile p ++ l.drop (l.takeWhile p).length := by
  induction l with
  | nil => rfl
  | cons a l ih =>
    rw [List.takeWhile_cons]
    split
    · rw [List.length_cons, List.drop_succ_cons, List.cons_append, ← ih]
    · rfl
theorem safe_head {p : UInt8 → Bool} (h32 : p 32 = false) (h10 : p 10 = false) {z r : List UInt8} (hs : Safe z r) (hr : ∀ d r', r = d :: r' → p d = false) : ∀ d z', z = d :: z' → p d = false := by
  rintro d z' rfl
  rcases hs with h | ⟨q, h | h⟩ | ⟨e, z1, r1, h1, h2, _⟩
  · cases h
  · cases h; exact h32
  · cases h; exact h10
  · cases h1; exact hr _ _ h2

theorem numLen_of {D z : List UInt8} (hD : ∀ c ∈ D, digB c = true) (hz : ∀ d z', z = d :: z' → digB d = false) : numLen (D ++ z) = numAfter D.length z := by
  unfold numLen
  rw [takeWhile_app hD hz, List.drop_left]

set_option maxHeartbeats 1000000 in
theorem tok_again {c : UInt8} {l : List UInt8} {pos pos' : Nat} {x : Tok} (h : tokOf (c :: l) pos = (x, true)) {z : List UInt8} (hs : Safe z ((c :: l).drop x.text.length)) :
    tokOf (x.text ++ z) pos' = ({ x with pos := pos' }, true) ∧ (c :: l) = x.text ++ (c :: l).drop x.text.length ∧ ∃ y, x.text = c :: y := by
  unfold tokOf at h
  simp only at h
  split at h
  · rename_i hc
    have hi : innB c = true := by simp [innB, hc]
    simp only [Prod.mk.injEq] at h
    obtain ⟨rfl, hok⟩ := h
    simp only at hs ⊢
    have hstop : ∀ d r', (c :: l).drop ((c :: l).takeWhile innB).length = d :: r' → innB d = false := fun d r' hd => takeWhile_stop hd
    have hz := safe_head (p := innB) (by decide) (by decide) hs hstop
    have hw : ((c :: l).takeWhile innB ++ z).takeWhile innB = (c :: l).takeWhile innB := takeWhile_app takeWhile_all hz
    have hcons : (c :: l).takeWhile innB = c :: l.takeWhile innB := by rw [List.takeWhile_cons, if_pos hi]
    refine ⟨?_, takeWhile_split innB (c :: l), _, hcons⟩
    have e : (c :: l).takeWhile innB ++ z = c :: (l.takeWhile innB ++ z) := by rw [hcons]; rfl
    rw [e, tokOf_cons]
    simp only [hc, if_true]
    rw [← e, hw, hok]
  · rename_i hc
    split at h
    · rename_i hd
      simp only [Prod.mk.injEq] at h
      obtain ⟨rfl, hok⟩ := h
      simp only at hs ⊢
      obtain ⟨D, hDD⟩ : ∃ D, D = (c :: l).takeWhile digB := ⟨_, rfl⟩
      obtain ⟨r1, hr1⟩ : ∃ r1, r1 = (c :: l).drop D.length := ⟨_, rfl⟩
      have hall : ∀ q ∈ D, digB q = true := by rw [hDD]; exact takeWhile_all
      have hsp : c :: l = D ++ r1 := by rw [hr1, hDD]; exact takeWhile_split digB (c :: l)
      have hst : ∀ d r', r1 = d :: r' → digB d = false := by
        intro d r' hh
        rw [hr1, hDD] at hh; exact takeWhile_stop hh
      have hDc : ∃ D', D = c :: D' := ⟨l.takeWhile digB, by rw [hDD, List.takeWhile_cons, if_pos hd]⟩
      obtain ⟨D', hD'⟩ := hDc
      have hn := numLen_of hall hst
      rw [← hsp] at hn
      -- what is read
      have main : ∃ y, y = (c :: l).take (numLen (c :: l)) ∧ numLen (c :: l) = y.length ∧ (∃ y', y = c :: y') ∧ (c :: l = y ++ (c :: l).drop y.length) ∧ ∀ z, Safe z ((c :: l).drop y.length) → numLen (y ++ z) = y.length := by
        have plain : numLen (c :: l) = D.length → (∀ z, Safe z r1 → numLen (D ++ z) = D.length) → ∃ y, y = (c :: l).take (numLen (c :: l)) ∧ numLen (c :: l) = y.length ∧ (∃ y', y = c :: y') ∧ (c :: l = y ++ (c :: l).drop y.length) ∧ ∀ z, Safe z ((c :: l).drop y.length) → numLen (y ++ z) = y.length := by
          intro h1 h2
          refine ⟨D, ?_, h1, ⟨D', hD'⟩, ?_, ?_⟩
          · rw [h1, hsp]; simp
          · rw [← hr1]; exact hsp
          · rw [← hr1]; exact h2
        have gen : ∀ z, Safe z r1 → (∀ z', z = 46 :: z' → ∀ e z'', z' = e :: z'' → digB e = false) → numLen (D ++ z) = D.length := by
          intro z hz hh
          have hz2 := safe_head (p := digB) (by decide) (by decide) hz hst
          rw [numLen_of hall hz2]
          cases z with
          | nil => rfl
          | cons d z =>
            simp only [numAfter]
            split
            · rename_i h46
              subst h46
              cases z with
              | nil => rfl
              | cons e z => simp only; rw [if_neg (by rw [hh _ rfl e z rfl]; simp)]
            · rfl
        cases r1 with
        | nil =>
          refine plain hn fun z hz => gen z hz ?_
          rintro z' rfl
          rcases hz with h | ⟨q, h | h⟩ | ⟨e, z1, r2, h1, h2, _⟩
          · cases h
          · cases h
          · cases h
          · cases h2
        | cons d r2 =>
          simp only [numAfter] at hn
          by_cases h46 : d = 46
          · subst h46
            rw [if_pos rfl] at hn
            cases r2 with
            | nil =>
              refine plain hn fun z hz => gen z hz ?_
              rintro z' rfl e z'' rfl
              rcases hz with h | ⟨q, h | h⟩ | ⟨e', z1, r2, h1, h2, h3⟩
              · cases h
              · cases h
              · cases h
              · cases h1; cases h2
                rcases h3 with h | ⟨q, h⟩ | ⟨_, _, _, _, h⟩
                · cases h
                · cases h; decide
                · cases h
            | cons e r2 =>
              simp only [numAfter] at hn
              by_cases he : digB e = true
              · rw [if_pos he] at hn
                obtain ⟨E, hE⟩ : ∃ E, E = (e :: r2).takeWhile digB := ⟨_, rfl⟩
                have hEa : ∀ q ∈ E, digB q = true := by rw [hE]; exact takeWhile_all
                have hEs : e :: r2 = E ++ (e :: r2).drop E.length := by rw [hE]; exact takeWhile_split digB _
                rw [← hE] at hn
                have hsp2 : c :: l = (D ++ 46 :: E) ++ (e :: r2).drop E.length := by
                  rw [hsp, hEs]; simp
                have hlen : (D ++ 46 :: E).length = D.length + 1 + E.length := by simp; omega
                have hdrop : (c :: l).drop (D ++ 46 :: E).length = (e :: r2).drop E.length := by
                  conv => lhs; rw [hsp2]
                  exact List.drop_left
                refine ⟨D ++ 46 :: E, ?_, by rw [hn, hlen], ⟨D' ++ 46 :: E, by rw [hD']; rfl⟩, ?_, ?_⟩
                · rw [hn, ← hlen, hsp2]; exact (List.take_left).symm
                · rw [hdrop]; exact hsp2
                · rw [hdrop]
                  intro z hz
                  have hz2 := safe_head (p := digB) (by decide) (by decide) hz (fun d r' hh => by rw [hE] at hh; exact takeWhile_stop hh)
                  rw [List.append_assoc, List.cons_append, numLen_of hall (by rintro d z' hh; cases hh; decide)]
                  simp only [numAfter, if_true]
                  have hEc : ∃ E', E = e :: E' := ⟨r2.takeWhile digB, by rw [hE, List.takeWhile_cons, if_pos he]⟩
                  obtain ⟨E', hE'⟩ := hEc
                  have hw : (E ++ z).takeWhile digB = E := takeWhile_app hEa hz2
                  rw [hE'] at hw
                  rw [hE', List.cons_append]
                  simp only [he, if_true]
                  rw [List.cons_append] at hw
                  rw [hw]; simp; omega
              · rw [if_neg he] at hn
                refine plain hn fun z hz => gen z hz ?_
                rintro z' rfl e1 z'' rfl
                rcases hz with h | ⟨q, h | h⟩ | ⟨e', z1, r3, h1, h2, h3⟩
                · cases h
                · cases h
                · cases h
                · cases h1; cases h2
                  rcases h3 with h | ⟨q, h⟩ | ⟨_, _, _, h, h'⟩
                  · cases h
                  · cases h; decide
                  · cases h; cases h'; simpa using he
          · rw [if_neg h46] at hn
            refine plain hn fun z hz => gen z hz ?_
            rintro z' rfl e1 z'' rfl
            rcases hz with h | ⟨q, h | h⟩ | ⟨e', z1, r3, h1, h2, h3⟩
            · cases h
            · cases h
            · cases h
            · cases h1; cases h2; exact absurd rfl h46
      obtain ⟨y, hy, hyl, ⟨y', hyc⟩, hys, hyz⟩ := main
      rw [← hy] at hs hok ⊢
      refine ⟨?_, hys, y', hyc⟩
      have e : y ++ z = c :: (y' ++ z) := by rw [hyc]; rfl
      have hnl := hyz z hs
      rw [e, tokOf_cons]
      simp only [hc, if_false, hd, if_true]
      rw [← e, hnl, List.take_left, hok]
      rfl
    · rename_i hd
      simp only [Prod.mk.injEq, decide_eq_true_eq] at h
      obtain ⟨rfl, hok⟩ := h
      simp only at hs ⊢
      have key : ∃ y, y = (c :: l).take (signLen (c :: l)) ∧ signLen (c :: l) = y.length ∧ (∃ y', y = c :: y') ∧ (c :: l = y ++ (c :: l).drop y.length) ∧ ∀ z, Safe z ((c :: l).drop y.length) → signLen (y ++ z) = y.length := by
        have one : c ∈ ones → signLen (c :: l) = 1 → (∀ d l', l = d :: l' → twoB c d = false) → ∃ y, y = (c :: l).take (signLen (c :: l)) ∧ signLen (c :: l) = y.length ∧ (∃ y', y = c :: y') ∧ (c :: l = y ++ (c :: l).drop y.length) ∧ ∀ z, Safe z ((c :: l).drop y.length) → signLen (y ++ z) = y.length := by
          intro h1 h2 h3
          refine ⟨[c], by rw [h2]; simp, h2, ⟨[], rfl⟩, by simp, fun z hz => ?_⟩
          simp only [List.length_singleton, List.drop_succ_cons, List.drop_zero] at hz
          cases z with
          | nil => simp [signLen, h1]
          | cons d z =>
            have hz2 := safe_head (p := twoB c) (by simp [twoB]) (by simp [twoB]) hz h3
            have := hz2 d z rfl
            simp [signLen, h1, this]
        cases l with
        | nil =>
          simp only [signLen] at hok
          split at hok
          · rename_i h1
            exact one h1 (by simp [signLen, h1]) (by rintro d l' h; cases h)
          · exact absurd rfl hok
        | cons d l =>
          simp only [signLen] at hok
          split at hok
          · rename_i h2
            refine ⟨[c, d], by simp [signLen, h2], by simp [signLen, h2], ⟨[d], rfl⟩, by simp, fun z _ => by simp [signLen, h2]⟩
          · rename_i h2
            split at hok
            · rename_i h1
              refine one h1 (by simp [signLen, h1, h2]) ?_
              rintro d' l' h; cases h; simpa using h2
            · exact absurd rfl hok
      obtain ⟨y, hy, hyl, ⟨y', hyc⟩, hys, hyz⟩ := key
      rw [← hy] at hs ⊢
      refine ⟨?_, hys, y', hyc⟩
      have e : y ++ z = c :: (y' ++ z) := by rw [hyc]; rfl
      have hnl := hyz z hs
      rw [e, tokOf_cons]
      simp only [hc, if_false, hd]
      rw [← e, hnl, List.take_left]
      simp [hyc]
end Go.Proofs.YtjgbbdmpddddhaaDoor

namespace Go.Proofs.YtjgbbdmpddddhaaDoor
open Go Ai

theorem map_ok {α β} {f : α → β} {x : Except Nat α} {b : β} (h : x.map f = .ok b) : ∃ a, x = .ok a ∧ f a = b := by
  cases x with
  | error e => cases h
  | ok a => exact ⟨a, rfl, by cases h; rfl⟩
theorem map_err {α β} {f : α → β} {x : Except Nat α} {e : Nat} (h : x.map f = .error e) : x = .error e := by
  cases x with
  | error e' => cases h; rfl
  | ok a => cases h
theorem map_map' {α β γ} {f : α → β} {g : β → γ} (x : Except Nat α) : (x.map f).map g = x.map fun a => g (f a) := by
  cases x <;> rfl

/-- One step: a token, or the end, or none. -/
theorem lexK_cases (l : List UInt8) (p : Nat) :
    (skipN false l = l.length ∧ lexK l p = .ok [⟨5, [], 0, p + l.length⟩]) ∨
    (∃ c r, l.drop (skipN false l) = c :: r ∧ skipN false l < l.length ∧ (
      ((tokOf (c :: r) (p + skipN false l)).2 = false ∧ lexK l p = .error (p + skipN false l)) ∨
      ∃ x, tokOf (c :: r) (p + skipN false l) = (x, true) ∧ 0 < x.text.length ∧ lexK l p = (lexK ((c :: r).drop x.text.length) (p + skipN false l + x.text.length)).map (x :: ·))) := by
  have hle := skipN_le false l
  by_cases h : skipN false l = l.length
  · left
    refine ⟨h, ?_⟩
    unfold lexK
    rw [h, List.drop_length, lexS_nil]
  · right
    cases hd : l.drop (skipN false l) with
    | nil =>
      have := congrArg List.length hd
      simp at this; omega
    | cons c r =>
      refine ⟨c, r, rfl, by omega, ?_⟩
      cases ht : (tokOf (c :: r) (p + skipN false l)).2 with
      | false =>
        left
        refine ⟨rfl, ?_⟩
        unfold lexK
        rw [hd, lexS_bad ht]
      | true =>
        right
        refine ⟨(tokOf (c :: r) (p + skipN false l)).1, by rw [← ht], tokOf_pos ht, ?_⟩
        unfold lexK
        rw [hd, lexS_tok (by rw [← ht])]
        rfl
theorem tokOf_shift (c : UInt8) (l : List UInt8) (p p' : Nat) : tokOf (c :: l) p' = ({ (tokOf (c :: l) p).1 with pos := p' }, (tokOf (c :: l) p).2) ∧ (tokOf (c :: l) p).1.pos = p := by
  rw [tokOf_cons, tokOf_cons]
  split
  · exact ⟨rfl, rfl⟩
  · split <;> exact ⟨rfl, rfl⟩
theorem tok_same {c : UInt8} {r : List UInt8} {p : Nat} {x : Tok} (h : tokOf (c :: r) p = (x, true)) : ({ x with pos := p } : Tok) = x := by
  have := (tokOf_shift c r p 0).2
  rw [h] at this
  cases x; simp at this ⊢; exact this.symm
theorem tokOf_le {c : UInt8} {l : List UInt8} {p : Nat} {x : Tok} (h : tokOf (c :: l) p = (x, true)) : x.text.length ≤ (c :: l).length := by
  have h2 := (tok_again (pos' := 0) h (z := []) (.inl rfl)).2.1
  have := congrArg List.length h2
  simp only [List.length_append, List.length_drop] at this
  omega

theorem lexK_end : ∀ (n : Nat) (l : List UInt8), l.length ≤ n → ∀ p ts, lexK l p = .ok ts → ∃ us, ts = us ++ [⟨5, [], 0, p + l.length⟩] ∧ ∀ u ∈ us, u.kind ≠ 5 ∧ 0 < u.text.length ∧ u.text.length ≤ l.length
  | n, l, hn, p, ts, h => by
    rcases lexK_cases l p with ⟨h1, h2⟩ | ⟨c, r, hd, hlt, ⟨h1, h2⟩ | ⟨x, h1, h2, h3⟩⟩
    · rw [h2] at h; cases h
      exact ⟨[], rfl, by simp⟩
    · rw [h2] at h; cases h
    · rw [h3] at h
      obtain ⟨us, hu, rfl⟩ := map_ok h
      have hlen := congrArg List.length hd
      simp only [List.length_drop] at hlen
      have hx := tokOf_le h1
      cases n with
      | zero => omega
      | succ n =>
        obtain ⟨vs, rfl, hv⟩ := lexK_end n _ (by simp only [List.length_drop]; simp at hlen hx ⊢; omega) _ us hu
        refine ⟨x :: vs, ?_, ?_⟩
        · rw [List.cons_append]
          congr 4
          simp only [List.length_drop]; omega
        · intro u hu
          rw [List.mem_cons] at hu
          rcases hu with rfl | hu
          · refine ⟨?_, h2, by omega⟩
            have hk : ∀ y, tokOf (c :: r) (p + skipN false l) = y → y.1.kind ≠ 5 := by
              rintro y rfl
              rw [tokOf_cons]
              split
              · simp only; split <;> decide
              · split
                · exact (by decide : (2 : Nat) ≠ 5)
                · exact (by decide : (4 : Nat) ≠ 5)
            exact hk _ h1
          · obtain ⟨g1, g2, g3⟩ := hv u hu
            exact ⟨g1, g2, by simp only [List.length_drop] at g3; omega⟩

/-! Two texts. -/
theorem safe_two (r t : List UInt8) : Safe (r ++ 10 :: t) r := by
  cases r with
  | nil => exact .inr (.inl ⟨t, .inr rfl⟩)
  | cons d r =>
    refine .inr (.inr ⟨d, r ++ 10 :: t, r, rfl, rfl, .inr ?_⟩)
    cases r with
    | nil => exact .inl ⟨t, rfl⟩
    | cons e r => exact .inr ⟨e, _, r, rfl, rfl⟩
theorem lexK_two : ∀ (n : Nat) (l : List UInt8), l.length ≤ n → ∀ p ts, lexK l p = .ok ts → ∀ t, lexK (l ++ 10 :: t) p = (lexK t (p + l.length + 1)).map (ts.dropLast ++ ·)
  | n, l, hn, p, ts, h, t => by
    rcases lexK_cases l p with ⟨h1, h2⟩ | ⟨c, r, hd, hlt, ⟨h1, h2⟩ | ⟨x, h1, h2, h3⟩⟩
    · rw [h2] at h; cases h
      have hs : skipN false (l ++ 10 :: t) = l.length + 1 + skipN false t := by rw [skipN_lf, if_pos h1]
      unfold lexK
      rw [hs]
      have e1 : (l ++ 10 :: t).drop (l.length + 1 + skipN false t) = t.drop (skipN false t) := by
        rw [Nat.add_assoc, ← List.drop_drop, List.drop_left, Nat.add_comm, List.drop_succ_cons]
      rw [e1, ← Nat.add_assoc, ← Nat.add_assoc]
      cases lexS (t.drop (skipN false t)) (p + l.length + 1 + skipN false t) <;> rfl
    · rw [h2] at h; cases h
    · rw [h3] at h
      obtain ⟨us, hu, rfl⟩ := map_ok h
      have hlen := congrArg List.length hd
      simp only [List.length_drop] at hlen
      have hx := tokOf_le h1
      have hs : skipN false (l ++ 10 :: t) = skipN false l := skipN_app hlt
      obtain ⟨_, h5, _⟩ := tok_again (pos' := p + skipN false l) h1 (z := []) (.inl rfl)
      have h4 := (tok_again (pos' := p + skipN false l) h1 (safe_two ((c :: r).drop x.text.length) t)).1
      rw [← List.append_assoc, ← h5] at h4
      have e1 : (l ++ 10 :: t).drop (skipN false l) = (c :: r) ++ 10 :: t := by
        rw [List.drop_append_of_le_length (by omega), hd]
      cases n with
      | zero => omega
      | succ n =>
        have ih := lexK_two n _ (by simp only [List.length_drop]; simp at hlen hx ⊢; omega) _ us hu t
        have e2 : lexK (l ++ 10 :: t) p = (lexK (((c :: r) ++ 10 :: t).drop x.text.length) (p + skipN false l + x.text.length)).map (x :: ·) := by
          conv => lhs; unfold lexK
          rw [hs, e1]
          rw [tok_same h1] at h4
          exact lexS_tok (c := c) (l := r ++ 10 :: t) h4
        obtain ⟨vs, hv, _⟩ := lexK_end _ _ (Nat.le_refl _) _ us hu
        have e3 : (x :: us).dropLast = x :: us.dropLast := by rw [hv, ← List.cons_append, List.dropLast_concat, List.dropLast_concat]
        rw [e2, List.drop_append_of_le_length hx, ih, map_map', e3]
        have e4 : p + skipN false l + x.text.length + ((c :: r).drop x.text.length).length + 1 = p + l.length + 1 := by
          simp only [List.length_drop]; omega
        rw [e4]; rfl
/-- Somewhere else. -/
def shE (q : Nat) : Except Nat (List Tok) → Except Nat (List Tok)
  | .ok ts => .ok (ts.map fun t => { t with pos := t.pos + q })
  | .error e => .error (e + q)
theorem lexK_shift : ∀ (n : Nat) (l : List UInt8), l.length ≤ n → ∀ p q, lexK l (p + q) = shE q (lexK l p)
  | n, l, hn, p, q => by
    rcases lexK_cases l p with ⟨h1, h2⟩ | ⟨c, r, hd, hlt, h⟩
    · rcases lexK_cases l (p + q) with ⟨_, g2⟩ | ⟨c, r, hd, hlt, _⟩
      · rw [h2, g2]; simp [shE]; omega
      · omega
    · rcases lexK_cases l (p + q) with ⟨g1, _⟩ | ⟨c', r', hd', _, h'⟩
      · omega
      · rw [hd] at hd'; cases hd'
        obtain ⟨s1, s2⟩ := tokOf_shift c r (p + skipN false l) (p + q + skipN false l)
        rcases h with ⟨h1, h2⟩ | ⟨x, h1, h2, h3⟩
        · rcases h' with ⟨g1, g2⟩ | ⟨y, g1, _, _⟩
          · rw [h2, g2]; simp [shE]; omega
          · rw [s1, h1] at g1; cases g1
        · rcases h' with ⟨g1, _⟩ | ⟨y, g1, g2, g3⟩
          · rw [s1, h1] at g1; cases g1
          · rw [s1, h1] at g1
            cases g1
            rw [h1] at s2
            have hlen := congrArg List.length hd
            simp only [List.length_drop] at hlen
            have hx := tokOf_le h1
            cases n with
            | zero => omega
            | succ n =>
              have ih := lexK_shift n ((c :: r).drop x.text.length) (by simp only [List.length_drop]; simp at hlen hx ⊢; omega) (p + skipN false l + x.text.length) q
              have e4 : p + q + skipN false l + x.text.length = p + skipN false l + x.text.length + q := by omega
              rw [h3, g3]
              simp only
              rw [e4, ih]
              cases lexK ((c :: r).drop x.text.length) (p + skipN false l + x.text.length) with
              | error e => rfl
              | ok ts =>
                simp only [shE, Except.map, List.map_cons, s2]
                have s2' : x.pos = p + skipN false l := s2
                congr 3; omega

/-! Cuts. -/
theorem safe_cut (r : List UInt8) : ∀ m, Safe (r.take m) r := by
  intro m
  cases r with
  | nil => exact .inl (by simp)
  | cons d r =>
    cases m with
    | zero => exact .inl rfl
    | succ m =>
      refine .inr (.inr ⟨d, r.take m, r, rfl, rfl, ?_⟩)
      cases r with
      | nil => exact .inl (by simp)
      | cons e r =>
        cases m with
        | zero => exact .inl rfl
        | succ m => exact .inr (.inr ⟨e, _, r, rfl, rfl⟩)
theorem lexK_cut : ∀ (n : Nat) (l : List UInt8), l.length ≤ n → ∀ p q, lexK l p = .error q → p ≤ q ∧ q - p < l.length ∧ ∃ ts, lexK (l.take (q - p)) p = .ok ts
  | n, l, hn, p, q, h => by
    rcases lexK_cases l p with ⟨h1, h2⟩ | ⟨c, r, hd, hlt, ⟨h1, h2⟩ | ⟨x, h1, h2, h3⟩⟩
    · rw [h2] at h; cases h
    · rw [h2] at h; cases h
      refine ⟨by omega, by omega, ?_⟩
      rw [show p + skipN false l - p = skipN false l by omega]
      have hs : skipN false (l.take (skipN false l)) = skipN false l := skipN_take false l _ (Nat.le_refl _)
      refine ⟨[⟨5, [], 0, p + skipN false l⟩], ?_⟩
      unfold lexK
      rw [hs, List.drop_eq_nil_of_le (by simp; omega), lexS_nil]
    · rw [h3] at h
      have hu := map_err h
      have hlen := congrArg List.length hd
      simp only [List.length_drop] at hlen
      have hx := tokOf_le h1
      cases n with
      | zero => omega
      | succ n =>
        obtain ⟨i1, i2, ts, i3⟩ := lexK_cut n _ (by simp only [List.length_drop]; simp at hlen hx ⊢; omega) _ q hu
        simp only [List.length_drop] at i2
        refine ⟨by omega, by omega, x :: ts, ?_⟩
        obtain ⟨m, hm⟩ : ∃ m, m = q - (p + skipN false l + x.text.length) := ⟨_, rfl⟩
        have e0 : q - p = skipN false l + (x.text.length + m) := by omega
        rw [← hm] at i3
        have hs : skipN false (l.take (q - p)) = skipN false l := skipN_take false l _ (by omega)
        obtain ⟨_, h5, _⟩ := tok_again (pos' := p + skipN false l) h1 (z := []) (.inl rfl)
        obtain ⟨h4, _, y, hy⟩ := tok_again (pos' := p + skipN false l) h1 (safe_cut ((c :: r).drop x.text.length) m)
        have e1 : (l.take (q - p)).drop (skipN false l) = x.text ++ ((c :: r).drop x.text.length).take m := by
          rw [e0, List.drop_take, hd, show skipN false l + (x.text.length + m) - skipN false l = x.text.length + m by omega]
          conv => lhs; rw [h5]
          rw [List.take_append]
          simp [List.take_of_length_le]
        have e2 : x.text ++ ((c :: r).drop x.text.length).take m = c :: (y ++ ((c :: r).drop x.text.length).take m) := by rw [hy]; rfl
        unfold lexK
        rw [hs, e1, e2]
        rw [e2] at h4
        rw [tok_same h1] at h4
        rw [lexS_tok h4, ← e2, List.drop_left, i3]; rfl

/-! Joins. -/
def joined : List Tok → List UInt8
  | [] => []
  | [u] => u.text
  | u :: v :: us => u.text ++ 32 :: joined (v :: us)
def place : Nat → List Tok → List Tok
  | _, [] => []
  | p, u :: us => { u with pos := p } :: place (p + u.text.length + 1) us
theorem place_length : ∀ (us : List Tok) (p : Nat), (place p us).length = us.length
  | [], _ => rfl
  | u :: us, p => by simp [place, place_length us]
theorem tok_head {c : UInt8} {r : List UInt8} {p : Nat} {x : Tok} (h : tokOf (c :: r) p = (x, true)) (hc : c ≠ 35 ∧ gapB c = false) (z : List UInt8) : skipN false (x.text ++ z) = 0 := by
  obtain ⟨_, _, y, hy⟩ := tok_again (pos' := p) h (z := []) (.inl rfl)
  rw [hy, List.cons_append, skipN, if_neg hc.1, if_neg (by rw [hc.2]; simp)]
theorem lexK_join : ∀ (n : Nat) (l : List UInt8), l.length ≤ n → ∀ p us e, lexK l p = .ok (us ++ [e]) → ∀ p', lexK (joined us) p' = .ok (place p' us ++ [⟨5, [], 0, p' + (joined us).length⟩])
  | n, l, hn, p, us, e, h, p' => by
    rcases lexK_cases l p with ⟨h1, h2⟩ | ⟨c, r, hd, hlt, ⟨h1, h2⟩ | ⟨x, h1, h2, h3⟩⟩
    · rw [h2] at h
      have : us = [] := by
        have := congrArg List.length (Except.ok.inj h)
        rw [List.length_append] at this
        exact List.eq_nil_of_length_eq_zero (by simpa using this)
      subst this
      simp [joined, place, lexK, skipN, lexS_nil]
    · rw [h2] at h; cases h
    · rw [h3] at h
      obtain ⟨vs, hu, hv⟩ := map_ok h
      have hlen := congrArg List.length hd
      simp only [List.length_drop] at hlen
      have hx := tokOf_le h1
      have hc := skipN_stop false l c r hd
      obtain ⟨ws, hw, _⟩ := lexK_end _ _ (Nat.le_refl _) _ vs hu
      cases us with
      | nil =>
        rw [hw] at hv
        have := congrArg List.length hv
        simp at this
      | cons u us =>
        rw [List.cons_append] at hv
        have h6 := List.cons.inj hv
        obtain ⟨rfl, h7⟩ := h6
        rw [h7] at hu
        cases n with
        | zero => omega
        | succ n =>
          have ih := lexK_join n _ (by simp only [List.length_drop]; simp at hlen hx ⊢; omega) _ us e hu
          have go : ∀ z, (z = [] ∨ ∃ z', z = 32 :: z') → lexK (x.text ++ z) p' = (lexK z (p' + x.text.length)).map ({ x with pos := p' } :: ·) := by
            intro z hz
            have hsf : Safe z ((c :: r).drop x.text.length) := by
              rcases hz with rfl | ⟨z', rfl⟩
              · exact .inl rfl
              · exact .inr (.inl ⟨z', .inl rfl⟩)
            obtain ⟨h4, _, y, hy⟩ := tok_again (pos' := p') h1 hsf
            have hs := tok_head h1 hc z
            have e2 : x.text ++ z = c :: (y ++ z) := by rw [hy]; rfl
            conv => lhs; unfold lexK
            rw [hs, List.drop_zero, Nat.add_zero]
            rw [e2] at h4 ⊢
            rw [lexS_tok h4, ← e2]
            simp only
            rw [List.drop_left]
          cases us with
          | nil =>
            have := go [] (.inl rfl)
            rw [List.append_nil] at this
            rw [joined, this, show lexK [] (p' + x.text.length) = .ok [⟨5, [], 0, p' + x.text.length⟩] by simp [lexK, skipN, lexS_nil]]
            rfl
          | cons v us =>
            have hj : joined (x :: v :: us) = x.text ++ 32 :: joined (v :: us) := rfl
            have h32 : lexK (32 :: joined (v :: us)) (p' + x.text.length) = lexK (joined (v :: us)) (p' + x.text.length + 1) := by
              unfold lexK
              have : skipN false (32 :: joined (v :: us)) = 1 + skipN false (joined (v :: us)) := by
                rw [skipN, if_neg (by decide), if_pos (by decide)]
              rw [this, Nat.add_comm 1, List.drop_succ_cons]
              congr 1; omega
            rw [hj, go _ (.inr ⟨_, rfl⟩), h32, ih]
            simp only [Except.map, place, List.cons_append, List.length_append, List.length_cons]
            rw [show p' + x.text.length + 1 + (joined (v :: us)).length = p' + (x.text.length + ((joined (v :: us)).length + 1)) by omega]
end Go.Proofs.YtjgbbdmpddddhaaDoor

