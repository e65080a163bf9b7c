/- Operations: what each does to a world is what the abstract one tells (second part: numbers, texts, places). No condition. -/
import Derived.Test.YtfkmdajlpnkebaaDoorAi6
namespace Go.Proofs.YtfkmdajlpnkebaaDoor.Ai
open Go

theorem bytesLess_eq : ∀ x y : List UInt8, bytesLess x y = Op.bytesLess x y
  | x, [] => by cases x <;> simp [bytesLess, Op.bytesLess]
  | [], _ :: _ => by simp [bytesLess, Op.bytesLess]
  | a :: x, b :: y => by rw [bytesLess, Op.bytesLess, bytesLess_eq x y]

theorem baToList (b : ByteArray) : b.toList = b.data.toList := by
  have key : ∀ (n i : Nat) (r : List UInt8), b.size - i = n → ByteArray.toList.loop b i r = r.reverse ++ b.data.toList.drop i := by
    intro n
    induction n with
    | zero =>
      intro i r hi
      unfold ByteArray.toList.loop
      rw [if_neg (by omega)]
      have : b.data.toList.drop i = [] := by
        rw [List.drop_eq_nil_iff]; simp; omega
      rw [this]; simp
    | succ n ih =>
      intro i r hi
      unfold ByteArray.toList.loop
      rw [if_pos (by omega), ih (i + 1) _ (by omega)]
      have hlt : i < b.data.toList.length := by simp; omega
      rw [List.drop_eq_getElem_cons hlt]
      have : b.get! i = b.data.toList[i] := by
        have h' : i < b.data.size := by simpa using hlt
        show b.data[i]! = _
        rw [getElem!_pos b.data i h']; simp
      rw [this]; simp
  have := key b.size 0 [] (by omega)
  simpa [ByteArray.toList] using this

theorem baAppend (x y : ByteArray) : (x ++ y).data.toList = x.data.toList ++ y.data.toList := by
  simp [ByteArray.data_append]

section
variable {P : Program} {w : World} {t : TypeId}
theorem r_equal {x y : Value} {b : Bool} (h : (Op.equalIn (9999 + 1) t x y).run P w = .ok b w) : (Op.equal t x y).run P w = .ok b w := h
theorem r_eqBool (h : P.underlying t = some .bool) (a b : Bool) : (Op.equal t (.bool a) (.bool b)).run P w = .ok (a == b) w :=
  r_equal (by rw [Op.equalIn]; simp [r_under h])
theorem r_eqPtrL {el : TypeId} (h : P.underlying t = some (.pointer el)) (q : Option Addr) : (Op.equal t (.pointer none) (.pointer q)).run P w = .ok q.isNone w :=
  r_equal (by rw [Op.equalIn]; simp [r_under h])
theorem r_eqPtrR {el : TypeId} (h : P.underlying t = some (.pointer el)) (q : Addr) : (Op.equal t (.pointer (some q)) (.pointer none)).run P w = .ok false w :=
  r_equal (by rw [Op.equalIn]; simp [r_under h])
theorem r_eqIfL {ms : Array (String × TypeId)} (h : P.underlying t = some (.interface ms)) (u : TypeId) (q : Value) : (Op.equal t .nilIface (.iface u q)).run P w = .ok false w :=
  r_equal (by rw [Op.equalIn]; simp [r_under h])
theorem r_eqIfR {ms : Array (String × TypeId)} (h : P.underlying t = some (.interface ms)) (u : TypeId) (q : Value) : (Op.equal t (.iface u q) .nilIface).run P w = .ok false w :=
  r_equal (by rw [Op.equalIn]; simp [r_under h])
theorem r_eqIfN {ms : Array (String × TypeId)} (h : P.underlying t = some (.interface ms)) : (Op.equal t .nilIface .nilIface).run P w = .ok true w :=
  r_equal (by rw [Op.equalIn]; simp [r_under h])
end

section
variable {P : Program} {gl : List (Nat × AV)} {K : Sites} {base : World} {J : Inj} {st st' : St} {w : World} {a : Act} {e : Env} {o : Oper} {v : AV}
variable (hS : Sim K base J st w) (hE : Reps J e a.tmps.toList) (hG : GlOk gl J)
include hS hE hG

theorem did_bin {op : BinOp} {y z : AX} (hf : opFits P gl o.op (.bin op y z) = true) (h : opA (.bin op y z) e st = some (.val v st')) : Did P K base J (execOp a.eval o) w v st' := by
  cases ho : o.op <;> simp only [ho, opFits, Bool.false_eq_true] at hf
  rename_i op' t x u t'
  simp only [Bool.and_eq_true, beq_iff_eq] at hf
  obtain ⟨⟨rfl, hx⟩, hu⟩ := hf
  have h1 := xFits_rep hE hG hx
  have h2 := xFits_rep hE hG hu
  simp only [opA] at h
  cases hb : binA op (y.ev e) (z.ev e) with
  | none => simp [hb] at h
  | some r =>
    simp only [hb, Option.map_some, Option.some.injEq, Nx.val.injEq] at h
    obtain ⟨rfl, rfl⟩ := h
    cases hy : y.ev e <;> cases hz : z.ev e <;> simp only [hy, hz, binA] at hb <;> try (cases hb; done)
    · rename_i k m l n
      rw [hy] at h1; rw [hz] at h2
      simp only [Rep] at h1 h2
      cases op
      case shl =>
        simp only [shiftOp] at hb
        split at hb
        · cases hb
        · rename_i hn
          cases hb
          refine Did.same hS (x := .int k (k.wrap (m * 2 ^ (min n.toNat k.bits)))) (by simp [Rep]) ?_
          simp [execOp, ho, h1, h2, eqGuard, binOp, Op.shift, hn]
      case shr =>
        simp only [shiftOp] at hb
        split at hb
        · cases hb
        · rename_i hn
          cases hb
          refine Did.same hS (x := .int k (m.fdiv (2 ^ (min n.toNat k.bits)))) (by simp [Rep]) ?_
          simp [execOp, ho, h1, h2, eqGuard, binOp, Op.shift, hn]
      case quo =>
        simp only [] at hb
        split at hb
        · rename_i hk; subst hk
          simp only [intOp] at hb
          split at hb
          · cases hb
          · rename_i hn
            cases hb
            exact Did.same hS (by simp [Rep]; rfl) (by simp [execOp, ho, h1, h2, eqGuard, binOp, Op.intDiv, hn])
        · cases hb
      case rem =>
        simp only [] at hb
        split at hb
        · rename_i hk; subst hk
          simp only [intOp] at hb
          split at hb
          · cases hb
          · rename_i hn
            cases hb
            exact Did.same hS (by simp [Rep]; rfl) (by simp [execOp, ho, h1, h2, eqGuard, binOp, Op.intDiv, hn])
        · cases hb
      all_goals
        simp only [] at hb
        split at hb
        · rename_i hk; subst hk
          simp only [intOp] at hb
          cases hb
          exact Did.same hS (by simp [Rep]; rfl) (by simp [execOp, ho, h1, h2, eqGuard, binOp, Op.intArith, Op.intBits, Op.intCmp])
        · cases hb
    · rename_i m n
      rw [hy] at h1; rw [hz] at h2
      simp only [Rep] at h1 h2
      obtain ⟨bm, h1, rfl⟩ := h1
      obtain ⟨bn, h2, rfl⟩ := h2
      cases op <;> simp only [strOp] at hb <;> try (cases hb; done)
      case add =>
        split at hb
        · rename_i hle
          cases hb
          have hnot : ¬ (IntKind.i64.max < (bm.size : Int) + (bn.size : Int)) := by
            simp [IntKind.max, IntKind.signed, IntKind.bits] at hle ⊢; omega
          refine Did.same hS (x := .string (bm ++ bn)) (by simp only [Rep]; exact ⟨_, rfl, baAppend _ _⟩) ?_
          simp [execOp, ho, h1, h2, eqGuard, binOp, Op.stringOp, hnot]
        · cases hb
      all_goals
        cases hb
        exact Did.same hS (by simp only [Rep]; rfl) (by simp [execOp, ho, h1, h2, eqGuard, binOp, Op.stringOp, baToList, bytesLess_eq])

theorem did_eqBool {neg : Bool} {y z : AX} (hf : opFits P gl o.op (.eqBool neg y z) = true) (h : opA (.eqBool neg y z) e st = some (.val v st')) : Did P K base J (execOp a.eval o) w v st' := by
  cases ho : o.op <;> simp only [ho, opFits, Bool.false_eq_true] at hf
  rename_i op' t x u t'
  simp only [Bool.and_eq_true, beq_iff_eq] at hf
  obtain ⟨⟨⟨rfl, hk⟩, hx⟩, hu⟩ := hf
  have h1 := xFits_rep hE hG hx
  have h2 := xFits_rep hE hG hu
  have hud : P.underlying t = some .bool := by
    unfold isK at hk
    split at hk
    · rename_i d hd; cases d <;> simp at hk; exact hd
    · cases hk
  simp only [opA] at h
  cases hy : y.ev e <;> simp only [hy] at h <;> try (cases h; done)
  rename_i m
  cases hz : z.ev e <;> simp only [hz] at h <;> try (cases h; done)
  rename_i n
  simp only [Option.some.injEq, Nx.val.injEq] at h
  obtain ⟨rfl, rfl⟩ := h
  rw [hy] at h1; rw [hz] at h2
  simp only [Rep] at h1 h2
  cases neg
  · exact Did.same hS (x := .bool (m == n)) (by simp [Rep]) (by simp [execOp, ho, h1, h2, eqGuard, binOp, r_eqBool hud])
  · exact Did.same hS (x := .bool (!(m == n))) (by simp [Rep]) (by simp [execOp, ho, h1, h2, eqGuard, binOp, r_eqBool hud])

theorem did_eqPtr {neg : Bool} {y z : AX} (hf : opFits P gl o.op (.eqPtr neg y z) = true) (h : opA (.eqPtr neg y z) e st = some (.val v st')) : Did P K base J (execOp a.eval o) w v st' := by
  cases ho : o.op <;> simp only [ho, opFits, Bool.false_eq_true] at hf
  rename_i op' t x u t'
  simp only [Bool.and_eq_true, beq_iff_eq] at hf
  obtain ⟨⟨⟨rfl, hk⟩, hx⟩, hu⟩ := hf
  have h1 := xFits_rep hE hG hx
  have h2 := xFits_rep hE hG hu
  obtain ⟨el, hud⟩ : ∃ el, P.underlying t = some (.pointer el) := by
    unfold isK at hk
    split at hk
    · rename_i d hd; cases d <;> simp at hk; exact ⟨_, hd⟩
    · cases hk
  simp only [opA] at h
  have nilL : ∀ (q : Option Addr), a.eval x = .pointer none → a.eval u = .pointer q → v = .bool (if neg then !q.isNone else q.isNone) → st' = st → Did P K base J (execOp a.eval o) w v st' := by
    intro q e1 e2 e3 e4
    subst e3 e4
    refine Did.same hS (x := .bool (if neg then !q.isNone else q.isNone)) (by simp [Rep]) ?_
    cases neg <;> cases q <;> simp [execOp, ho, e1, e2, eqGuard, binOp, r_eqPtrL hud]
  have nilR : ∀ (q : Addr), a.eval x = .pointer (some q) → a.eval u = .pointer none → v = .bool neg → st' = st → Did P K base J (execOp a.eval o) w v st' := by
    intro q e1 e2 e3 e4
    subst e3 e4
    refine Did.same hS (x := .bool neg) (by simp [Rep]) ?_
    cases neg <;> simp [execOp, ho, e1, e2, eqGuard, binOp, r_eqPtrR hud]
  cases hy : y.ev e <;> simp only [hy] at h <;> try (cases h; done)
  all_goals cases hz : z.ev e <;> simp only [hz] at h <;> try (cases h; done)
  all_goals
    simp only [Option.some.injEq, Nx.val.injEq] at h
    obtain ⟨h3, h4⟩ := h
    rw [hy] at h1; rw [hz] at h2
    simp only [Rep] at h1 h2
  · obtain ⟨b, _, e1⟩ := h1; exact nilR _ e1 h2 h3.symm h4.symm
  · obtain ⟨ad, _, e1, _⟩ := h1; exact nilR _ e1 h2 h3.symm h4.symm
  · obtain ⟨b, _, e2⟩ := h2; exact nilL _ h1 e2 (by rw [← h3]; cases neg <;> rfl) h4.symm
  · obtain ⟨ad, _, e2, _⟩ := h2; exact nilL _ h1 e2 (by rw [← h3]; cases neg <;> rfl) h4.symm
  · exact nilL none h1 h2 (by rw [← h3]; cases neg <;> rfl) h4.symm

theorem did_eqIface {neg : Bool} {y z : AX} (hf : opFits P gl o.op (.eqIface neg y z) = true) (h : opA (.eqIface neg y z) e st = some (.val v st')) : Did P K base J (execOp a.eval o) w v st' := by
  cases ho : o.op <;> simp only [ho, opFits, Bool.false_eq_true] at hf
  rename_i op' t x u t'
  simp only [Bool.and_eq_true, beq_iff_eq] at hf
  obtain ⟨⟨⟨⟨rfl, hk⟩, hcst⟩, hx⟩, hu⟩ := hf
  have h1 := xFits_rep hE hG hx
  have h2 := xFits_rep hE hG hu
  obtain ⟨el, hud⟩ : ∃ el, P.underlying t = some (.interface el) := by
    unfold isK at hk
    split at hk
    · rename_i d hd; cases d <;> simp at hk; exact ⟨_, hd⟩
    · cases hk
  simp only [opA] at h
  cases hy : y.ev e <;> simp only [hy] at h <;> try (cases h; done)
  all_goals cases hz : z.ev e <;> simp only [hz] at h <;> try (cases h; done)
  all_goals
    simp only [Option.some.injEq, Nx.val.injEq] at h
    obtain ⟨rfl, rfl⟩ := h
    rw [hy] at h1; rw [hz] at h2
    simp only [Rep] at h1 h2
  · obtain ⟨q, e1, _⟩ := h1
    refine Did.same hS (x := .bool neg) (by simp [Rep]) ?_
    cases neg <;> simp [execOp, ho, e1, h2, eqGuard, binOp, r_eqIfR hud]
  · obtain ⟨q, e2, _⟩ := h2
    refine Did.same hS (x := .bool neg) (by simp [Rep]) ?_
    cases neg <;> simp [execOp, ho, h1, e2, eqGuard, binOp, r_eqIfL hud]
  · refine Did.same hS (x := .bool (!neg)) (by simp [Rep]) ?_
    have hg : ∀ bo : BinOp, (eqGuard bo t x u .nilIface .nilIface).run P w = .ok () w := by
      intro bo
      cases x with
      | const c => cases bo <;> simp [eqGuard]
      | _ =>
        cases u with
        | const c => cases bo <;> simp [eqGuard]
        | _ => simp at hcst
    cases neg <;> simp [execOp, ho, h1, h2, hg, binOp, r_eqIfN hud]

theorem did_un {op : UnOp} {y : AX} (hf : opFits P gl o.op (.un op y) = true) (h : opA (.un op y) e st = some (.val v st')) : Did P K base J (execOp a.eval o) w v st' := by
  cases ho : o.op <;> simp only [ho, opFits, Bool.false_eq_true] at hf
  rename_i op' t x
  simp only [Bool.and_eq_true, beq_iff_eq] at hf
  obtain ⟨rfl, hx⟩ := hf
  have h1 := xFits_rep hE hG hx
  simp only [opA] at h
  cases hy : y.ev e <;> simp only [hy, unA, Option.map_none] at h <;> try (cases h; done)
  all_goals
    rw [hy] at h1
    simp only [Rep] at h1
    cases op <;> simp only [Option.map_none, Option.map_some, Option.some.injEq, Nx.val.injEq] at h <;> try (cases h; done)
    all_goals
      obtain ⟨rfl, rfl⟩ := h
      exact Did.same hS (by simp only [Rep]; rfl) (by simp [execOp, ho, h1, Op.unary, Op.intArith, Op.intBits])

theorem did_convInt {k : IntKind} {y : AX} (hf : opFits P gl o.op (.convInt k y) = true) (h : opA (.convInt k y) e st = some (.val v st')) : Did P K base J (execOp a.eval o) w v st' := by
  cases ho : o.op <;> simp only [ho, opFits, Bool.false_eq_true] at hf
  rename_i s d x
  simp only [Bool.and_eq_true] at hf
  obtain ⟨⟨hs, hd⟩, hx⟩ := hf
  have h1 := xFits_rep hE hG hx
  obtain ⟨ks, hs⟩ : ∃ ks, P.underlying s = some (.int ks) := by
    unfold isK at hs
    split at hs
    · rename_i dd hd'; cases dd <;> simp at hs; exact ⟨_, hd'⟩
    · cases hs
  have hd' : P.underlying d = some (.int k) := by
    split at hd
    · rename_i l hl; simp at hd; rw [hl, hd]
    · cases hd
  simp only [opA] at h
  cases hy : y.ev e <;> simp only [hy] at h <;> try (cases h; done)
  simp only [Option.some.injEq, Nx.val.injEq] at h
  obtain ⟨rfl, rfl⟩ := h
  rw [hy] at h1
  simp only [Rep] at h1
  exact Did.same hS (by simp only [Rep]; rfl) (by simp [execOp, ho, h1, convert, r_under hs, r_under hd', Conv.intToInt])

theorem did_convSame {y : AX} (hf : opFits P gl o.op (.convSame y) = true) (h : opA (.convSame y) e st = some (.val v st')) : Did P K base J (execOp a.eval o) w v st' := by
  cases ho : o.op <;> simp only [ho, opFits, Bool.false_eq_true] at hf
  rename_i s d x
  simp only [Bool.and_eq_true] at hf
  obtain ⟨⟨hs, hd⟩, hx⟩ := hf
  have h1 := xFits_rep hE hG hx
  have key : ∀ t, isK P t (· matches .string) = true → P.underlying t = some .string := by
    intro t ht
    unfold isK at ht
    split at ht
    · rename_i dd hd'; cases dd <;> simp at ht; exact hd'
    · cases ht
  simp only [opA] at h
  cases hy : y.ev e <;> simp only [hy] at h <;> try (cases h; done)
  simp only [Option.some.injEq, Nx.val.injEq] at h
  obtain ⟨rfl, rfl⟩ := h
  rw [hy] at h1
  have h1' := h1
  simp only [Rep] at h1
  obtain ⟨ba, e1, _⟩ := h1
  rw [e1] at h1'
  exact Did.same hS h1' (by simp [execOp, ho, e1, convert, r_under (key _ hs), r_under (key _ hd)])

omit hS hE hG in
/-- A part of some cells, as the model takes it. -/
theorem r_part {t : TypeId} {m off : Nat} {agg : Bool} {cs : List AV} {arr : Array Value} {u : AV} (hv : varFits P t m agg = true) (hr : Reps J cs arr.toList) (hc : cs.all AV.isCell = true)
    (h : takeVar m agg cs off = some u) : ∃ x, (part t arr off).run P w = .ok x w ∧ Rep J u x ∧ u.isVar = true ∧ x.cells.toList = (arr.toList.drop off).take m := by
  obtain ⟨h1, h2, h3⟩ := varFits_iff hv
  unfold takeVar at h
  cases agg with
  | true =>
    simp only [if_true] at h
    split at h
    · rename_i hle
      cases h
      have hl := hr.length
      refine ⟨.agg (arr.extract off (off + m)), by simp [part, r_isAgg h2, r_size h1], ?_, rfl, by simp [Value.cells, List.take_drop, Nat.add_comm]⟩
      simp only [Rep]
      refine ⟨_, rfl, ?_, ?_⟩
      · have := (hr.drop off).take m
        simpa [List.take_drop, Nat.add_comm] using this
      · rw [List.all_eq_true] at hc ⊢
        intro z hz; exact hc z (List.mem_of_mem_drop (List.mem_of_mem_take hz))
    · cases h
  | false =>
    simp only [Bool.false_eq_true, if_false] at h
    obtain ⟨x, hx, hrx⟩ := hr.get off u h
    have hx' : arr[off]? = some x := by simpa using hx
    have hcu : u.isCell = true := by rw [List.all_eq_true] at hc; exact hc u (List.mem_of_getElem? h)
    have hcx := (hrx.oneCell hcu).2
    refine ⟨x, by simp [part, r_isAgg h2, hx'], hrx, by cases u <;> simp_all [AV.isCell, AV.isVar], ?_⟩
    rw [hcx, h3 rfl]
    obtain ⟨hlt, hget⟩ := List.getElem?_eq_some_iff.1 hx
    rw [List.drop_eq_getElem_cons hlt, hget]; simp

theorem did_field {off size : Nat} {agg : Bool} {y : AX} (hf : opFits P gl o.op (.field off size agg y) = true) (h : opA (.field off size agg y) e st = some (.val v st')) : Did P K base J (execOp a.eval o) w v st' := by
  cases ho : o.op <;> simp only [ho, opFits, Bool.false_eq_true] at hf
  rename_i t x i
  simp only [Bool.and_eq_true] at hf
  obtain ⟨hf, hx⟩ := hf
  split at hf
  · rename_i fs hud
    split at hf
    · rename_i f hfi
      simp only [Bool.and_eq_true, beq_iff_eq] at hf
      obtain ⟨rfl, hv⟩ := hf
      have h1 := xFits_rep hE hG hx
      simp only [opA] at h
      cases hy : y.ev e <;> simp only [hy] at h <;> try (cases h; done)
      rename_i cs
      rw [hy] at h1
      simp only [Rep] at h1
      obtain ⟨arr, e1, hr, hc⟩ := h1
      cases htv : takeVar size agg cs f.offset with
      | none => simp [htv] at h
      | some u =>
        simp only [htv, Option.map_some, Option.some.injEq, Nx.val.injEq] at h
        obtain ⟨rfl, rfl⟩ := h
        obtain ⟨z, hz, hrz, _⟩ := r_part (w := w) hv hr hc htv
        exact Did.same hS hrz (by simp [execOp, ho, e1, Instr.field, r_under hud, hfi, asAgg, hz])
    · cases hf
  · cases hf

omit hS hE hG in
theorem Row.sub {b o n m : Nat} {xs ys : List Value} (h : Row J b o xs) (e : ys = (xs.drop n).take m) : Row J b (o + n) ys := by
  subst e
  intro i v hv
  rw [List.getElem?_take] at hv
  split at hv
  · rw [List.getElem?_drop] at hv
    rw [Nat.add_assoc]; exact h _ _ hv
  · cases hv

theorem did_fieldAddr {off size : Nat} {agg : Bool} {y : AX} (hf : opFits P gl o.op (.fieldAddr off size agg y) = true) (h : opA (.fieldAddr off size agg y) e st = some (.val v st')) : Did P K base J (execOp a.eval o) w v st' := by
  cases ho : o.op <;> simp only [ho, opFits, Bool.false_eq_true] at hf
  rename_i t x i
  simp only [Bool.and_eq_true] at hf
  obtain ⟨hf, hx⟩ := hf
  split at hf
  · rename_i fs hud
    split at hf
    · rename_i f hfi
      simp only [Bool.and_eq_true, beq_iff_eq, decide_eq_true_eq] at hf
      obtain ⟨⟨rfl, hv⟩, hsz⟩ := hf
      obtain ⟨hsize, _⟩ := varFits_iff hv
      have h1 := xFits_rep hE hG hx
      have hplace : ∀ ad : Addr, ad.spot = none → (fieldPlace ad f).run P w = .ok ⟨ad.block, ad.off + f.offset, none⟩ w := by
        intro ad hsp
        have : ¬ size = 0 := by omega
        simp [fieldPlace, r_size hsize, this, add_none hsp]
      simp only [opA] at h
      cases hy : y.ev e <;> simp only [hy] at h <;> try (cases h; done)
      · rename_i r off
        simp only [Option.some.injEq, Nx.val.injEq] at h
        obtain ⟨rfl, rfl⟩ := h
        rw [hy] at h1
        simp only [Rep] at h1
        obtain ⟨b, hb, e1⟩ := h1
        refine Did.same hS (x := .pointer (some ⟨b, off + f.offset, none⟩)) (by simp only [Rep]; exact ⟨b, hb, rfl⟩) ?_
        simp [execOp, ho, e1, Instr.fieldAt, r_under hud, hfi, Instr.sureAddr, hplace]
      · rename_i u
        cases u <;> simp only [] at h <;> try (cases h; done)
        rename_i cs
        rw [hy] at h1
        simp only [Rep] at h1
        obtain ⟨ad, y', e1, hsp, ⟨arr, e2, hr, hc⟩, _, hrow⟩ := h1
        cases htv : takeVar size agg cs f.offset with
        | none => simp [htv] at h
        | some u =>
          simp only [htv, Option.map_some, Option.some.injEq, Nx.val.injEq] at h
          obtain ⟨rfl, rfl⟩ := h
          obtain ⟨z, hz, hrz, hvar, hcells⟩ := r_part (w := w) hv hr hc htv
          refine Did.same hS (x := .pointer (some ⟨ad.block, ad.off + f.offset, none⟩)) ?_ ?_
          · simp only [Rep]
            refine ⟨_, z, rfl, rfl, hrz, hvar, ?_⟩
            rw [e2] at hrow
            exact Row.sub hrow hcells
          · simp [execOp, ho, e1, Instr.fieldAt, r_under hud, hfi, Instr.sureAddr, hplace ad hsp]
    · cases hf
  · cases hf

end
end Go.Proofs.YtfkmdajlpnkebaaDoor.Ai
