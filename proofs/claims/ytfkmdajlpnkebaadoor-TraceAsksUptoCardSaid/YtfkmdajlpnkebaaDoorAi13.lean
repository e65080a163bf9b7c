/- Operations: what each does to a world is what the abstract one tells (eighth part). No condition. -/
import Derived.Test.YtfkmdajlpnkebaaDoorAi12
namespace Go.Proofs.YtfkmdajlpnkebaaDoor.Ai
open Go

theorem run_bytes (P : Program) (w : World) : ∀ (l : List Value) (r : ByteArray) (es : List AV) (s : List UInt8) (J : Inj), Reps J es l → ofBytes es = some s →
    ∃ r', (forIn l r (fun c (s : ByteArray) => (match c with
      | .int .u8 n => pure (ForInStep.yield (s.push (UInt8.ofNat n.toNat)))
      | _ => do
        stuck "bytesToString: byte expected"
        pure (ForInStep.yield s) : Sem (ForInStep ByteArray)))).run P w = .ok r' w ∧ r'.data.toList = r.data.toList ++ s
  | l, r, [], s, J, h, e => by
    simp only [Reps] at h; subst h
    simp [ofBytes] at e; subst e
    exact ⟨r, by simp, by simp⟩
  | l, r, u :: es, s, J, h, e => by
    simp only [Reps] at h; obtain ⟨y, ys, rfl, h1, h2⟩ := h
    cases u with
    | int k n =>
      cases k with
      | u8 =>
        simp only [ofBytes] at e
        split at e
        · rename_i hn
          cases hs : ofBytes es with
          | none => simp [hs] at e
          | some s' =>
            simp [hs] at e; subst e
            simp only [Rep] at h1; subst h1
            obtain ⟨r', g1, g2⟩ := run_bytes P w ys (r.push (UInt8.ofNat n.toNat)) es s' J h2 hs
            refine ⟨r', ?_, by rw [g2]; simp⟩
            simp only [List.forIn_cons, Sem.run_bind, Sem.run_pure, Result.andThen_ok]
            exact g1
        · cases e
      | _ => simp [ofBytes] at e
    | _ => simp [ofBytes] at e

section
variable {P : Program} {gl : List (Nat × AV)} {K : Sites} {base : World} {J : Inj} {st st' : St} {w : World} {a : Act} {e : Env} {o : Oper} {v : AV}
variable (hS : Sim K base J st w) (hE : Reps J e a.tmps.toList) (hG : GlOk gl J)
include hS hE hG

theorem did_convStr {y : AX} (hf : opFits P gl o.op (.convStr y) = true) (h : opA (.convStr y) e st = some (.val v st')) : Did P K base J (execOp a.eval o) w v st' := by
  cases ho : o.op <;> simp only [ho, opFits, Bool.false_eq_true] at hf
  rename_i s d x
  simp only [Bool.and_eq_true] at hf
  obtain ⟨⟨hd, hs⟩, hx⟩ := hf
  obtain ⟨dd, hd, hk⟩ := isK_some hd
  cases dd <;> simp at hk
  split at hs
  · rename_i el hs'
    obtain ⟨de, he, hk⟩ := isK_some hs
    have he' : P.underlying el = some (.int .u8) := by
      cases de with
      | int k => cases k <;> first | exact he | (simp at hk; done)
      | _ => simp at hk
    have h1 := xFits_rep hE hG hx
    have fin : ∀ (ad : Addr) (n cap : Nat) (es : List AV) (xs : List Value) (s' : List UInt8), a.eval x = .slice (some ad) n cap → (loadCells ad n).run P w = .ok xs.toArray w → Reps J es xs → ofBytes es = some s' →
        v = .str s' → st' = st → Did P K base J (execOp a.eval o) w v st' := by
      intro ad n cap es xs s' e1 hload hr hb hv hst
      subst hv hst
      obtain ⟨r', g1, g2⟩ := run_bytes P w xs ByteArray.empty es s' J hr hb
      refine Did.same hS (x := .string r') (by simp only [Rep]; exact ⟨r', rfl, by rw [g2]; simp⟩) ?_
      simp only [execOp, ho, e1, convert, Sem.run_bind, r_under hs', r_under hd, r_under he', Result.andThen_ok, Conv.bytesToString, hload]
      rw [List.forIn_toArray]
      refine (congrArg (fun q : Result ByteArray => (q.andThen fun a w' => Sem.run P (pure (Value.string a)) w').andThen fun a w' => Sem.run P (pure (Next.value a)) w') g1).trans ?_
      simp
    simp only [opA] at h
    cases hy : y.ev e <;> simp only [hy] at h <;> try (cases h; done)
    all_goals rw [hy] at h1; simp only [Rep] at h1
    · rename_i m es ap
      split at h
      · rename_i hm
        subst hm
        cases hb : ofBytes es with
        | none => simp [hb] at h
        | some s' =>
          simp only [hb, Option.map_some, Option.some.injEq, Nx.val.injEq] at h
          obtain ⟨h3, h4⟩ := h
          obtain ⟨_, ⟨e1, e2⟩ | ⟨ad, cap, e1, hsp, hcap, _, helm⟩⟩ := h1
          · subst e2
            simp [ofBytes] at hb
            subst hb h3 h4
            refine Did.same hS (x := .string ByteArray.empty) (by simp only [Rep]; exact ⟨_, rfl, by simp⟩) ?_
            simp [execOp, ho, e1, convert, r_under hs', r_under hd, r_under he', Conv.bytesToString]
          · obtain ⟨xs, hc, hrow⟩ := helm.chunks
            have hl := hc.length
            have hfl : flat es = es := by
              have : ∀ (es : List AV) s', ofBytes es = some s' → flat es = es := by
                intro es
                induction es with
                | nil => intro _ _; rfl
                | cons u es ih =>
                  intro s' hs'
                  cases u with
                  | int k n =>
                    cases k with
                    | u8 =>
                      simp only [ofBytes] at hs'
                      split at hs'
                      · cases ho : ofBytes es with
                        | none => simp [ho] at hs'
                        | some q => simp [flat, AV.cells, ih q ho]
                      · cases hs'
                    | _ => simp [ofBytes] at hs'
                  | _ => simp [ofBytes] at hs'
              exact this es s' hb
            have hr := hc.reps
            rw [hfl] at hr
            rcases Nat.eq_zero_or_pos cap with h0 | h0
            · have h1 : es.length = 0 := by omega
              have h2 : xs = [] := List.eq_nil_of_length_eq_zero (by omega)
              refine fin ad es.length cap es xs s' e1 ?_ hr hb h3.symm h4.symm
              rw [h1, h2]
              simp [loadCells, loadCellsFrom]
            have hsp := hsp h0
            have had : ad = ⟨ad.block, ad.off, none⟩ := by cases ad; simp at hsp ⊢; exact hsp
            refine fin ad es.length cap es xs s' e1 ?_ hr hb h3.symm h4.symm
            rw [had]
            have := run_cellsOf (P := P) (w := w) (b := ad.block) (off := ad.off) (xs := xs) (fun j v e => hS.imOk _ _ _ (hrow j v e)) es.length (by omega)
            rwa [List.take_of_length_le (by omega)] at this
      · cases h
    · rename_i r m off n cap
      cases hst : st[r]? with
      | none => simp [hst] at h
      | some ob =>
        cases ob <;> simp only [hst] at h <;> try (cases h; done)
        rename_i cs
        split at h
        · rename_i hm
          obtain ⟨hm, hle⟩ := hm
          subst hm
          cases hb : ofBytes ((cs.drop off).take n) with
          | none => simp [hb] at h
          | some s' =>
            simp only [hb, Option.map_some, Option.some.injEq, Nx.val.injEq] at h
            obtain ⟨h3, h4⟩ := h
            obtain ⟨b, c, hb', e1, hnc, _⟩ := h1
            obtain ⟨b', cc, tt, q1, ⟨fr, q2, qfr⟩, q3, q4, q5, qty⟩ := hS.obj r _ hst
            rw [hb'] at q1; cases q1
            have hr := (q4.drop off).take n
            have hxl : (((cc.toList.take cs.length).drop off).take n).length = n := by simp; omega
            refine fin ⟨b, off, none⟩ n c _ _ s' e1 ?_ hr hb h3.symm h4.symm
            have := run_cellsOf (P := P) (w := w) (b := b) (off := off) (xs := ((cc.toList.take cs.length).drop off).take n) (fun j v e => by
              rw [cell_of_heap q2]
              rw [List.getElem?_take] at e; split at e
              · rw [List.getElem?_drop, List.getElem?_take] at e; split at e
                · simpa using e
                · cases e
              · cases e) n (by omega)
            rwa [List.take_of_length_le (by omega)] at this
        · cases h
  · cases hs

theorem did_assertT {t : TypeId} {zero : AV} {ok : Bool} {y : AX} (hf : opFits P gl o.op (.assertT t zero ok y) = true) (h : opA (.assertT t zero ok y) e st = some (.val v st')) : Did P K base J (execOp a.eval o) w v st' := by
  cases ho : o.op <;> simp only [ho, opFits, Bool.false_eq_true] at hf
  rename_i x xt u ok'
  simp only [Bool.and_eq_true, beq_iff_eq] at hf
  obtain ⟨⟨⟨⟨rfl, rfl⟩, hk⟩, hz⟩, hx⟩ := hf
  obtain ⟨d, hd, hk⟩ := isK_some hk
  have h1 := xFits_rep hE hG hx
  simp only [opA] at h
  cases hy : y.ev e <;> simp only [hy] at h <;> try (cases h; done)
  rename_i u q
  rw [hy] at h1; simp only [Rep] at h1
  obtain ⟨z, e1, hr⟩ := h1
  have hd' : ∀ (static : Option TypeId) (v1 : Sem Value) (f : Array (String × TypeId) → Sem Value), (match d, Value.iface u z with
      | .interface _, .nilIface => v1
      | .interface want, .iface t _ => f want
      | _, .nilIface => v1
      | _, .iface t v => v1
      | _, _ => v1) = v1 := by
    intro _ _ _; cases d <;> simp at hk ⊢
  split at h
  · rename_i hut
    subst hut
    simp only [Option.some.injEq, Nx.val.injEq] at h
    obtain ⟨rfl, rfl⟩ := h
    cases ok with
    | true =>
      refine Did.same hS (x := .tuple #[z, .bool true]) (by simp only [Rep]; exact ⟨_, rfl, by simp [Reps, Rep, hr]⟩) ?_
      simp only [execOp, ho, e1, Instr.typeAssert, Sem.run_bind, r_under hd, Result.andThen_ok]
      cases d <;> simp at hk ⊢
    | false =>
      refine Did.same hS hr ?_
      simp only [execOp, ho, e1, Instr.typeAssert, Sem.run_bind, r_under hd, Result.andThen_ok]
      cases d <;> simp at hk ⊢
  · rename_i hut
    split at h
    · rename_i hok
      subst hok
      simp only [Option.some.injEq, Nx.val.injEq] at h
      obtain ⟨rfl, rfl⟩ := h
      unfold zeroFits at hz
      split at hz
      · rename_i zv hzv
        simp only [Bool.and_eq_true] at hz
        have hzr := constFits_rep (J := J) _ _ hz.1
        refine Did.same hS (x := .tuple #[zv, .bool false]) (by simp only [Rep]; exact ⟨_, rfl, by simp [Reps, Rep, hzr]⟩) ?_
        simp only [execOp, ho, e1, Instr.typeAssert, Sem.run_bind, r_under hd, Result.andThen_ok]
        cases d <;> simp [hut, r_zero hzv] at hk ⊢
      · cases hz
    · cases h

omit hS hE hG in
theorem sameKey_now {d : TypeDesc} {k q : AV} {x y : Value} {b : Bool} (hk : Rep J k x) (hq : Rep J q y) (hd : kindD d = keyKind k) (h3 : keyKind k < 3) (h : sameKey k q = some b) : Instr.sameNow d x y = some b := by
  cases k <;> cases q <;> simp only [sameKey] at h <;> try (cases h; done)
  all_goals
    simp only [Rep] at hk hq
    cases d <;> simp [kindD, keyKind] at hd
  · cases h; subst hk hq; simp [Instr.sameNow]
  · subst hk hq; simp [Instr.sameNow]; split at h <;> simp_all
  · cases h; obtain ⟨b1, rfl, rfl⟩ := hk; obtain ⟨b2, rfl, rfl⟩ := hq
    simp only [Instr.sameNow]
    cases b1 with | mk x => cases b2 with | mk y =>
    congr 1
    rw [Bool.eq_iff_iff]
    show (x == y) = true ↔ _
    simp

omit hS hE hG in
theorem findKey_now {d : TypeDesc} {k : AV} {x : Value} (hk : Rep J k x) (hd : kindD d = keyKind k) (h3 : keyKind k < 3) : ∀ (es : List (AV × AV)) (xs : List MapEntry) (i : Nat) (r : Option (Nat × AV)),
    (∀ (j : Nat) e, es[j]? = some e → ∃ z, xs[j]? = some z ∧ Rep J e.1 z.key ∧ Rep J e.2 z.val) → es.length = xs.length → findKey k es i = some r →
    (match r with
     | none => Instr.findNow d x xs i = some none
     | some (n, u) => i ≤ n ∧ n < i + es.length ∧ ∃ z, xs[n - i]? = some z ∧ Rep J u z.val ∧ Instr.findNow d x xs i = some (some (n, z.val)) ∧ ∃ e, es[n - i]? = some e ∧ sameKey k e.1 = some true)
  | [], [], i, r, _, _, h => by simp [findKey] at h; subst h; simp [Instr.findNow]
  | [], _ :: _, _, _, _, hl, _ => by simp at hl
  | _ :: _, [], _, _, _, hl, _ => by simp at hl
  | e :: es, z :: xs, i, r, hr, hl, h => by
    obtain ⟨z', hz', h1, h2⟩ := hr 0 e (by simp)
    simp at hz'; subst hz'
    simp only [findKey] at h
    cases hs : sameKey k e.1 with
    | none => simp [hs] at h
    | some b =>
      have hn := sameKey_now hk h1 hd h3 hs
      cases b with
      | true =>
        simp [hs] at h; subst h
        refine ⟨Nat.le_refl _, by simp, z, by simp, h2, by simp [Instr.findNow, hn], e, by simp, hs⟩
      | false =>
        simp [hs] at h
        have := findKey_now hk hd h3 es xs (i + 1) r (fun j e' he => by simpa using hr (j + 1) e' (by simpa using he)) (by simpa using hl) h
        cases r with
        | none => simpa [Instr.findNow, hn] using this
        | some p =>
          obtain ⟨n, u⟩ := p
          obtain ⟨g1, g2, z2, g3, g4, g5, e2, g6, g7⟩ := this
          refine ⟨by omega, by simp; omega, z2, ?_, g4, by simp [Instr.findNow, hn, g5], e2, ?_, g7⟩
          · rw [show n - i = (n - (i + 1)) + 1 by omega]; simpa using g3
          · rw [show n - i = (n - (i + 1)) + 1 by omega]; simpa using g6

/-- What was found, and what is found. -/
def FoundV (J : Inj) : Option (Nat × AV) → Option (Nat × Value) → Prop
  | none, q => q = none
  | some (_, u), q => ∃ n z, q = some (n, z) ∧ Rep J u z

/-- What a lookup hands back. -/
def lookedUp (zv : Value) : Option (Nat × Value) → Value
  | some (_, v) => v
  | none => zv

omit hS hE hG in
theorem r_checkKey {b : Bool} {n : Nat} {t : TypeId} {d : TypeDesc} {x : Value} (hd : P.underlying t = some d) (hk : kindD d < 3) : (Instr.checkKey b (n + 1) t x).run P w = .ok () w := by
  simp only [Instr.checkKey, Sem.run_bind, r_under hd, Result.andThen_ok]
  cases d <;> simp [kindD] at hk <;> rfl

theorem did_lookup {kd : Nat} {zero : AV} {ok : Bool} {y z : AX} (hf : opFits P gl o.op (.lookup kd zero ok y z) = true) (h : opA (.lookup kd zero ok y z) e st = some (.val v st')) : Did P K base J (execOp a.eval o) w v st' := by
  cases ho : o.op <;> simp only [ho, opFits, Bool.false_eq_true] at hf
  rename_i t x ix ok'
  simp only [Bool.and_eq_true, beq_iff_eq] at hf
  obtain ⟨⟨⟨rfl, hm⟩, hx⟩, hi⟩ := hf
  split at hm
  · rename_i kt et hd
    simp only [Bool.and_eq_true, decide_eq_true_eq] at hm
    obtain ⟨⟨hk, h3⟩, hz⟩ := hm
    obtain ⟨dk, hdk, hk⟩ := isK_some hk
    simp only [beq_iff_eq] at hk
    unfold zeroFits at hz
    split at hz
    · rename_i zv hzv
      simp only [Bool.and_eq_true] at hz
      have hzr := constFits_rep (J := J) _ _ hz.1
      have h1 := xFits_rep hE hG hx
      have h2 := xFits_rep hE hG hi
      simp only [opA] at h
      split at h
      · rename_i hkind
        cases hmo : mapOf st (y.ev e) with
        | none => simp [hmo] at h
        | some es =>
          simp only [hmo, Option.bind_some] at h
          cases hfk : findKey (z.ev e) es 0 with
          | none => simp [hfk] at h
          | some r =>
            simp only [hfk, Option.map_some, Option.some.injEq, Nx.val.injEq] at h
            obtain ⟨rfl, rfl⟩ := h
            have hck : ∀ b, (Instr.checkKey b 10000 kt (a.eval ix)).run P w = .ok () w := fun b => r_checkKey hdk (by omega)
            have hrun : ∃ q : Option (Nat × Value), (execOp a.eval o).run P w = .ok (.value (if ok = true then .tuple #[lookedUp zv q, .bool q.isSome] else lookedUp zv q)) w ∧ FoundV J r q := by
              rcases r_map hS h1 hmo with ⟨e1, e2, _⟩ | ⟨r', b, ents, clock, _, _, _, e1, hh, hmm⟩
              · subst e2
                simp [findKey] at hfk
                subst hfk
                refine ⟨none, ?_, rfl⟩
                have hfind : (Instr.findKey kt (a.eval ix) []).run P w = .ok none w := by
                  simp only [Instr.findKey, Sem.run_bind, r_under hdk, Result.andThen_ok, Instr.findNow]; rfl
                cases ok <;> simp [execOp, ho, e1, Instr.lookup, r_under hd, hck, hfind, r_zero hzv, lookedUp]
              · have hnow := findKey_now h2 (by rw [hk, hkind]) (by omega) es ents.toList 0 r hmm.2 hmm.1 hfk
                have hfind : ∃ q : Option (Nat × Value), (Instr.findKey kt (a.eval ix) ents.toList).run P w = .ok q w ∧ FoundV J r q := by
                  cases r with
                  | none =>
                    refine ⟨none, ?_, rfl⟩
                    simp only [Instr.findKey, Sem.run_bind, r_under hdk, Result.andThen_ok]
                    simp only [] at hnow
                    rw [hnow]; rfl
                  | some p =>
                    obtain ⟨n, u⟩ := p
                    obtain ⟨_, _, z, _, hzr, hfn, _⟩ := hnow
                    refine ⟨some (n, z.val), ?_, n, z.val, rfl, hzr⟩
                    simp only [Instr.findKey, Sem.run_bind, r_under hdk, Result.andThen_ok]
                    rw [hfn]; rfl
                obtain ⟨q, hq, hqr⟩ := hfind
                refine ⟨q, ?_, hqr⟩
                cases q with
                | none => cases ok <;> simp [execOp, ho, e1, Instr.lookup, r_under hd, getObj, Sem.run, hh, hck, hq, r_zero hzv, lookedUp]
                | some p => cases ok <;> simp [execOp, ho, e1, Instr.lookup, r_under hd, getObj, Sem.run, hh, hck, hq, lookedUp]
            obtain ⟨q, hrun, hqr⟩ := hrun
            cases r with
            | none =>
              simp only [FoundV] at hqr; subst hqr
              have := hrun
              simp only [lookedUp] at this
              cases ok with
              | true => exact Did.same hS (by simp only [Rep, if_true]; exact ⟨_, rfl, by simp [Reps, Rep, hzr]⟩) this
              | false => exact Did.same hS (by simpa using hzr) this
            | some p =>
              obtain ⟨n, z, rfl, hzr⟩ := hqr
              have := hrun
              simp only [lookedUp] at this
              cases ok with
              | true => exact Did.same hS (by simp only [Rep, if_true]; exact ⟨_, rfl, by simp [Reps, Rep, hzr]⟩) this
              | false => exact Did.same hS (by simpa using hzr) this
      · cases h
    · cases hz
  · cases hm
end
end Go.Proofs.YtfkmdajlpnkebaaDoor.Ai
