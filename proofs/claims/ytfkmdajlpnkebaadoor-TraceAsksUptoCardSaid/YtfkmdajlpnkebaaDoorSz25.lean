/- Chapter 25, run symbolically: the numbers at a place (At, at, Range, When, Changes). No condition. -/
import Derived.Test.YtfkmdajlpnkebaaDoorSy25
import Derived.Test.YtfkmdajlpnkebaaDoorAi35
namespace Go.Proofs.YtfkmdajlpnkebaaDoor
open Go Ai

/-- The numbers at a place, with their marks. -/
def itsFrom (c : Int) : Nat → List Mk → List (Nat × Int)
  | _, [] => []
  | n, m :: l => (if 0 ≤ c ∧ c < m.outs.length then [(n, m.outs.getD c.toNat 0)] else []) ++ itsFrom c (n + 1) l
theorem itsFrom_len {c : Int} : ∀ {n : Nat} {l : List Mk}, (itsFrom c n l).length ≤ l.length
  | n, [] => Nat.le_refl _
  | n, m :: l => by have := itsFrom_len (c := c) (n := n + 1) (l := l); simp only [itsFrom, List.length_append, List.length_cons]; split <;> simp <;> omega

theorem fn26 : A.fn 26 = some a26 := by kernel_rfl
theorem prim26 : A.prim 26 = none := by kernel_rfl
theorem fn34 : A.fn 34 = some a34 := by kernel_rfl
theorem prim34 : A.prim 34 = none := by kernel_rfl

theorem at_call {ms : List Mk} {ap : Ap} {en c : Int} {st : St} (hst : StOk st) (hap : ∀ n, AV.lowB n (trAv ms ap en) = true) :
    runL A (.call 26 [trAv ms ap en, .int .i64 c]) st = some ⟨.ret, ⟨[.func (.func 34) [] [.iptr (trAv ms ap en), .iptr (.int .i64 c)]], []⟩, st⟩ := by
  refine (task_of_aw (N := 6) prim26 fn26 rfl rfl hst ?_).1
  intro e he ha K hK
  have a0 := ha 0
  have a1 := ha 1
  clear ha
  simp [trAv] at a0 a1
  refine aw_of ?_
  simp [a26, he, a0, a1]
  exact hK _ _ _ (.inl rfl) (by simp) ⟨_, rfl, by
    have := hap st.length
    simp [trAv, AV.lowB, AV.lowsB] at this
    simp [he, a0, a1, trAv, AV.lowsB, AV.lowB, this]⟩

def w34_0 : List Nat := a34_0.writes
/-- The range over 'at': its rounds, by what the user says of them. -/
theorem at_run {ms : List Mk} {ap : Ap} {en c : Int} {r : Nat} (hl : ms.length ≤ 2000000) (J : List (Nat × Int) → St → Prop) (S : St → Prop)
    (hJ : ∀ its st o, J its st → J its (st ++ [o]))
    (hround : ∀ n v its st, J ((n, v) :: its) st → ∃ b st', runL A (.round r [.int .i64 n, .int .i64 v]) st = some ⟨.ret, ⟨[.bool b], []⟩, st'⟩ ∧ (b = true → J its st') ∧ (b = false → S st'))
    {st : St} (h0 : J (itsFrom c 0 ms) st) :
    ∃ st3, runL A (.seqc 34 [.func (.yield r) [] [], .iptr (trAv ms ap en), .iptr (.int .i64 c)]) st = some ⟨.ret, ⟨[.tup []], []⟩, st3⟩ ∧ (J [] st3 ∨ S st3) := by
  refine Exists.elim (task_of_aw_keep_ex (A := A) (f := 34) (F := a34) (args := [.func (.yield r) [] [], .iptr (trAv ms ap en), .iptr (.int .i64 c)]) (v := .tup []) (N := 35) (st := st) (fun st3 => J [] st3 ∨ S st3) prim34 fn34 rfl rfl ?_) fun st3 h => ⟨st3, h.2.2, h.1⟩
  intro e he ha K hK
  have a0 := ha 0
  have a1 := ha 1
  have a2 := ha 2
  clear ha
  simp [trAv] at a0 a1 a2
  simp only [a34]
  refine aw_seq.2 (aw_of ?_)
  simp [he, a0, a1, a2]
  refine aw_block.2 ?_
  refine aw_loop (W := w34_0) rfl (fun k e ds st' => ds = [] ∧ ∃ i : Nat, i + k = ms.length ∧ J (itsFrom c i (ms.drop i)) st' ∧ AX.ev e (.t 9) = .int .i64 i) ms.length ⟨rfl, 0, by omega, by simpa using h0, by simp [he]⟩ ?_
  rintro k e1 ds st' hs ⟨rfl, i, hk, hJi, g9⟩ K1 kn kx
  have he1 : e1.length = 35 := by simp [hs.1, he]
  have g0 := hs.ev 0 rfl (v := .func (.yield r) [] []) (by simp [a0])
  have g2 := hs.ev 2 rfl (v := .iptr (.int .i64 c)) (by simp [a2])
  have g7 := hs.ev 7 rfl (v := .lst 4 (ms.map Mk.av) ap) (by simp [he])
  have g8 := hs.ev 8 rfl (v := .int .i64 ms.length) (by simp [he])
  by_cases hi : i < ms.length
  · obtain ⟨x, hx, hx', hd⟩ := aGetAt hi
    rw [hd] at hJi
    simp only [itsFrom] at hJi
    have w2 : IntKind.i64.wrap ((i : Int) + 1) = (i : Int) + 1 := wrap_i64 (by omega) (by omega)
    by_cases h0 : 0 ≤ c
    · by_cases h1 : c < x.outs.length
      · have hn : ¬ c < 0 := by omega
        have hlt : c.toNat < x.outs.length := by omega
        simp [h0, h1, hlt] at hJi
        obtain ⟨b, st2, hr, hb1, hb2⟩ := hround _ _ _ _ (hJ _ _ (.cells none x.av.cells) hJi)
        simp [Mk.av] at hr
        refine aw_of ?_
        cases b with
        | true =>
          simp [a34_0, g0, g2, g7, g8, g9, he1, hi, hx', Mk.av, h0, h1, hn, hlt, hr, w2]
          exact kn (k - 1) _ _ _ (by omega) ⟨rfl, i + 1, by omega, hb1 rfl, by simp [he1]⟩
        | false =>
          simp [a34_0, g0, g2, g7, g8, g9, he1, hi, hx', Mk.av, h0, h1, hn, hlt, hr, w2]
          refine kx _ _ _ _ nofun fun hs' => ?_
          exact hK _ _ _ (.inl rfl) (.inr (hb2 rfl)) ⟨_, rfl, rfl⟩
      · have hlt : ¬ c.toNat < x.outs.length := by omega
        simp [h0, h1] at hJi
        refine aw_of ?_
        simp [a34_0, g0, g2, g7, g8, g9, he1, hi, hx', Mk.av, h0, h1, w2]
        exact kn (k - 1) _ _ _ (by omega) ⟨rfl, i + 1, by omega, by have := hJ _ _ (.cells none x.av.cells) hJi; simpa [Mk.av] using this, by simp [he1]⟩
    · simp [h0] at hJi
      refine aw_of ?_
      simp [a34_0, g0, g2, g7, g8, g9, he1, hi, hx', Mk.av, h0, w2]
      exact kn (k - 1) _ _ _ (by omega) ⟨rfl, i + 1, by omega, by have := hJ _ _ (.cells none x.av.cells) hJi; simpa [Mk.av] using this, by simp [he1]⟩
  · have : i = ms.length := by omega
    subst this
    simp [itsFrom] at hJi
    refine aw_of ?_
    simp [a34_0, g8, g9, he1]
    refine kx _ _ _ _ nofun fun hs' => ?_
    simp
    exact hK _ _ _ (.inr rfl) (.inl hJi) ⟨_, rfl, rfl⟩

theorem fn15 : A.fn 15 = some a15 := by kernel_rfl
theorem prim15 : A.prim 15 = none := by kernel_rfl
theorem fn16 : A.fn 16 = some a16 := by kernel_rfl
theorem prim16 : A.prim 16 = none := by kernel_rfl

/-- How often it changes. -/
def chg : Int → Option Int → List (Nat × Int) → Int
  | n, _, [] => n
  | n, none, (_, v) :: l => chg n (some v) l
  | n, some u, (_, v) :: l => chg (if u ≠ v then n + 1 else n) (some v) l
def lastAv : Option Int → AV
  | none => .lst 1 [] .tight
  | some v => .lst 1 [.int .i64 v] .tight

def E16 (e : Env) (b : Nat) : Prop := e.length = 29 ∧ AX.ev e (.t 5) = .ptr b 0 ∧ AX.ev e (.t 6) = .ptr (b + 1) 0
def S16 (st0 : St) (env : Env) (n : Int) (last : Option Int) (l : St) : St :=
  st0 ++ (.cells none [.int .i64 n] :: .cells none [lastAv last] :: .defr (some []) :: .loop .ready none 16 0 [12, 13] env (st0.length + 2) :: l)
/-- The rounds of Changes. -/
theorem chg_round {st0 : St} {env : Env} (hE : E16 env st0.length) {n v : Int} {nn : Nat} {last : Option Int} {l : St} (hnn : 0 ≤ n ∧ n ≤ 4000000) :
    runL A (.round (st0.length + 3) [.int .i64 nn, .int .i64 v]) (S16 st0 env n last l) = some ⟨.ret, ⟨[.bool true], []⟩, S16 st0 env (match last with | none => n | some u => if u ≠ v then n + 1 else n) (some v) l⟩ := by
  obtain ⟨he, h5, h6⟩ := hE
  refine Exists.elim (round_of_aw (A := A) (fn := 16) (r := st0.length + 3) (F := a16) (site := 0) (ps := [12, 13]) (env := env) (d := st0.length + 2) (pend := none) (args := [.int .i64 nn, .int .i64 v]) (st := S16 st0 env n last l)
    (asg := (.reg [⟨some 8, .mov (.t 13), none⟩])) (body := (a16.sites.getD 0 (.skip, .skip)).2) (env1 := ((env.set 12 (.int .i64 nn)).set 13 (.int .i64 v)).set 8 (.int .i64 v))
    (G := fun b st' => b = true ∧ st' = S16 st0 env (match last with | none => n | some u => if u ≠ v then n + 1 else n) (some v) l)
    fn16 rfl rfl (by simp [S16]) (by simp [he]) ?_) (fun b ⟨st', h, hb, hs⟩ => by rw [h, hb, hs])
  intro K hn _ _
  simp only [a16, List.getD_cons_zero]
  have w1 : IntKind.i64.wrap (n + 1) = n + 1 := wrap_i64 (by omega) (by omega)
  refine aw_of ?_
  cases last with
  | none =>
    simp [he, h5, h6, S16, lastAv]
    exact hn _ _ (by simp) ⟨rfl, by simp [S16, lastAv]⟩
  | some u =>
    by_cases hu : u = v
    · simp [he, h5, h6, S16, lastAv, hu]
      exact hn _ _ (by simp) ⟨rfl, by simp [S16, lastAv, hu]⟩
    · simp [he, h5, h6, S16, lastAv, hu, w1]
      exact hn _ _ (by simp) ⟨rfl, by simp [S16, lastAv, hu]⟩

theorem tr_low {ms : List Mk} {b : Bool} {en : Int} (n : Nat) : AV.lowB n (trAv ms (apOf b) en) = true := by
  show AV.lowsB n _ = true
  have : AV.lowsB n (ms.map Mk.av) = true := lows_all fun y hy => by obtain ⟨m, _, rfl⟩ := List.mem_map.1 hy; exact mk_low
  simp only [AV.lowsB, apOf_low, this, Bool.true_and]; rfl

theorem getE {e : Env} {i : Nat} {v : AV} (h : AX.ev e (.t i) = v) (hi : i < e.length) : e[i]'hi = v := by
  simp only [AX.ev, List.getD_eq_getElem?_getD, List.getElem?_eq_getElem hi, Option.getD_some] at h; exact h

theorem changes_call {ms : List Mk} {b : Bool} {en c : Int} (hl : ms.length ≤ 2000000) {st : St} (hst : StOk st) :
    runL A (.call 16 [trAv ms (apOf b) en, .int .i64 c]) st = some ⟨.ret, ⟨[.int .i64 (chg 0 none (itsFrom c 0 ms))], []⟩, st⟩ := by
  refine (task_of_aw_d (N := 29) prim16 fn16 rfl rfl hst ?_).1
  intro e he ha K hK
  have a0 := ha 0
  have a1 := ha 1
  clear ha
  simp at a0 a1
  have hst2 : StOk (st ++ [.cells none [.int .i64 0]]) := hst.snoc rfl
  have hst3 := hst2.snoc (o := .cells none [.lst 1 [] .tight]) rfl
  simp at hst3
  have hat := at_call (ms := ms) (ap := apOf b) (en := en) (c := c) hst3 tr_low
  simp only [trAv] at hat a0
  simp only [a16]
  refine aw_seq.2 (aw_of ?_)
  simp [he, a0]
  refine aw_seq.2 (aw_of ?_)
  simp [he]
  refine aw_seq.2 (aw_of ?_)
  simp [he]
  refine aw_seq.2 (aw_seq.2 (aw_of ?_))
  simp [he, a1, hat]
  refine aw_block.2 ?_
  generalize hE : (List.set _ 11 _ : Env) = E
  have hEv : E16 E st.length := by subst hE; exact ⟨by simp [he], by simp [he], by simp [he]⟩
  have hf : AX.ev E (.t 11) = .func (.func 34) [] [.iptr (trAv ms (apOf b) en), .iptr (.int .i64 c)] := by subst hE; simp [he, trAv]
  have he1 : E.length = 29 := hEv.1
  have h5 := hEv.2.1
  clear hE
  obtain ⟨st3, hr, hJ⟩ := at_run (ms := ms) (ap := apOf b) (en := en) (c := c) (r := st.length + 3) hl
    (fun its st' => ∃ n last l, st' = S16 st E n last l ∧ 0 ≤ n ∧ n + its.length ≤ ms.length ∧ chg n last its = chg 0 none (itsFrom c 0 ms)) (fun _ => False)
    (fun its st' o => by rintro ⟨n, last, l, rfl, h1, h2, h3⟩; exact ⟨n, last, l ++ [o], by simp [S16], h1, h2, h3⟩)
    (fun nn v its st' => by
      rintro ⟨n, last, l, rfl, h1, h2, h3⟩
      simp only [List.length_cons] at h2
      refine ⟨_, _, chg_round hEv ⟨h1, by omega⟩, fun _ => ⟨_, _, _, rfl, ?_, ?_, ?_⟩, nofun⟩
      · cases last with
        | none => exact h1
        | some u => simp only; split <;> omega
      · cases last with
        | none => simp only; omega
        | some u => simp only; split <;> omega
      · rw [← h3]; cases last <;> rfl)
    (st := S16 st E 0 none []) ⟨0, none, [], rfl, Int.le_refl _, by have := itsFrom_len (c := c) (n := 0) (l := ms); omega, rfl⟩
  rcases hJ with ⟨n, last, l, rfl, h1, h2, h3⟩ | hF
  · simp only [chg] at h3
    refine aw_range (s := .ready) (pend := none) (f' := 16) (site' := 0) (ps' := [12, 13]) (env' := E) (d' := st.length + 2) (st3 := S16 st E n last l) hf (by simpa [S16, lastAv, Nat.add_assoc] using hr) (by simp [S16, Nat.add_assoc]) (by simp) ?_
    simp [pendEx]
    refine aw_of ?_
    simp [S16, h5, he1, Nat.add_assoc]
    exact hK _ _ _ _ _ (.inl rfl) (by simp; rfl) (by simp) ⟨_, rfl, by simp [he1, h3]⟩
  · exact hF.elim
end Go.Proofs.YtfkmdajlpnkebaaDoor
