/- Chapter 25, run symbolically: When, Range, At. No condition. -/
import Derived.Test.YtfkmdajlpnkebaaDoorSz25
import Derived.Test.YtfkmdajlpnkebaaDoorAi36
namespace Go.Proofs.YtfkmdajlpnkebaaDoor
open Go Ai

/-! When -/
def whenOf (v : Int) : List (Nat × Int) → Int
  | [] => -1
  | (n, x) :: l => if v ≤ x then n else whenOf v l
def E15 (e : Env) (b : Nat) (v : Int) : Prop := e.length = 18 ∧ AX.ev e (.t 5) = .iptr (.int .i64 v) ∧ AX.ev e (.t 6) = .ptr b 0
def S15 (st0 : St) (env : Env) (n : Int) (s : LoopState) (p : Option APend) (l : St) : St :=
  st0 ++ (.cells none [.int .i64 n] :: .defr (some []) :: .loop s p 15 0 [12, 13] env (st0.length + 1) :: l)
theorem when_round {st0 : St} {env : Env} {v : Int} (hE : E15 env st0.length v) {n x : Int} {nn : Nat} {l : St} :
    runL A (.round (st0.length + 2) [.int .i64 nn, .int .i64 x]) (S15 st0 env n .ready none l) = some ⟨.ret, ⟨[.bool (decide (x < v))], []⟩, if v ≤ x then S15 st0 env nn .done (some .ret) l else S15 st0 env n .ready none l⟩ := by
  obtain ⟨he, h5, h6⟩ := hE
  refine Exists.elim (round_of_aw (A := A) (fn := 15) (r := st0.length + 2) (F := a15) (site := 0) (ps := [12, 13]) (env := env) (d := st0.length + 1) (pend := none) (args := [.int .i64 nn, .int .i64 x]) (st := S15 st0 env n .ready none l)
    (asg := (a15.sites.getD 0 (.skip, .skip)).1) (body := (a15.sites.getD 0 (.skip, .skip)).2) (env1 := (((env.set 12 (.int .i64 nn)).set 13 (.int .i64 x)).set 7 (.int .i64 nn)).set 8 (.int .i64 x))
    (G := fun b st' => b = decide (x < v) ∧ st' = if v ≤ x then S15 st0 env nn .done (some .ret) l else S15 st0 env n .ready none l)
    fn15 rfl rfl (by simp [S15]) (by simp [a15, he]) ?_) (fun b ⟨st', h, hb, hs⟩ => by rw [h, hb, hs])
  intro K hn hr _
  simp only [a15, List.getD_cons_zero]
  by_cases hv : v ≤ x
  · have hv' : ¬ x < v := by omega
    simp [he, h5, h6, S15, hv]
    exact hr _ _ (by simp) ⟨by simp [hv'], by simp [S15, hv]⟩
  · have hv' : x < v := by omega
    simp [he, h5, h6, S15, hv]
    exact hn _ _ (by simp) ⟨by simp [hv'], by simp [S15, hv]⟩

theorem when_call {ms : List Mk} {b : Bool} {en c v : Int} (hl : ms.length ≤ 2000000) {st : St} (hst : StOk st) :
    runL A (.call 15 [trAv ms (apOf b) en, .int .i64 c, .int .i64 v]) st = some ⟨.ret, ⟨[.int .i64 (whenOf v (itsFrom c 0 ms))], []⟩, st⟩ := by
  refine (task_of_aw_d (N := 18) prim15 fn15 rfl rfl hst ?_).1
  intro e he ha K hK
  have a0 := ha 0
  have a1 := ha 1
  have a2 := ha 2
  clear ha
  simp at a0 a1 a2
  have hst2 : StOk (st ++ [.cells none [.int .i64 0]]) := hst.snoc rfl
  have hat := at_call (ms := ms) (ap := apOf b) (en := en) (c := c) hst2 tr_low
  simp only [trAv] at hat a0
  simp [a15, he, a0, a2, a1, hat]
  generalize hE : (List.set _ 11 _ : Env) = E
  have hEv : E15 E st.length v := by subst hE; exact ⟨by simp [he], by simp [he], by simp [he]⟩
  have hf : AX.ev E (.t 11) = .func (.func 34) [] [.iptr (trAv ms (apOf b) en), .iptr (.int .i64 c)] := by subst hE; simp [he, trAv]
  have he1 : E.length = 18 := hEv.1
  have h6 := hEv.2.2
  clear hE
  obtain ⟨st3, hr, hJ⟩ := at_run (ms := ms) (ap := apOf b) (en := en) (c := c) (r := st.length + 2) hl
    (fun its st' => ∃ l, st' = S15 st E 0 .ready none l ∧ whenOf v its = whenOf v (itsFrom c 0 ms)) (fun st' => ∃ l, st' = S15 st E (whenOf v (itsFrom c 0 ms)) .done (some .ret) l)
    (fun its st' o => by rintro ⟨l, rfl, h1⟩; exact ⟨l ++ [o], by simp [S15], h1⟩)
    (fun nn x its st' => by
      rintro ⟨l, rfl, h1⟩
      simp only [whenOf] at h1
      refine ⟨_, _, when_round hEv, fun h => ?_, fun h => ?_⟩
      · have hv : ¬ v ≤ x := by simpa using h
        rw [if_neg hv] at h1 ⊢
        exact ⟨l, rfl, h1⟩
      · have hv : v ≤ x := by simpa using h
        rw [if_pos hv] at h1 ⊢
        exact ⟨l, by rw [h1]⟩)
    (st := S15 st E 0 .ready none []) ⟨[], rfl, rfl⟩
  rcases hJ with ⟨l, rfl, h1⟩ | ⟨l, rfl⟩
  · simp only [whenOf] at h1
    refine aw_range (s := .ready) (pend := none) (f' := 15) (site' := 0) (ps' := [12, 13]) (env' := E) (d' := st.length + 1) (st3 := S15 st E 0 .ready none l) hf (by simpa [S15, Nat.add_assoc] using hr) (by simp [S15, Nat.add_assoc]) (by simp) ?_
    simp [pendEx, S15, h6, he1, Nat.add_assoc]
    exact hK _ _ _ _ _ (.inl rfl) (by simp; rfl) (by simp) ⟨[.int .i64 (-1)], by simp [a15, h6], by simp [h1]⟩
  · refine aw_range (s := .done) (pend := some .ret) (f' := 15) (site' := 0) (ps' := [12, 13]) (env' := E) (d' := st.length + 1) (st3 := S15 st E (whenOf v (itsFrom c 0 ms)) .done (some .ret) l) hf (by simpa [S15, Nat.add_assoc] using hr) (by simp [S15, Nat.add_assoc]) (by simp) ?_
    simp [pendEx, S15, Nat.add_assoc]
    exact hK _ _ _ _ _ (.inl rfl) (by simp; rfl) (by simp) ⟨[.int .i64 (whenOf v (itsFrom c 0 ms))], by simp [a15, h6], by simp⟩

/-! Range -/
def rstep (x : Int × Int × Bool) (v : Int) : Int × Int × Bool :=
  if x.2.2 then (if v < x.1 then v else x.1, if x.2.1 < v then v else x.2.1, true) else (v, v, true)
def rangeOf (x : Int × Int × Bool) (its : List (Nat × Int)) : Int × Int × Bool := its.foldl (fun x p => rstep x p.2) x
def E14 (e : Env) (b : Nat) : Prop := e.length = 30 ∧ AX.ev e (.t 7) = .ptr b 0 ∧ AX.ev e (.t 8) = .ptr (b + 1) 0 ∧ AX.ev e (.t 9) = .ptr (b + 2) 0
def S14 (st0 : St) (env : Env) (x : Int × Int × Bool) (l : St) : St :=
  st0 ++ (.cells none [.int .i64 x.1] :: .cells none [.int .i64 x.2.1] :: .cells none [.bool x.2.2] :: .defr (some []) :: .loop .ready none 14 0 [15, 16] env (st0.length + 3) :: l)
theorem fn14 : A.fn 14 = some a14 := by kernel_rfl
theorem prim14 : A.prim 14 = none := by kernel_rfl

theorem range_round {st0 : St} {env : Env} (hE : E14 env st0.length) {x : Int × Int × Bool} {v : Int} {nn : Nat} {l : St} :
    runL A (.round (st0.length + 4) [.int .i64 nn, .int .i64 v]) (S14 st0 env x l) = some ⟨.ret, ⟨[.bool true], []⟩, S14 st0 env (rstep x v) l⟩ := by
  obtain ⟨he, h7, h8, h9⟩ := hE
  refine Exists.elim (round_of_aw (A := A) (fn := 14) (r := st0.length + 4) (F := a14) (site := 0) (ps := [15, 16]) (env := env) (d := st0.length + 3) (pend := none) (args := [.int .i64 nn, .int .i64 v]) (st := S14 st0 env x l)
    (asg := (a14.sites.getD 0 (.skip, .skip)).1) (body := (a14.sites.getD 0 (.skip, .skip)).2) (env1 := ((env.set 15 (.int .i64 nn)).set 16 (.int .i64 v)).set 11 (.int .i64 v))
    (G := fun b st' => b = true ∧ st' = S14 st0 env (rstep x v) l)
    fn14 rfl rfl (by simp [S14]) (by simp [a14, he]) ?_) (fun b ⟨st', h, hb, hs⟩ => by rw [h, hb, hs])
  intro K hn _ _
  obtain ⟨lo, hi, sm⟩ := x
  simp only [a14, List.getD_cons_zero]
  cases sm with
  | true =>
    simp [he, h7, h8, h9, S14]
    exact hn _ _ (by simp) ⟨rfl, by simp [S14, rstep]⟩
  | false =>
    simp [he, h7, h8, h9, S14]
    exact hn _ _ (by simp) ⟨rfl, by simp [S14, rstep]⟩

theorem range_call {ms : List Mk} {b : Bool} {en c : Int} (hl : ms.length ≤ 2000000) {st : St} (hst : StOk st) {x : Int × Int × Bool} (hx : rangeOf (0, 0, false) (itsFrom c 0 ms) = x) :
    runL A (.call 14 [trAv ms (apOf b) en, .int .i64 c]) st = some ⟨.ret, ⟨[.tup [.int .i64 x.1, .int .i64 x.2.1, .bool x.2.2]], []⟩, st⟩ := by
  refine (task_of_aw_d (N := 30) prim14 fn14 rfl rfl hst ?_).1
  intro e he ha K hK
  have a0 := ha 0
  have a1 := ha 1
  clear ha
  simp at a0 a1
  have hst2 := ((hst.snoc (o := .cells none [.int .i64 0]) rfl).snoc (o := .cells none [.int .i64 0]) rfl).snoc (o := .cells none [.bool false]) rfl
  simp at hst2
  have hat := at_call (ms := ms) (ap := apOf b) (en := en) (c := c) hst2 tr_low
  simp only [trAv] at hat a0
  simp [a14, he, a0, a1, hat]
  generalize hE : (List.set _ 14 _ : Env) = E
  have hEv : E14 E st.length := by subst hE; exact ⟨by simp [he], by simp [he], by simp [he], by simp [he]⟩
  have hf : AX.ev E (.t 14) = .func (.func 34) [] [.iptr (trAv ms (apOf b) en), .iptr (.int .i64 c)] := by subst hE; simp [he, trAv]
  obtain ⟨he1, h7, h8, h9⟩ := hEv
  clear hE
  obtain ⟨st3, hr, hJ⟩ := at_run (ms := ms) (ap := apOf b) (en := en) (c := c) (r := st.length + 4) hl
    (fun its st' => ∃ y l, st' = S14 st E y l ∧ rangeOf y its = x) (fun _ => False)
    (fun its st' o => by rintro ⟨y, l, rfl, h1⟩; exact ⟨y, l ++ [o], by simp [S14], h1⟩)
    (fun nn v its st' => by
      rintro ⟨y, l, rfl, h1⟩
      exact ⟨_, _, range_round ⟨he1, h7, h8, h9⟩, fun _ => ⟨_, _, rfl, h1⟩, nofun⟩)
    (st := S14 st E (0, 0, false) []) ⟨_, [], rfl, hx⟩
  rcases hJ with ⟨y, l, rfl, h1⟩ | hF
  · simp only [rangeOf, List.foldl_nil] at h1
    subst h1
    refine aw_range (s := .ready) (pend := none) (f' := 14) (site' := 0) (ps' := [15, 16]) (env' := E) (d' := st.length + 3) (st3 := S14 st E y l) hf (by simpa [S14, Nat.add_assoc] using hr) (by simp [S14, Nat.add_assoc]) (by simp) ?_
    simp [pendEx, S14, h7, h8, h9, he1, Nat.add_assoc]
    exact hK _ _ _ _ _ (.inl rfl) (by simp; rfl) (by simp) ⟨_, rfl, by simp [he1, AV.stills]⟩
  · exact hF.elim
end Go.Proofs.YtfkmdajlpnkebaaDoor
