/- RANGES OVER A FUNCTION, run symbolically. No condition. -/
import Derived.Test.YtfkmdajlpnkebaaDoorAi33
namespace Go.Proofs.YtfkmdajlpnkebaaDoor.Ai
open Go

section
variable {A : AProg} {fn : FuncId} {rnd : Option Nat} {e : Env} {ds : List ADef} {st : St} {Q : PostQ}

/-- The world of a range over a function: where its rounds' deferred calls would go; the loop. -/
def rangeSt (st : St) (fn : FuncId) (site : Nat) (ps : List Nat) (e : Env) : St := st ++ [.defr (some [])] ++ [.loop .ready none fn site ps e st.length]

theorem aw_range {f : AX} {ps : List Nat} {site h : Nat} {first cap : List AV} (hf : f.ev e = .func (.func h) first cap) {s : LoopState} {pend : Option APend} {st3 : St} {fr' : Fr} {f' : FuncId} {site' : Nat} {ps' : List Nat} {env' : List AV} {d' : Nat}
    (hrun : runL A (.seqc h (first ++ [.func (.yield (st.length + 1)) [] []] ++ cap)) (rangeSt st fn site ps e) = some ⟨.ret, fr', st3⟩)
    (hl : st3[st.length + 1]? = some (.loop s pend f' site' ps' env' d')) (hs : s ≠ .busy)
    (hq : Q (pendEx pend) e (.collected st.length :: ds) (st3.set (st.length + 1) (.loop .exhausted pend f' site' ps' env' d'))) : AW A fn none (.rangeFunc f ps site) e ds st Q := by
  refine ⟨_, _, _, _, ?_, hq⟩
  have e1 : (st ++ [AObj.defr (some [])]).length = st.length + 1 := by simp
  have e2 : st ++ [AObj.defr (some [])] ++ [AObj.loop .ready none fn site ps e st.length] = rangeSt st fn site ps e := rfl
  simp only [exec, hf, rangeStart, e1, e2, hrun, rangeEnd, hl, if_neg hs, List.cons_append, List.nil_append]

/-- A ROUND. -/
theorem round_of_aw {r : Nat} {F : AFunc} {site : Nat} {ps : List Nat} {env : List AV} {d : Nat} {pend : Option APend} {args : List AV} {asg body : ACode} {env1 : Env} {G : Bool → St → Prop}
    (hF : A.fn fn = some F) (hsite : F.sites[site]? = some (asg, body)) (hlen : args.length = ps.length) (hst : st[r]? = some (.loop .ready pend fn site ps env d))
    (hasg : exec (runL A) fn (some r) asg ⟨(ps.zip args).foldl (fun e x => e.set x.1 x.2) env, []⟩ st = some ⟨.nrm, ⟨env1, []⟩, st⟩)
    (h : ∀ K : PostQ, (∀ e2 st2, st2[r]? = some (.loop .busy pend fn site ps env d) → G true (st2.set r (.loop .ready none fn site ps env d)) → K .nrm e2 [] st2) →
      (∀ e2 st2, st2[r]? = some (.loop .busy pend fn site ps env d) → G false (st2.set r (.loop .done (some .ret) fn site ps env d)) → K .ret e2 [] st2) →
      (∀ id e2 st2, st2[r]? = some (.loop .busy pend fn site ps env d) → G false (st2.set r (.loop .done (some (.exit id)) fn site ps env d)) → K (.exit id) e2 [] st2) →
      AW A fn (some r) body env1 [] (st.set r (.loop .busy pend fn site ps env d)) K) :
    ∃ b st', runL A (.round r args) st = some ⟨.ret, ⟨[.bool b], []⟩, st'⟩ ∧ G b st' := by
  obtain ⟨x, e2, ds2, st2, hx, hds, hst2, hG⟩ := h (fun x e2 ds2 st2 => ds2 = [] ∧ st2[r]? = some (.loop .busy pend fn site ps env d) ∧ (match x with
      | .nrm => G true (st2.set r (.loop .ready none fn site ps env d))
      | .ret => G false (st2.set r (.loop .done (some .ret) fn site ps env d))
      | .exit id => G false (st2.set r (.loop .done (some (.exit id)) fn site ps env d))
      | .pan _ => False)) (fun _ _ h1 h2 => ⟨rfl, h1, h2⟩) (fun _ _ h1 h2 => ⟨rfl, h1, h2⟩) (fun _ _ _ h1 h2 => ⟨rfl, h1, h2⟩)
  subst hds
  have key : runL A (.round r args) st = roundEnd r (some ⟨x, ⟨e2, []⟩, st2⟩) := by
    rw [runL_eq]
    simp only [layer, roundFn, hst, hF, hsite, hlen, if_true]
    have e1 : (ps.zip args).foldl (fun e (x : Nat × AV) => match x with | (t, a) => e.set t a) env = (ps.zip args).foldl (fun e x => e.set x.1 x.2) env := rfl
    rw [e1, hasg]
    simp only [hst, hx]
  rw [key]
  simp only [roundEnd, hst2]
  cases x with
  | nrm => exact ⟨_, _, rfl, hG⟩
  | ret => exact ⟨_, _, rfl, hG⟩
  | exit id => exact ⟨_, _, rfl, hG⟩
  | pan v => exact hG.elim

/-- A FUNCTION's CALL, with marks for deferred calls. -/
theorem task_of_aw_d {f : FuncId} {F : AFunc} {args : List AV} {v : AV} {N : Nat} (hp : A.prim f = none) (hf : A.fn f = some F) (hk : F.keep = false) (hN : args.length + (F.ntmps - args.length) = N)
    (hst : StOk st)
    (h : ∀ e : Env, e.length = N → (∀ i, AX.ev e (.t i) = args.getD i .undef) → ∀ K : PostQ,
      (∀ x e ds st' st'', (x = .ret ∨ x = .nrm) → runDefs ds st' = some st'' → st''.take st.length = st → (∃ vs, resultsA st'' e F.results = some vs ∧ AV.still st.length st'' (oneOf vs) = some v) → K x e ds st') → AW A f none F.body e [] st K) :
    runL A (.call f args) st = some ⟨.ret, ⟨[v], []⟩, st⟩ ∧ runL A (.seqc f args) st = some ⟨.ret, ⟨[v], []⟩, st⟩ := by
  have hev : ∀ i, AX.ev (args ++ List.replicate (F.ntmps - args.length) .undef) (.t i) = args.getD i .undef := by
    intro i
    simp only [AX.ev, List.getD_eq_getElem?_getD]
    by_cases hi : i < args.length
    · rw [List.getElem?_append_left hi]
    · rw [List.getElem?_append_right (by omega), List.getElem?_eq_none (by omega : args.length ≤ i), List.getElem?_replicate]
      split <;> rfl
  obtain ⟨x, e', ds', st', hx, h1, st'', h2, h3, vs, h4, h5⟩ := h (args ++ List.replicate (F.ntmps - args.length) .undef) (by simpa using hN) hev
    (fun x e ds st' => (x = .ret ∨ x = .nrm) ∧ ∃ st'', runDefs ds st' = some st'' ∧ st''.take st.length = st ∧ ∃ vs, resultsA st'' e F.results = some vs ∧ AV.still st.length st'' (oneOf vs) = some v)
    (fun x e ds st' st'' h1 h2 h3 h4 => ⟨h1, st'', h2, h3, h4⟩)
  have hs : Ai.settle st.length (oneOf vs) st'' = some (v, st) := by
    simp only [Ai.settle, h5, h3, show st.all (AObj.lowB st.length) = true from hst, if_true]
  constructor <;> rw [runL_eq] <;> simp only [layer, hp, callFn, hf, hx, h2] <;> rcases h1 with rfl | rfl <;> simp only [h4, hk, hs, Bool.false_eq_true, if_false]
/-- A FUNCTION's CALL whose objects stay: what is known of the world behind it. -/
theorem task_of_aw_keep_ex {f : FuncId} {F : AFunc} {args : List AV} {v : AV} {N : Nat} (G : St → Prop) (hp : A.prim f = none) (hf : A.fn f = some F) (hk : F.keep = true) (hN : args.length + (F.ntmps - args.length) = N)
    (h : ∀ e : Env, e.length = N → (∀ i, AX.ev e (.t i) = args.getD i .undef) → ∀ K : PostQ,
      (∀ x e st', (x = .ret ∨ x = .nrm) → G st' → (∃ vs, resultsA st' e F.results = some vs ∧ oneOf vs = v) → K x e [] st') → AW A f none F.body e [] st K) :
    ∃ st', G st' ∧ runL A (.call f args) st = some ⟨.ret, ⟨[v], []⟩, st'⟩ ∧ runL A (.seqc f args) st = some ⟨.ret, ⟨[v], []⟩, st'⟩ := by
  have hev : ∀ i, AX.ev (args ++ List.replicate (F.ntmps - args.length) .undef) (.t i) = args.getD i .undef := by
    intro i
    simp only [AX.ev, List.getD_eq_getElem?_getD]
    by_cases hi : i < args.length
    · rw [List.getElem?_append_left hi]
    · rw [List.getElem?_append_right (by omega), List.getElem?_eq_none (by omega : args.length ≤ i), List.getElem?_replicate]
      split <;> rfl
  obtain ⟨x, e', ds', st1, hx, h1, h2, h3, vs, h4, h5⟩ := h (args ++ List.replicate (F.ntmps - args.length) .undef) (by simpa using hN) hev
    (fun x e ds st1 => (x = .ret ∨ x = .nrm) ∧ ds = [] ∧ G st1 ∧ ∃ vs, resultsA st1 e F.results = some vs ∧ oneOf vs = v)
    (fun x e st' h1 h2 h3 => ⟨h1, rfl, h2, h3⟩)
  subst h2
  refine ⟨st1, h3, ?_⟩
  constructor <;> rw [runL_eq] <;> simp only [layer, hp, callFn, hf, hx, runDefs] <;> rcases h1 with rfl | rfl <;> simp only [h4, hk, h5, if_true]
end
theorem set_base {st0 xs : St} {k : Nat} {x : AObj} : (st0 ++ xs).set (st0.length + k) x = st0 ++ xs.set k x := by
  rw [List.set_append_right _ _ (by omega)]; congr 2; omega
theorem set_base0 {st0 xs : St} {x : AObj} : (st0 ++ xs).set st0.length x = st0 ++ xs.set 0 x := set_base (k := 0)
theorem get_base {st0 xs : St} {k : Nat} : (st0 ++ xs)[st0.length + k]? = xs[k]? := by
  rw [List.getElem?_append_right (by omega)]; congr 1; omega
theorem get_base0 {st0 xs : St} : (st0 ++ xs)[st0.length]? = xs[0]? := get_base (k := 0)
theorem cells_bool {b} : (AV.bool b).cells = [(AV.bool b)] := rfl
theorem cells_int {k n} : (AV.int k n).cells = [(AV.int k n)] := rfl
theorem cells_str {s} : (AV.str s).cells = [(AV.str s)] := rfl
theorem cells_func {f a b} : (AV.func f a b).cells = [(AV.func f a b)] := rfl
theorem cells_nilFunc  : AV.nilFunc.cells = [AV.nilFunc] := rfl
theorem cells_iface {t v} : (AV.iface t v).cells = [(AV.iface t v)] := rfl
theorem cells_nilIface  : AV.nilIface.cells = [AV.nilIface] := rfl
theorem cells_lst {m es ap} : (AV.lst m es ap).cells = [(AV.lst m es ap)] := rfl
theorem cells_sl {a b c d e} : (AV.sl a b c d e).cells = [(AV.sl a b c d e)] := rfl
theorem cells_ptr {a b} : (AV.ptr a b).cells = [(AV.ptr a b)] := rfl
theorem cells_iptr {v} : (AV.iptr v).cells = [(AV.iptr v)] := rfl
theorem cells_nilPtr  : AV.nilPtr.cells = [AV.nilPtr] := rfl
theorem cells_map {r} : (AV.map r).cells = [(AV.map r)] := rfl
theorem cells_nilMap  : AV.nilMap.cells = [AV.nilMap] := rfl
theorem cells_nilSl  : AV.nilSl.cells = [AV.nilSl] := rfl
attribute [simp] cells_bool cells_int cells_str cells_func cells_nilFunc cells_iface cells_nilIface cells_lst cells_sl cells_ptr cells_iptr cells_nilPtr cells_map cells_nilMap cells_nilSl
theorem res_cell {st : St} {e : Env} {i m : Nat} {agg : Bool} : resA st e (.cell i m agg) = (match AX.ev e (.t i) with
    | .ptr r off => match st[r]? with
      | some (.cells _ cs) => takeVar m agg cs off
      | _ => none
    | .iptr v => readStill m agg v
    | _ => none) := rfl
attribute [simp] res_cell
theorem beq_int {k l : IntKind} {a b : Int} : AV.beq (.int k a) (.int l b) = (k == l && a == b) := rfl
theorem beq_bool {a b : Bool} : AV.beq (.bool a) (.bool b) = (a == b) := rfl
theorem beq_str {a b : List UInt8} : AV.beq (.str a) (.str b) = (a == b) := rfl
theorem getD_ev {e : Env} {i : Nat} : List.getD e i (AV.tup []) = AX.ev e (.t i) := rfl
attribute [simp] reOk beq_int beq_bool beq_str getD_ev minmaxA rangeSt runDefs
attribute [simp] set_base set_base0 get_base get_base0 fillA group flat
end Go.Proofs.YtfkmdajlpnkebaaDoor.Ai
