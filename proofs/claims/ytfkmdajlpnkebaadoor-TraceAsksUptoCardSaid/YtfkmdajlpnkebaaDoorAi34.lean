/- FROM A RUN OF THE EVALUATOR TO A ROW: the readings as abstract values by shape; the contract; the tables; a world for the witness. No condition. -/
import Derived.Test.YtfkmdajlpnkebaaDoorAi33
import Derived.Deep.DeepHandedRow
import Derived.Deep.DeepLaidRun
import Derived.OpenShut
import Derived.LaidSub
namespace Go.Proofs.YtfkmdajlpnkebaaDoor.Ai
open Go

section
variable {P : Program} {n : Nat} {t : TypeId} {a : AV}

theorem ofType_int {k : IntKind} (hu : P.underlying t = some (.int k)) (h : OfType P (n + 1) t a) : ∃ x, a = .int k x ∧ (Lit.int k x).wf = true := by
  simp only [OfType, hu] at h; exact h
theorem ofType_bool (hu : P.underlying t = some .bool) (h : OfType P (n + 1) t a) : ∃ b, a = .bool b := by
  simp only [OfType, hu] at h; exact h
theorem ofType_str (hu : P.underlying t = some .string) (h : OfType P (n + 1) t a) : ∃ s, a = .str s ∧ s.length ≤ maxLen := by
  simp only [OfType, hu] at h; exact h
theorem ofType_slice {α : Type} {e : TypeId} {m : Nat} {f : α → AV} {Q : α → Prop} (hu : P.underlying t = some (.slice e)) (hm : P.cellsOf e = m) (he : ∀ x, OfType P n e x → ∃ y, x = f y ∧ Q y) (h : OfType P (n + 1) t a) :
    ∃ (l : List α) (b : Bool), a = .lst m (l.map f) (apOf b) ∧ ∀ y ∈ l, Q y := by
  simp only [OfType, hu] at h
  obtain ⟨es, ap, rfl, hap, _, hx⟩ := h
  have key : ∀ es : List AV, (∀ x ∈ es, OfType P n e x) → ∃ l : List α, es = l.map f ∧ ∀ y ∈ l, Q y := by
    intro es
    induction es with
    | nil => intro _; exact ⟨[], rfl, by simp⟩
    | cons x es ih =>
      intro hx
      obtain ⟨y, rfl, hy⟩ := he x (hx x (by simp))
      obtain ⟨l, rfl, hl⟩ := ih fun z hz => hx z (by simp [hz])
      refine ⟨y :: l, rfl, fun z hz => ?_⟩
      rcases List.mem_cons.1 hz with rfl | hz
      · exact hy
      · exact hl z hz
  obtain ⟨l, rfl, hl⟩ := key es hx
  rcases hap with rfl | rfl
  · exact ⟨l, false, by rw [hm]; rfl, hl⟩
  · exact ⟨l, true, by rw [hm]; rfl, hl⟩
theorem argsOf_of : ∀ (ts : List TypeId) (xs : List AV), xs.length = ts.length → (∀ (i : Nat) t x, ts[i]? = some t → xs[i]? = some x → OfType P n t x) → ArgsOf P n ts xs
  | [], [], _, _ => rfl
  | t :: ts, x :: xs, hl, h => ⟨x, xs, rfl, h 0 t x rfl rfl, argsOf_of ts xs (by simpa using hl) fun i t' x' h1 h2 => h (i + 1) t' x' (by simpa using h1) (by simpa using h2)⟩
theorem ofType_struct {fs : Array Field} (hu : P.underlying t = some (.struct fs)) (h : OfType P (n + 1) t a) : ∃ xs : List AV, a = .agg (xs.flatMap AV.cells) ∧ ArgsOf P n (fs.toList.map (·.type)) xs := by
  simp only [OfType, hu] at h
  obtain ⟨xs, rfl, hl, hx⟩ := h
  refine ⟨xs, rfl, argsOf_of _ _ (by simpa using hl) fun i t x h1 h2 => ?_⟩
  rw [List.getElem?_map, Option.map_eq_some_iff] at h1
  obtain ⟨f, hf, rfl⟩ := h1
  exact hx i f x hf h2
end

section
variable {P : Program} {gl : List (Nat × AV)} {A : AProg} {B : World → Prop} {H : Type} {enc : TypeId × Value → H} {W : World}

/-- THE CONTRACT OF A LAW: the evaluator gives true for each reading. -/
theorem contract_of (hmix : P.follows .mixedOrders = true) (hA : ∀ f F, A.fn f = some F → funcFits P gl f F = true) (hprim : PrimsOk P gl A B) (hl : laidOutB P = true)
    {fid : FuncId} {f : Func} {s : ChangeSpec} {tb : TypeId} {args : Array Value} {ds gs : List (DataW H)} {before : List MemPlace} {base : Nat} {apart fresh handsOn again : Bool}
    (ht : (f.params.toList.all fun t => P.readableRec t && decide (t < P.types.size)) = true) (hok : (f.params.toList.all (okType P 8)) = true) (hres : f.resultTypes = #[tb]) (htb : P.underlying tb = some .bool)
    (hv : s.vars = []) (hs : ∀ H (ds : List (DataW H)), ds.length = f.params.size → s.fn H ds = { results := [.lit (.bool true)], args := ds })
    (hval : ∀ (j : Nat) t v, f.params[j]? = some t → args[j]? = some v → Value.okWide P W .any base t v)
    (hW : DataW.Whole enc P f.params.toList s.vars apart W args.toList ds gs before) (hG : GlOk gl (J0 W)) (hB : B W) {N : Nat} (hN : Rows.uptoBulkAll ds ≤ N)
    (hrun : ∀ avs, ArgsOf P 8 f.params.toList avs → AV.bulks avs ≤ N → ∃ st ds, runL A (.seqc fid avs) [] = some ⟨.ret, ⟨[.bool true], ds⟩, st⟩) :
    Calls P fid args W fun e W' => ∃ v, e = .returned v ∧ s.post enc P f apart fresh handsOn again W args v W' := by
  have hW' := hW
  obtain ⟨p, q, hA0, hV, rfl, hfz, hnd⟩ := hW
  obtain ⟨avs, h1, h2, h3⟩ := args_read (n := 8) _ _ _ _ hok hA0 (fun j t v h h' => Value.okWide_any_base (hval j t v (by simpa using h) (by simpa using h')))
  obtain ⟨st, dfs, hr⟩ := hrun avs h2 (by omega)
  obtain ⟨k, hr⟩ := runL_some.1 hr
  refine (calls_of_run hmix hA hprim hG hB h1 hr rfl).mono fun e W' ⟨he, hk⟩ => ?_
  subst he
  exact ⟨_, rfl, post_true hl ht hres htb hv hs hW' hk⟩

/-- A table of the list, by its name. -/
theorem tab_of_laid {name : String} {k : IntKind} {zs : List Int} {g : Nat} {t e : TypeId} {m : Nat} {laid : List (String × DataW Unit)}
    (hf : laid.filter (fun x => x.1 == name) = [(name, Lib.tabData k zs)]) (hg : P.globalNamed name = some g) (hty : (P.globals[g]?).map (·.type) = some t) (ht : P.underlying t = some (.array m e)) (he : P.underlying e = some (.int k))
    (hce : P.cellsOf e = 1) (hct : P.cellsOf t = m) (h : laidMetH P laid W) : Lib.TabIs P W name k zs := by
  have h2 := laidMetH.filter (fun x => x.1 == name) h
  rw [hf] at h2
  exact Lib.tabIs_of_head (rest := []) hg hty ht he hce hct h2
end

/-- The values of plain data. -/
def flatD : Nat → DataW Unit → List Value
  | _, .lit l => [l.value]
  | n + 1, .agg ps => ps.flatMap (flatD n)
  | _, _ => []
def layIn (P : Program) : List (String × DataW Unit) → Array Obj → Array Obj
  | [], h => h
  | x :: l, h => layIn P l (match P.globalNamed x.1 with
    | some g => h.modify g fun
      | .cells _ t frozen => .cells (flatD 4 x.2).toArray t frozen
      | o => o
    | none => h)
/-- A world for the witness: the settled one, the tables holding what is laid. -/
def laidWorld (P : Program) (laid : List (String × DataW Unit)) (os : Os) : World :=
  { World.holding P os ⟨#[], #[], []⟩ with heap := layIn P laid (World.holding P os ⟨#[], #[], []⟩).heap }
end Go.Proofs.YtfkmdajlpnkebaaDoor.Ai
