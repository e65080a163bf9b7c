/- FUNCTIONS OF THE LIBRARY, BY THEIR CONTRACTS: what keeps the world; those that change nothing that was there. No condition. -/
import Derived.Test.YtfkmdajlpnkebaaDoorAi25
import Derived.Lib.LaidTab
import Derived.Lib.AppendIntMem
import Derived.Lib.ItoaNum
import Derived.Lib.Join
import Derived.Lib.TrimByte
namespace Go.Proofs.YtfkmdajlpnkebaaDoor.Ai
open Go Go.Sort

theorem Sim.keep {K : Sites} {base : World} {J : Inj} {st : St} {w w' : World} (h : Sim K base J st w) (k : Kept w w') : Sim K base J st w' where
  os := k.os.trans h.os
  output := k.output.trans h.output
  size := Nat.le_trans h.size k.size
  old := fun b hb => (k.old b (Nat.lt_of_lt_of_le hb h.size)).trans (h.old b hb)
  imOk := fun b o v e => by
    have := h.imOk b o v e
    rw [cell_congr (k.old b (lt_of_cell this))]; exact this
  ρlt := fun r b e => ⟨(h.ρlt r b e).1, Nat.lt_of_lt_of_le (h.ρlt r b e).2 k.size⟩
  τlt := h.τlt
  obj := fun r o e => (h.obj r o e).frame (Inj.le.refl J) (fun b hb => k.old b (h.own r o b e hb).2.1) (fun _ _ _ _ _ e => e)
  own := fun r o b e e' => ⟨(h.own r o b e e').1, Nat.lt_of_lt_of_le (h.own r o b e e').2.1 k.size, (h.own r o b e e').2.2⟩
  noIm := h.noIm

theorem Kept.of_below {w w' : World} (h : RowKit.Below w.heap.size w w') : Kept w w' := ⟨h.os, h.output, h.size, h.block⟩
theorem Kept.refl (w : World) : Kept w w := ⟨rfl, rfl, Nat.le_refl _, fun _ _ => rfl⟩
theorem Kept.trans {w w' w'' : World} (h : Kept w w') (h' : Kept w' w'') : Kept w w'' :=
  ⟨h'.os.trans h.os, h'.output.trans h.output, Nat.le_trans h.size h'.size, fun b hb => (h'.old b (Nat.lt_of_lt_of_le hb h.size)).trans (h.old b hb)⟩

/-- A function that hands back a value, and leaves all that was there. -/
def PureOk (P : Program) (gl : List (Nat × AV)) (B : World → Prop) (f : FuncId) (h : List AV → Option AV) : Prop :=
  ∀ avs v, h avs = some v → ∀ (K : Sites) (J : Inj) (base : World) (st : St) (w : World) (args : Array Value), Sim K base J st w → GOk B gl base J → Reps J avs args.toList →
    (callFunc f args).run P w = .ok (.enter f args) w ∧ Calls P f args w fun e w' => ∃ z, e = .returned z ∧ Rep J v z ∧ Kept w w'

def pureP (h : List AV → Option AV) : List AV → St → Option (AOut × St) := fun args st => (h args).map fun v => (.ret v, st)

theorem pure_task {P : Program} {gl : List (Nat × AV)} {A : AProg} {B : World → Prop} {f : FuncId} {h : List AV → Option AV} (hp : PureOk P gl B f h) {args : List AV} {st : St} {o : AOut} {st' : St} (hh : pureP h args st = some (o, st')) :
    TaskOk P gl A B (.call f args) st (match o with | .ret v => ⟨.ret, ⟨[v], []⟩, st'⟩ | .pan v => ⟨.pan v, ⟨[], []⟩, st'⟩) := by
  simp only [pureP, Option.map_eq_some_iff, Prod.mk.injEq] at hh
  obtain ⟨v, hv, rfl, rfl⟩ := hh
  intro base J w cargs hS hG hR
  obtain ⟨h1, h2⟩ := hp args v hv _ J base st w cargs hS hG hR
  refine .inl ⟨h1, callsIn_wide.2 (h2.mono fun e w' ⟨z, he, hr, hk⟩ => ?_)⟩
  exact ⟨J, Inj.le.refl J, hS.keep hk, v, z, rfl, hr, he⟩

/-- What a table holds, in a world that has gone on. -/
theorem tab_of_sim {P : Program} {K : Sites} {base : World} {J : Inj} {st : St} {w : World} {nm : String} {k : IntKind} {zs : List Int} (hS : Sim K base J st w) (h : Lib.TabIs P base nm k zs) : Lib.TabIs P w nm k zs := by
  unfold Lib.TabIs World.var? at h ⊢
  cases hg : P.globalNamed nm with
  | none => simp [hg] at h
  | some g =>
    simp only [hg, Option.bind_some] at h ⊢
    have hlt : g < base.heap.size := by
      rcases Nat.lt_or_ge g base.heap.size with h' | h'
      · exact h'
      · simp [Array.getElem?_eq_none h'] at h
    rw [hS.old g hlt]; exact h

/-! ### strconv.Itoa -/

def itoaA : List AV → Option AV
  | [.int .i64 n] => if -9223372036854775808 ≤ n ∧ n ≤ 9223372036854775807 then some (.str (Lib.itoa n)) else none
  | _ => none

def pow10Name : String := "internal/strconv.uint64pow10"

theorem itoa_ok {P : Program} {gl : List (Nat × AV)} {B : World → Prop} {f : FuncId} {T : List Int} (hB : ∀ w, B w → Lib.TabIs P w pow10Name .u64 T) (he : ∀ args w, (callFunc f args).run P w = .ok (.enter f args) w)
    (C : ∀ (n : Int) (w : World), -9223372036854775808 ≤ n → n ≤ 9223372036854775807 → Lib.TabIs P w pow10Name .u64 T → Calls P f #[.int .i64 n] w fun e w' => e = .returned (.string ⟨(Lib.itoa n).toArray⟩) ∧ ∃ k os, w' = grow (w.drewN k) os) :
    PureOk P gl B f itoaA := by
  intro avs v hv K J base st w args hS hG hR
  unfold itoaA at hv
  split at hv
  · rename_i n
    split at hv
    · rename_i hn
      cases hv
      simp only [Reps, Rep] at hR
      obtain ⟨y, ys, e1, rfl, rfl⟩ := hR
      obtain rfl : args = #[.int .i64 n] := by apply Array.toList_inj.1; simpa using e1
      refine ⟨he _ _, (C n w hn.1 hn.2 (tab_of_sim hS (hB _ hG.2))).mono fun e w' ⟨h1, k, os, h2⟩ => ⟨_, h1, by simp only [Rep]; exact ⟨_, rfl, by simp⟩, ?_⟩⟩
      subst h2
      exact Kept.of_below (Lib.below_grow _ w (Nat.le_refl _) k os)
    · cases hv
  · cases hv

/-! ### strings.Join -/

def strsA : List AV → Option (List (List UInt8))
  | [] => some []
  | .str s :: r => (strsA r).map (s :: ·)
  | _ => none

def joinA : List AV → Option AV
  | [.lst 1 es _, .str sep] => (strsA es).bind fun xs => if (Lib.join xs sep).length ≤ 140737488355328 ∧ xs.length ≤ 140737488355328 then some (.str (Lib.join xs sep)) else none
  | _ => none

theorem strsA_length : ∀ {es : List AV} {xs : List (List UInt8)}, strsA es = some xs → xs.length = es.length
  | [], xs, h => by simp [strsA] at h; subst h; rfl
  | e :: es, xs, h => by
    cases e <;> simp only [strsA] at h <;> try (cases h; done)
    obtain ⟨r, hr, rfl⟩ := Option.map_eq_some_iff.1 h
    simp [strsA_length hr]

theorem strsA_get : ∀ {es : List AV} {xs : List (List UInt8)}, strsA es = some xs → ∀ (i : Nat) x, xs[i]? = some x → es[i]? = some (.str x)
  | [], xs, h, i, x, hx => by simp [strsA] at h; subst h; simp at hx
  | e :: es, xs, h, i, x, hx => by
    cases e <;> simp only [strsA] at h <;> try (cases h; done)
    obtain ⟨r, hr, rfl⟩ := Option.map_eq_some_iff.1 h
    cases i with
    | zero => simp at hx; subst hx; rfl
    | succ i => simp at hx ⊢; exact strsA_get hr i x hx

theorem join_ok {P : Program} {gl : List (Nat × AV)} {B : World → Prop} {f : FuncId} (he : ∀ args w, (callFunc f args).run P w = .ok (.enter f args) w)
    (C0 : ∀ (a : Option Addr) (c : Nat) (sep : ByteArray) (w : World), Calls P f #[.slice a 0 c, .string sep] w fun e w' => e = .returned (.string ⟨#[]⟩) ∧ w' = w)
    (C : ∀ (bk o c : Nat) (xs : List ByteArray) (sep : ByteArray) (w : World), (∀ (j : Nat) x, xs[j]? = some x → w.cell? ⟨bk, o + j, none⟩ = some (.string x)) → bk < w.heap.size → xs.length ≤ 140737488355328 → xs.length ≤ c →
      (Lib.join (xs.map (·.data.toList)) sep.data.toList).length ≤ 140737488355328 →
      Calls P f #[.slice (some ⟨bk, o, none⟩) xs.length c, .string sep] w fun e w' => e = .returned (.string ⟨(Lib.join (xs.map (·.data.toList)) sep.data.toList).toArray⟩) ∧ RowKit.Below w.heap.size w w') :
    PureOk P gl B f joinA := by
  intro avs v hv K J base st w args hS hG hR
  unfold joinA at hv
  split at hv
  · rename_i es ap sep
    cases hs : strsA es with
    | none => simp [hs] at hv
    | some xs =>
      simp only [hs, Option.bind_some] at hv
      split at hv
      · rename_i hn
        cases hv
        simp only [Reps] at hR
        obtain ⟨y, ys, e1, hy, y2, ys2, e2, hy2, rfl⟩ := hR
        subst e2
        obtain rfl : args = #[y, y2] := by apply Array.toList_inj.1; simpa using e1
        refine ⟨he _ _, ?_⟩
        simp only [Rep] at hy hy2
        obtain ⟨sp, rfl, hsp⟩ := hy2
        obtain ⟨_, hy⟩ := hy
        have hxl := strsA_length hs
        have nil : ∀ a c, es = [] → Calls P f #[.slice a 0 c, .string sp] w fun e w' => ∃ z, e = .returned z ∧ Rep J (.str (Lib.join xs sep)) z ∧ Kept w w' := fun a c he0 => by
          subst he0
          obtain rfl : xs = [] := List.eq_nil_of_length_eq_zero (by simpa using hxl)
          refine (C0 a c sp w).mono fun e w' ⟨h1, h2⟩ => ⟨_, h1, by simp only [Rep, Lib.join_nil]; exact ⟨_, rfl, rfl⟩, h2 ▸ Kept.refl w⟩
        rcases hy with ⟨rfl, he0⟩ | ⟨a, cap, rfl, hspot, hcap, _, hel⟩
        · exact nil none 0 he0
        · by_cases h0 : es = []
          · have := nil (some a) cap h0
            rw [h0]; exact this
          · have hpos : 0 < cap := by
              have : 0 < es.length := List.length_pos_iff.2 h0
              omega
            have hsp0 := hspot hpos
            have had : a = ⟨a.block, a.off, none⟩ := by cases a; simp at hsp0 ⊢; exact hsp0
            have hmap : ∀ l : List (List UInt8), (l.map fun x => (⟨x.toArray⟩ : ByteArray)).map (·.data.toList) = l := fun l => by
              simp [Function.comp_def]
            have hcell : ∀ (j : Nat) x, (xs.map fun x => (⟨x.toArray⟩ : ByteArray))[j]? = some x → w.cell? ⟨a.block, a.off + j, none⟩ = some (.string x) := by
              intro j x hx
              simp only [List.getElem?_map, Option.map_eq_some_iff] at hx
              obtain ⟨s, hxs, rfl⟩ := hx
              obtain ⟨z, hz, _, _, hrow⟩ := hel.get j _ (strsA_get hs j s hxs)
              simp only [Rep] at hz
              obtain ⟨ba, rfl, hba⟩ := hz
              have := hS.imOk _ _ _ (hrow 0 (.string ba) (by simp [Value.cells]))
              rw [Nat.mul_one, Nat.add_zero] at this
              rw [this]
              congr 2
              cases ba with
              | mk d => simp at hba; rw [← hba]
            have hbk : a.block < w.heap.size := by
              have : 0 < xs.length := by rw [hxl]; exact List.length_pos_iff.2 h0
              have := hcell 0 ⟨(xs[0]).toArray⟩ (by simp [this])
              exact lt_of_cell this
            have hc := C a.block a.off cap (xs.map fun x => ⟨x.toArray⟩) sp w hcell hbk (by simp; omega) (by simp; omega) (by rw [hmap, hsp]; exact hn.1)
            rw [hmap, hsp, List.length_map, hxl, ← had] at hc
            refine hc.mono fun e w' ⟨h1, h2⟩ => ⟨_, h1, by simp only [Rep]; exact ⟨_, rfl, by simp⟩, Kept.of_below h2⟩
      · cases hv
  · cases hv

/-! ### strings.TrimRight, at one ASCII byte -/

def trimRightA : List AV → Option AV
  | [.str s, .str [c]] => if c.toNat < 128 ∧ s.length ≤ 9223372036854775807 then some (.str (Lib.trimRightB s c)) else none
  | _ => none

theorem trimRight_ok {P : Program} {gl : List (Nat × AV)} {B : World → Prop} {f : FuncId} (he : ∀ args w, (callFunc f args).run P w = .ok (.enter f args) w)
    (C : ∀ (s : ByteArray) (c : UInt8) (w : World), c.toNat < 128 → s.size ≤ 9223372036854775807 → Calls P f #[.string s, .string ⟨#[c]⟩] w fun e w' => e = .returned (.string ⟨(Lib.trimRightB s.data.toList c).toArray⟩) ∧ w' = w) :
    PureOk P gl B f trimRightA := by
  intro avs v hv K J base st w args hS hG hR
  unfold trimRightA at hv
  split at hv
  · rename_i s c
    split at hv
    · rename_i hn
      cases hv
      simp only [Reps, Rep] at hR
      obtain ⟨y, ys, e1, ⟨ba, rfl, hba⟩, y2, ys2, e2, ⟨bc, rfl, hbc⟩, rfl⟩ := hR
      subst e2
      obtain rfl : args = #[.string ba, .string bc] := by apply Array.toList_inj.1; simpa using e1
      obtain rfl : bc = ⟨#[c]⟩ := by
        cases bc with
        | mk d => simp only at hbc; congr 1; apply Array.toList_inj.1; simpa using hbc
      refine ⟨he _ _, (C ba c w hn.1 (by have h : ba.size = s.length := by rw [← hba]; rfl
                                         rw [h]; exact hn.2)).mono fun e w' ⟨h1, h2⟩ => ⟨_, h1, ?_, h2 ▸ Kept.refl w⟩⟩
      simp only [Rep]; exact ⟨_, rfl, by rw [hba]⟩
    · cases hv
  · cases hv
end Go.Proofs.YtfkmdajlpnkebaaDoor.Ai
