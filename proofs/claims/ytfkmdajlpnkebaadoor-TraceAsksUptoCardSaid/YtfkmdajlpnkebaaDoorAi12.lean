/- Operations: what each does to a world is what the abstract one tells (seventh part: copies, texts of bytes, maps, what is laid out). No condition. -/
import Derived.Test.YtfkmdajlpnkebaaDoorAi11
namespace Go.Proofs.YtfkmdajlpnkebaaDoor.Ai
open Go

theorem modify_push {α : Type} (h : Array α) (x : α) (f : α → α) : (h.push x).modify h.size f = h.push (f x) := by
  apply Array.ext_getElem?
  intro i
  rw [Array.getElem?_modify, Array.getElem?_push, Array.getElem?_push]
  by_cases hi : h.size = i
  · subst hi; simp
  · rw [if_neg hi, if_neg (fun h => hi h.symm), if_neg (fun h => hi h.symm)]

section
variable {P : Program} {gl : List (Nat × AV)} {K : Sites} {base : World} {J : Inj} {st st' : St} {w : World} {a : Act} {e : Env} {o : Oper} {v : AV}
variable (hS : Sim K base J st w) (hE : Reps J e a.tmps.toList) (hG : GlOk gl J)
include hS hE hG

theorem did_copy {m : Nat} {y z : AX} (hf : opFits P gl o.op (.copy m y z) = true) (h : opA (.copy m y z) e st = some (.val v st')) : Did P K base J (execOp a.eval o) w v st' := by
  simp only [opFits] at hf
  split at hf
  · rename_i x u t t2 ho
    simp only [Bool.and_eq_true] at hf
    obtain ⟨⟨hel, hx⟩, hu⟩ := hf
    obtain ⟨el, hd, hsize, hm, _⟩ := elemFits_iff hel
    have h1 := xFits_rep hE hG hx
    have h2 := xFits_rep hE hG hu
    simp only [opA] at h
    cases hy : y.ev e <;> simp only [hy] at h <;> try (cases h; done)
    rename_i r m' off n cap
    cases hys : elemsOf st m (z.ev e) with
    | none => simp [hys] at h
    | some ys =>
      obtain ⟨xs, hck, hrun⟩ := r_elems (P := P) hm hS h2 hys
      have hxl := hck.length
      simp only [hys, Option.bind_some] at h
      cases hst : st[r]? with
      | none => simp [hst] at h
      | some ob =>
        cases ob <;> simp only [hst] at h <;> try (cases h; done)
        rename_i cs
        split at h
        · rename_i hh
          obtain ⟨rfl, hle⟩ := hh
          simp only [Option.some.injEq, Nx.val.injEq] at h
          obtain ⟨rfl, rfl⟩ := h
          rw [hy] at h1; simp only [Rep] at h1
          obtain ⟨b, c, hb, e1, hnc, _⟩ := h1
          obtain ⟨b', cc, tt, q1, ⟨fr, q2, qfr⟩, q3, q4, q5, qty⟩ := hS.obj r _ hst
          rw [hb] at q1; cases q1
          have hck' := hck.take n
          have hl' := hck'.length
          have hk : (ys.take n).length = min ys.length n := by simp; omega
          have hkm : (min ys.length n) * m' ≤ n * m' := Nat.mul_le_mul_right _ (Nat.min_le_right _ _)
          have hlen := (hrun w rfl).1
          have hfirst := (hrun w rfl).2 (min ys.length n) (Nat.min_le_left _ _)
          have hxeq : xs.take (min ys.length n * m') = xs.take (n * m') := by
            by_cases hle2 : ys.length ≤ n
            · rw [Nat.min_eq_left hle2, List.take_of_length_le (by omega), List.take_of_length_le (by rw [hxl]; exact Nat.mul_le_mul_right _ hle2)]
            · rw [Nat.min_eq_right (by omega)]
          rw [hxeq] at hfirst
          obtain ⟨w', g1, g2, g3, g4, g5, g6⟩ := run_storeCells P ⟨b, off, none⟩ rfl tt fr (xs.take (n * m')) w 0 cc q2 qfr (by rw [hl', hk]; simp only [Nat.add_zero]; omega) (hck'.reps.oneCells hck'.isCell)
          refine Did.of (Inj.le.refl J) (hS.upd hst hb rfl (by simp) rfl (by simp) g2 g3 g4 g5 ?_) (x := .int .i64 (min ys.length n : Nat)) (by simp only [Rep]; congr 1; omega) (r_builtin ho (fun cs' => ?_))
          · refine ⟨b, _, tt, hb, ⟨fr, g6, by rw [putV_size]; exact qfr⟩, ?_, ?_, putCells_isCell _ _ _ q5 hck'.isCell, by rw [putCells_length, putV_size]; exact qty⟩
            · rw [putCells_length, putV_size]; exact q3
            · rw [putCells_length]; exact putCells_reps _ _ _ _ _ _ hck'.reps q4
          · simp only [builtin, Builtin.copy_, List.map_toArray, List.map_cons, List.map_nil, Sem.run_bind]
            have hmin : Nat.min ys.length n = min ys.length n := rfl
            simp [e1, r_under hd, r_size hsize, hlen, hmin, hfirst, goInt]
            rw [g1]
            simp
        · cases h
  · cases hf

theorem did_convBytes {mu : Bool} {y : AX} (hf : opFits P gl o.op (.convBytes mu y) = true) (h : opA (.convBytes mu y) e st = some (.val v st')) : Did P K base J (execOp a.eval o) w v st' := by
  cases ho : o.op <;> simp only [ho, opFits, Bool.false_eq_true] at hf
  rename_i s d x
  simp only [Bool.and_eq_true] at hf
  obtain ⟨⟨hs, hd⟩, hx⟩ := hf
  obtain ⟨ds, hs, hk⟩ := isK_some hs
  cases ds <;> simp at hk
  split at hd
  · rename_i el hd'
    obtain ⟨de, he, hk⟩ := isK_some hd
    have he' : P.underlying el = some (.int .u8) := by
      cases de with
      | int k => cases k <;> first | exact he | (simp at hk; done)
      | _ => simp at hk
    have h1 := xFits_rep hE hG hx
    simp only [opA] at h
    cases hy : y.ev e <;> simp only [hy] at h <;> try (cases h; done)
    rename_i l
    rw [hy] at h1; simp only [Rep] at h1
    obtain ⟨ba, e1, hl⟩ := h1
    -- the row that is made
    let q := Question.appendCap ba.size 0 el
    have hq : q.forced = false := rfl
    let w1 : World := { w with drawn := w.drawn + 1 }
    let cp := q.cut (w.tape w.drawn q)
    have hcp : ba.size ≤ cp := by show _ ≤ _ + _; omega
    let elems : Array Value := ba.data.map fun b => .int .u8 b.toNat
    let c := elems ++ Array.replicate (cp - ba.size) (.int .u8 0)
    have hcs : c.size = cp := by simp [c, elems]; omega
    have hrun : (execOp a.eval o).run P w = .ok (.value (.slice (some ⟨w.heap.size, 0, none⟩) ba.size cp)) { w1 with heap := w.heap.push (.cells c el (cp, cp + 1)) } := by
      have hcs' : (elems ++ Array.replicate (cp - ba.size) (Value.int IntKind.u8 0)).size = cp := hcs
      have hshape : ∀ (w2 : World), w2.heap = w.heap.push (.cells c el (0, 0)) → w2.shape? w.heap.size = some (el, cp) := by
        intro w2 hw2; simp [World.shape?, hw2, hcs]
      simp only [execOp, ho, e1, convert, Sem.run_bind, r_under hs, r_under hd', r_under he', Result.andThen_ok, Conv.stringToBytes, run_choose]
      rw [if_neg (by simp [Question.forced])]
      simp only [Result.andThen_ok, newRow, Sem.run_bind, run_newObj, Sem.run_pure]
      simp only [markStringish, Sem.run_bind, run_shape]
      rw [hshape _ rfl]
      simp only [Result.andThen_ok, run_freeze, Sem.run_pure]
      congr 1
      simp only [World.freeze]
      rw [if_neg (by simp)]
      simp only [w1, modify_push]
      rfl
    have hS1 : Sim K base J st w1 := hS.same rfl rfl rfl
    have hck := Chunks.bytes (J := J) ba.data.toList
    have hce : c.toList = (ba.data.toList.map fun b => Value.int .u8 b.toNat) ++ List.replicate (cp - ba.size) (.int .u8 0) := by simp [c, elems]
    have hsz : ba.data.toList.length = ba.size := by simp
    subst hl
    cases mu with
    | true =>
      simp only [if_true, Option.some.injEq, Nx.val.injEq] at h
      obtain ⟨rfl, rfl⟩ := h
      refine Did.of (hS1.bind_le _) (hS1.add (.cells c el (cp, cp + 1)) (.cells none (ba.data.toList.map byteV)) rfl (by simp) ?_) ?_ hrun
      · refine ⟨w.heap.size, c, el, by simp [Inj.bind, w1], ⟨(cp, cp + 1), by simp [w1], fun k hk hh => by rw [hcs] at hk; simp at hh; omega⟩, by simp [hcs]; omega, ?_, ?_, fun _ hT => by cases hT⟩
        · rw [hce, List.take_left' (by simp)]
          have : Reps J (flat (ba.data.toList.map byteV)) _ := hck.reps
          have hfl : ∀ l : List UInt8, flat (l.map byteV) = l.map byteV := by
            intro l; induction l with
            | nil => rfl
            | cons b l ih => simp [flat, ih, byteV, AV.cells]
          rw [hfl] at this
          exact Reps.mono (hS1.bind_le _) _ _ this
        · rw [List.all_eq_true]; intro z hz; obtain ⟨b, _, rfl⟩ := List.mem_map.1 hz; rfl
      · simp only [Rep]
        exact ⟨w.heap.size, cp, by simp [Inj.bind, w1], by rw [hsz], by rw [hsz]; exact hcp, fun k e => by cases e⟩
    | false =>
      simp only [Bool.false_eq_true, if_false, Option.some.injEq, Nx.val.injEq] at h
      obtain ⟨rfl, rfl⟩ := h
      refine Did.of (hS1.stay_le c) (hS1.addStill c el (cp, cp + 1)) ?_ hrun
      simp only [Rep]
      refine ⟨fun id e => (by cases e), .inr ⟨⟨w.heap.size, 0, none⟩, cp, by simp, fun _ => rfl, by simp; exact hcp, fun e => (by cases e), ?_⟩⟩
      refine Elems.of_chunks (hck.mono (hS1.stay_le c)) (fun i v hv => ?_)
      have hi := (List.getElem?_eq_some_iff.1 hv).1
      show (if w.heap.size = w1.heap.size then c[0 + i]? else _) = some v
      rw [if_pos rfl, Nat.zero_add]
      have : c.toList[i]? = some v := by rw [hce, List.getElem?_append_left hi]; exact hv
      simpa using this
  · cases hd
end
end Go.Proofs.YtfkmdajlpnkebaaDoor.Ai
