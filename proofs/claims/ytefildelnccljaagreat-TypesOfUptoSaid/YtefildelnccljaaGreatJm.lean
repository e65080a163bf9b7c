/- Part Jm. No condition. -/
import Derived.Test.YtefildelnccljaaGreatJk
import Derived.Test.YtefildelnccljaaGreatJc
import Derived.Test.YtefildelnccljaaGreatJf
set_option linter.unusedVariables false
set_option linter.unusedSimpArgs false
namespace Go.Proofs.YtefildelnccljaaGreat
open Go Ai
theorem fn12 : A.fn 12 = some a12 := by kernel_rfl
theorem prim12 : A.prim 12 = none := by kernel_rfl
def w12_0 : List Nat := a12_0.writes
theorem ofLaw {p : Pg} (hp : p.Ok) (d e' : Int) : runL A (.seqc 12 [p.av, .int .i64 d, .int .i64 e']) [] = some ⟨.ret, ⟨[.bool true], []⟩, []⟩ := by
  have h34 := great8_call hp (st := []) StOk.nil
  cases hg : great8 p with
  | true =>
    rw [hg] at h34
    simp only [Pg.av] at h34
    refine (task_of_aw (N := 83) prim12 fn12 rfl rfl StOk.nil ?_).2
    intro e he ha K hK
    have a0 := ha 0
    have a1 := ha 1
    have a2 := ha 2
    clear ha
    simp [Pg.av] at a0 a1 a2
    simp [a12, he, a0, a1, a2, alive8_call, h34]
    exact hK _ _ _ (.inl rfl) (by simp) ⟨_, rfl, by simp [he]⟩
  | false =>
  obtain ⟨hg1, _⟩ := small8 hg
  have hM := faults_small hg1
  have h40 := all40_call hp hM (d := d) (st := []) StOk.nil
  have h41 := of41_call hp hM (d := d) (e' := e') (st := []) StOk.nil
  have h23 := refRight_call hp hM (st := []) StOk.nil
  rw [hg] at h34
  cases hr : rightN p with
  | false =>
    have hal : allF p d = [] := by simp [allF, hr]
    have hof : ofP p d e' = 0 := by simp [ofP, hal]
    rw [hr] at h23
    rw [hal] at h40
    rw [hof] at h41
    simp only [Pg.av] at h34 h40 h41 h23
    refine (task_of_aw (N := 83) prim12 fn12 rfl rfl StOk.nil ?_).2
    intro e he ha K hK
    have a0 := ha 0
    have a1 := ha 1
    have a2 := ha 2
    clear ha
    simp [Pg.av] at a0 a1 a2
    simp [a12, he, a0, a1, a2, alive8_call, h34, h40, h41, h23, ints]
    exact hK _ _ _ (.inl rfl) (by simp) ⟨_, rfl, by simp [he]⟩
  | true =>
  rw [hr] at h23
  have hS := right_sound hp hr
  by_cases h1 : 0 ≤ d
  · by_cases h2 : d < p.ds.length
    · obtain ⟨i, rfl⟩ := Int.eq_ofNat_of_zero_le h1
      have hi : i < p.ds.length := by omega
      have hth : thereF p i = true := by simp [thereF, hS.may, hi]
      have hal : allF p i = tysF p (varsF p.ds[i]) := by simp [allF, hr, hi, varsP, hth]
      have hlen := tysF_len p (varsF p.ds[i])
      have h42 := refOf_call hS hi
      have hof : ofP p i e' = if 0 ≤ e' then (tysF p (varsF p.ds[i])).getD e'.toNat 0 else 0 := by rw [ofP, hal]
      rw [hal] at h40
      rw [hof] at h41
      generalize tysF p (varsF p.ds[i]) = T at *
      have h1' : ¬ (i : Int) < 0 := by omega
      have h2' : ¬ (p.ds.length : Int) ≤ (i : Int) := by omega
      have hll : (T.length : Int) = (p.xs.length : Int) := by omega
      simp only [Pg.av] at h34 h40 h41 h23 h42
      have hxs := hp.xs
      refine (task_of_aw (N := 83) prim12 fn12 rfl rfl StOk.nil ?_).2
      intro e he ha K hK
      have a0 := ha 0
      have a1 := ha 1
      have a2 := ha 2
      clear ha
      simp [Pg.av] at a0 a1 a2
      simp [a12, he, a0, a1, a2, alive8_call, h34, h40, h41, h23, ints_length, h1', h2', hlen]
      refine aw_loop (W := w12_0) rfl (fun m e ds s => ds = [] ∧ s = [] ∧ ∃ j : Nat, j + m = T.length ∧ AX.ev e (.t 8) = .int .i64 j) T.length ⟨rfl, rfl, 0, by simp, by simp [he]⟩ ?_
      rintro m e1 ds s hs ⟨rfl, rfl, j, hm, g8⟩ K1 kn kx
      have he1 : e1.length = 83 := by simp [hs.1, he]
      have g1 := hs.ev 1 rfl (v := .int .i64 i) (by simp [he, a1])
      have g2 := hs.ev 2 rfl (v := .int .i64 e') (by simp [he, a2])
      have g3 := hs.ev 3 rfl (v := .iptr p.av) (by simp [he, a0, Pg.av])
      have g7 := hs.ev 7 rfl (v := .lst 1 (ints T) (allAp p i)) (by simp [he])
      simp only [Pg.av] at g3
      by_cases hj : j < T.length
      · have hgv := ints_get hj
        have h42 := h42 j (by omega) [] StOk.nil
        have hgT : T.getD j 0 = T[j] := by simp [hj]
        rw [hgT] at h42
        generalize T[j] = V at *
        have w1 : IntKind.i64.wrap ((j : Int) + 1) = (j : Int) + 1 := wrap_i64 (by omega) (by omega)
        simp [a12_0, g1, g3, g7, g8, he1, hj, hgv, ints_length, h42, w1, Ai.beq_refl]
        exact kn (m - 1) _ _ _ (by omega) ⟨rfl, rfl, j + 1, by omega, by simp [he1]⟩
      · simp [a12_0, g7, g8, he1, hj, ints_length]
        refine kx _ _ _ _ nofun fun hs' => ?_
        by_cases h0 : 0 ≤ e'
        · obtain ⟨k, rfl⟩ := Int.eq_ofNat_of_zero_le h0
          have h00 : ¬ (k : Int) < 0 := by omega
          by_cases hk : k < T.length
          · have hgv := ints_get hk
            have hgT : T.getD k 0 = T[k] := by simp [hk]
            simp at h41
            have h41' : T[k]?.getD 0 = T[k] := by simp [hk]
            rw [h41'] at h41
            generalize T[k] = V at *
            have hk' : ¬ (T.length : Int) ≤ (k : Int) := by omega
            have hk2 : ¬ T.length ≤ k := by omega
            simp [he1, g1, g2, g3, g7, h00, hk, hk2, ints_length, h41, hgv, Ai.beq_refl]
            exact hK _ _ _ (.inl rfl) (by simp) ⟨_, rfl, by simp [he1]⟩
          · have hk2 : T.length ≤ k := by omega
            have h41' : T[k]?.getD 0 = 0 := by simp [hk2]
            simp at h41
            rw [h41'] at h41
            simp [he1, g1, g2, g3, g7, h00, hk, hk2, ints_length, h41]
            exact hK _ _ _ (.inl rfl) (by simp) ⟨_, rfl, by simp [he1]⟩
        · have h00 : e' < 0 := by omega
          rw [if_neg h0] at h41
          simp [he1, g1, g2, g3, g7, h00, ints_length, h41]
          exact hK _ _ _ (.inl rfl) (by simp) ⟨_, rfl, by simp [he1]⟩
    · have hal : allF p d = [] := by simp [allF, h2]
      have hof : ofP p d e' = 0 := by simp [ofP, hal]
      have h1' : ¬ d < 0 := by omega
      have h2' : (p.ds.length : Int) ≤ d := by omega
      rw [hal] at h40
      rw [hof] at h41
      simp only [Pg.av] at h34 h40 h41 h23
      refine (task_of_aw (N := 83) prim12 fn12 rfl rfl StOk.nil ?_).2
      intro e he ha K hK
      have a0 := ha 0
      have a1 := ha 1
      have a2 := ha 2
      clear ha
      simp [Pg.av] at a0 a1 a2
      simp [a12, he, a0, a1, a2, alive8_call, h34, h40, h41, h23, ints, h1', h2']
      exact hK _ _ _ (.inl rfl) (by simp) ⟨_, rfl, by simp [he]⟩
  · have hal : allF p d = [] := by simp [allF, h1]
    have hof : ofP p d e' = 0 := by simp [ofP, hal]
    have h1' : d < 0 := by omega
    rw [hal] at h40
    rw [hof] at h41
    simp only [Pg.av] at h34 h40 h41 h23
    refine (task_of_aw (N := 83) prim12 fn12 rfl rfl StOk.nil ?_).2
    intro e he ha K hK
    have a0 := ha 0
    have a1 := ha 1
    have a2 := ha 2
    clear ha
    simp [Pg.av] at a0 a1 a2
    simp [a12, he, a0, a1, a2, alive8_call, h34, h40, h41, h23, ints, h1']
    exact hK _ _ _ (.inl rfl) (by simp) ⟨_, rfl, by simp [he]⟩
end Go.Proofs.YtefildelnccljaaGreat

namespace Go.Proofs.YtefildelnccljaaGreat
open Go Ai
set_option maxRecDepth 100000 in
theorem runsTypesOf (avs : List AV) (h : ArgsOf Tryz.prog 8 Tryz.f12.params.toList avs) (hb : AV.bulks avs ≤ 1048576) : ∃ st ds, runL A (.seqc 12 avs) [] = some ⟨.ret, ⟨[.bool true], ds⟩, st⟩ := by
  rw [Tryz.params12] at h
  simp only [ArgsOf] at h
  obtain ⟨a, _, rfl, h1, b, _, rfl, h2, c, _, rfl, h3, rfl⟩ := h
  obtain ⟨p, rfl, hp⟩ := of_prog h1
  obtain ⟨d, rfl, _⟩ := ofType_int Tryz.underlying3 h2
  obtain ⟨n, rfl, _⟩ := ofType_int Tryz.underlying3 h3
  simp only [AV.bulks] at hb
  exact ⟨_, _, ofLaw (hp (by omega)) d n⟩
end Go.Proofs.YtefildelnccljaaGreat

