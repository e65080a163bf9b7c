/- The law TypesSure: whatever it reads, of bulk at most 1048576, it returns true, and what it reads is as before. Its condition: the row's own. -/
import Derived.Test.YtefildelnccljaaGreatRows
import Derived.Deep.DeepWitnessRowRef
import Derived.Test.YtefildelnccljaaGreatJu
namespace Go.Proofs.YtefildelnccljaaGreat.fnTypesSure
open Go Go.ChangeShapes Go.WideShapes Go.ChangeAt Go.RowKit Go.Proofs.YtefildelnccljaaGreat.Ai

theorem own : ownKnob Tryz.prog.godebug = none := by kernel_rfl
theorem mixed : Tryz.prog.follows .mixedOrders = true := by kernel_rfl
theorem laidOut : laidOutB Tryz.prog = true := by kernel_rfl

set_option maxRecDepth 1000000 in
theorem contract (H : Type) (enc : TypeId × Value → H) (W : World) (base : Nat) (args : Array Value) (ds gs : List (DataW H)) (before : List MemPlace)
    (hval : ∀ (j : Nat) t v, Tryz.f11.params[j]? = some t → args[j]? = some v → Value.okWide Tryz.prog W .any base t v)
    (hW : DataW.Whole enc Tryz.prog Tryz.f11.params.toList Rows.typesSureSpec.vars false W args.toList ds gs before) (hL : laidMetH Tryz.prog Rows.typesSureUptoRow.laid W) (hk : Rows.uptoBulkAll (ds ++ gs) ≤ 1048576) :
    Calls Tryz.prog 11 args W fun e W' => ∃ v, e = .returned v ∧ Rows.typesSureSpec.post enc Tryz.prog Tryz.f11 false true false false W args v W' := by
  have hV := hW
  obtain ⟨p, q, hA0, hV, rfl, hfz, hnd⟩ := hV
  obtain ⟨rfl, rfl⟩ := trodVars_none hV
  exact contract_of (tb := 4) (A := A) (gl := gl) (B := Bw) mixed fits primsOk laidOut (by kernel_rfl) (by kernel_rfl) rfl Tryz.underlying4 rfl
    (fun H ds h => by match ds, h with
      | [d1], _ => rfl)
    hval hW (glOk hL) (bwOk hL) (N := 1048576) (by simpa using hk) runsTypesSure

theorem laid_met (os : Os) : laidMet Tryz.prog Rows.typesSureUptoRow.laid ((laidWorld Tryz.prog Rows.typesSureUptoRow.laid os).forCall (fun _ _ => 0) ⟨#[], #[.string ⟨#[]⟩], []⟩).memory :=
  laidMet_of_run3 8 (by kernel_rfl) (by kernel_rfl) (by kernel_rfl)
theorem reads (os : Os) {H : Type} (enc : TypeId × Value → H) : ∃ places, DataW.whole enc Tryz.prog ((laidWorld Tryz.prog Rows.typesSureUptoRow.laid os).forCall (fun _ _ => 0) ⟨#[], #[.string ⟨#[]⟩], []⟩).memory Tryz.f11.params.toList Rows.typesSureSpec.vars false (#[.string ⟨#[]⟩] : Array Value).toList 8 = some ([.lit (.string [])], [], places) :=
  ⟨[], by kernel_rfl⟩

set_option maxRecDepth 100000 in
theorem lifted (os : Os) (started : os.Started) (H : Type) (enc : TypeId × Value → H) (F : Stop.Interp) :
    ReturnsInHanded {} Tryz.checked os 11 .any ((Rows.OpenSpec.upto Rows.typesSureSpec).preRow enc Tryz.prog Tryz.f11 Rows.typesSureUptoRow.domain false Rows.typesSureUptoRow.laid) (((Rows.OpenSpec.upto Rows.typesSureSpec).at F).post enc Tryz.prog Tryz.f11 false true false false) := by
  obtain ⟨places, hx⟩ := reads os enc
  refine returnsInHanded_of_row (C := Tryz.checked) (s := Rows.OpenSpec.upto Rows.typesSureSpec) own started (by kernel_rfl) Tryz.func11
    (witness_row_atRef (enc := enc) (C := Tryz.checked) false (laidWorld Tryz.prog Rows.typesSureUptoRow.laid os) #[.string ⟨#[]⟩] rfl (by kernel_rfl) (by kernel_rfl) (by kernel_rfl)
      (OpenSpec.preRow_of_cond 8 hx (by kernel_rfl) (fun k hk => by cases hk; kernel_rfl) (by kernel_rfl) (laid_met os))) ?_
  intro W base args ds gs before hval hW _ hcond _ hL _ _
  exact contract H enc W base args ds gs before hval hW hL (of_decide_eq_true (hcond _ rfl))

theorem said : Rows.TypesSureUptoSaid :=
  OpenClaim.holds_of_cond 11 Tryz.f11 rfl rfl rfl rfl rfl rfl rfl ⟨rfl, rfl, rfl, rfl, rfl⟩ rfl rfl rfl rfl rfl (by kernel_rfl) Tryz.func11 (by kernel_rfl)
    (of_decide_eq_true (by kernel_rfl)) (by unfold Func.isWrapper; first | (rw [if_pos (by decide +kernel)]; kernel_rfl) | (rw [if_neg (by decide +kernel)]; exact ⟨rfl, rfl⟩))
    (fun os started H enc _ F => by rw [OpenClaim.pre_eq_preRow]; exact lifted os started H enc F)

#print axioms said
end Go.Proofs.YtefildelnccljaaGreat.fnTypesSure
