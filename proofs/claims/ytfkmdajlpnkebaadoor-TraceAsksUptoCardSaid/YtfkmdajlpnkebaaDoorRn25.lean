/- Chapter 25: what the rows need: the laws' runs; the tables. No condition. -/
import Derived.Test.YtfkmdajlpnkebaaDoorTp25
import Derived.Test.YtfkmdajlpnkebaaDoorLa25
namespace Go.Proofs.YtfkmdajlpnkebaaDoor
open Go Ai

set_option maxRecDepth 100000 in
theorem runsTraceSteps (avs : List AV) (h : ArgsOf Tryd.prog 8 Tryd.f4.params.toList avs) (hb : AV.bulks avs ≤ 1048576) : ∃ st ds, runL A (.seqc 4 avs) [] = some ⟨.ret, ⟨[.bool true], ds⟩, st⟩ := by
  rw [Tryd.params4] at h
  simp only [ArgsOf] at h
  obtain ⟨a, _, rfl, h1, c, _, rfl, h2, rfl⟩ := h
  obtain ⟨ms, b, en, rfl, _, _⟩ := of_trace (n := 2) h1
  obtain ⟨c, rfl, _⟩ := ofType_int Tryd.underlying3 h2
  have := tr_bulk (ms := ms) (ap := apOf b) (en := en)
  simp only [AV.bulks] at hb
  exact ⟨_, _, law4_run (by omega) (by omega)⟩

set_option maxRecDepth 100000 in
theorem runsTraceBetween (avs : List AV) (h : ArgsOf Tryd.prog 8 Tryd.f6.params.toList avs) (hb : AV.bulks avs ≤ 1048576) : ∃ st ds, runL A (.seqc 6 avs) [] = some ⟨.ret, ⟨[.bool true], ds⟩, st⟩ := by
  rw [Tryd.params6] at h
  simp only [ArgsOf] at h
  obtain ⟨a, _, rfl, h1, c, _, rfl, h2, rfl⟩ := h
  obtain ⟨ms, b, en, rfl, _, _⟩ := of_trace (n := 2) h1
  obtain ⟨c, rfl, _⟩ := ofType_int Tryd.underlying3 h2
  have := tr_bulk (ms := ms) (ap := apOf b) (en := en)
  simp only [AV.bulks] at hb
  exact ⟨_, _, law6_run (by omega) (by omega)⟩

set_option maxRecDepth 100000 in
theorem runsTraceAsks (avs : List AV) (h : ArgsOf Tryd.prog 8 Tryd.f5.params.toList avs) (hb : AV.bulks avs ≤ 1048576) : ∃ st ds, runL A (.seqc 5 avs) [] = some ⟨.ret, ⟨[.bool true], ds⟩, st⟩ := by
  rw [Tryd.params5] at h
  simp only [ArgsOf] at h
  obtain ⟨a, _, rfl, h1, c, _, rfl, h2, v, _, rfl, h3, rfl⟩ := h
  obtain ⟨ms, b, en, rfl, _, _⟩ := of_trace (n := 2) h1
  obtain ⟨c, rfl, _⟩ := ofType_int Tryd.underlying3 h2
  obtain ⟨v, rfl, _⟩ := ofType_int Tryd.underlying2 h3
  have := tr_bulk (ms := ms) (ap := apOf b) (en := en)
  simp only [AV.bulks] at hb
  exact ⟨_, _, law5_run (by omega) (by omega)⟩

theorem glOk {W : World} {laid : List (String × DataW Unit)} (_ : laidMetH Tryd.prog laid W) : GlOk gl (J0 W) := by
  intro g v h; cases h
theorem bwOk {W : World} (h : laidMetH Tryd.prog Rows.traceStepsUptoRow.laid W) : Bw W :=
  tab_of_laid (g := 0) (t := 87) (e := 68) (m := 20) (by kernel_rfl) (by kernel_rfl) (by kernel_rfl) Tryd.underlying87 Tryd.underlying68 (by kernel_rfl) (by kernel_rfl) h
end Go.Proofs.YtfkmdajlpnkebaaDoor
