/- The library's functions are sound, at chapter 25's dump. No condition. -/
import Derived.Test.YtfkmdajlpnkebaaDoorAl25
namespace Go.Proofs.YtfkmdajlpnkebaaDoor
open Go Ai

def Bw (w : World) : Prop := Lib.TabIs Tryd.prog w pow10Name .u64 Lib.pow10Tab

theorem primsOk : PrimsOk Tryd.prog gl A Bw := by
  intro f h args st o st' hf hh
  have hf' : (prims.find? fun e => e.1 == f).map (·.2) = some h := hf
  simp only [prims, List.find?_cons, List.find?_nil] at hf'
  split at hf'
  · rename_i e
    have : f = 27 := (beq_iff_eq.1 e).symm
    subst this
    cases hf'
    cases o <;> exact copy27 hh
  · split at hf'
    · rename_i e
      have : f = 21 := (beq_iff_eq.1 e).symm
      subst this
      cases hf'
      cases o <;> exact string21 hh
    · split at hf'
      · rename_i e
        have : f = 31 := (beq_iff_eq.1 e).symm
        subst this
        cases hf'
        cases o <;> exact pure_task join31 hh
      · split at hf'
        · rename_i e
          have : f = 20 := (beq_iff_eq.1 e).symm
          subst this
          cases hf'
          cases o <;> exact pure_task (itoa20 (B := Bw) fun _ h => h) hh
        · cases hf'
end Go.Proofs.YtfkmdajlpnkebaaDoor
