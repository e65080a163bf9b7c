/- Part Kq. No condition. -/
import Derived.Test.YtgkhmmlemgikjaaGreatDoorKp
import Derived.Test.YtgkhmmlemgikjaaGreatDoorKn
import Derived.Test.YtgkhmmlemgikjaaGreatDoorKd
import Derived.Test.YtgkhmmlemgikjaaGreatDoorEc
set_option linter.unusedVariables false
set_option linter.unusedSimpArgs false
namespace Go.Proofs.YtgkhmmlemgikjaaGreatDoor
open Go Ai
set_option maxRecDepth 100000 in
theorem runsParseTexts (avs:List AV) (h:ArgsOf Tryz.prog 8 Tryz.f8.params.toList avs) (hb:AV.bulks avs≤1048576):∃st ds,runL A (.seqc 8 avs) []=some ⟨.ret,⟨[.bool true],ds⟩,st⟩:=by
 rw [Tryz.params8] at h
 simp only [ArgsOf] at h
 obtain ⟨a,_,rfl,h1,rfl⟩:=h
 obtain ⟨s,rfl,hs⟩:=ofType_str Tryz.underlying9 h1
 exact ⟨_,_,law8_run (by simp only [AV.bulks,AV.bulk] at hb;omega)⟩
set_option maxRecDepth 100000 in
theorem runsParseSpoiled (avs:List AV) (h:ArgsOf Tryz.prog 8 Tryz.f10.params.toList avs) (hb:AV.bulks avs≤1048576):∃st ds,runL A (.seqc 10 avs) []=some ⟨.ret,⟨[.bool true],ds⟩,st⟩:=by
 rw [Tryz.params10] at h
 simp only [ArgsOf] at h
 obtain ⟨a,_,rfl,h1,rfl⟩:=h
 obtain ⟨s,rfl,hs⟩:=ofType_str Tryz.underlying9 h1
 exact ⟨_,_,law10_run (by simp only [AV.bulks,AV.bulk] at hb;omega)⟩
end Go.Proofs.YtgkhmmlemgikjaaGreatDoor
