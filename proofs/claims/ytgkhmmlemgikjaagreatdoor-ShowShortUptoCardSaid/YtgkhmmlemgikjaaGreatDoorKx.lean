/- Part Kx. No condition. -/
import Derived.Test.YtgkhmmlemgikjaaGreatDoorKw
import Derived.Test.YtgkhmmlemgikjaaGreatDoorKd
import Derived.Test.YtgkhmmlemgikjaaGreatDoorEc
import Derived.Test.YtgkhmmlemgikjaaGreatDoorRows
set_option linter.unusedVariables false
set_option linter.unusedSimpArgs false
namespace Go.Proofs.YtgkhmmlemgikjaaGreatDoor
open Go Ai
set_option maxRecDepth 100000 in
theorem runsShowShort (avs:List AV) (h:ArgsOf Tryz.prog 8 Tryz.f4.params.toList avs) (hb:AV.bulks avs≤1048576):∃st ds,runL A (.seqc 4 avs) []=some ⟨.ret,⟨[.bool true],ds⟩,st⟩:=by
 rw [Tryz.params4] at h
 simp only [ArgsOf] at h
 obtain ⟨a,_,rfl,h1,rfl⟩:=h
 obtain ⟨s,rfl,hs⟩:=ofType_str Tryz.underlying9 h1
 exact ⟨_,_,law4_run (by simp only [AV.bulks,AV.bulk] at hb;omega)⟩
end Go.Proofs.YtgkhmmlemgikjaaGreatDoor
namespace Go.Proofs.YtgkhmmlemgikjaaGreatDoor
open Go Ai
theorem glOk {W:World} {laid:List (String×DataW Unit)} (_:laidMetH Tryz.prog laid W):GlOk gl (J0 W):=by
 intro g v h;cases h
theorem bwOk {W:World} (h:laidMetH Tryz.prog Rows.showShortUptoRow.laid W):Bw W :=
 tab_of_laid (g:=3) (t:=211) (e:=143) (m:=20) (by kernel_rfl) (by kernel_rfl) (by kernel_rfl) Tryz.underlying211 Tryz.underlying143 (by kernel_rfl) (by kernel_rfl) h
end Go.Proofs.YtgkhmmlemgikjaaGreatDoor
