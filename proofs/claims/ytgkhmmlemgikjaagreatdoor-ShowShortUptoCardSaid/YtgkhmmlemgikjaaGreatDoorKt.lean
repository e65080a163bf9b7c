/- Part Kt. No condition. -/
import Derived.Test.YtgkhmmlemgikjaaGreatDoorKs
import Derived.Test.YtgkhmmlemgikjaaGreatDoorKe
import Derived.Test.YtgkhmmlemgikjaaGreatDoorEh
import Derived.Test.YtgkhmmlemgikjaaGreatDoorKh
import Derived.Test.YtgkhmmlemgikjaaGreatDoorKg
import Derived.Test.YtgkhmmlemgikjaaGreatDoorKn
set_option linter.unusedVariables false
set_option linter.unusedSimpArgs false
namespace Go.Proofs.YtgkhmmlemgikjaaGreatDoor
open Go Ai
end Go.Proofs.YtgkhmmlemgikjaaGreatDoor
namespace Go.Proofs.YtgkhmmlemgikjaaGreatDoor
open Go Ai
end Go.Proofs.YtgkhmmlemgikjaaGreatDoor
namespace Go.Proofs.YtgkhmmlemgikjaaGreatDoor
open Go Ai
end Go.Proofs.YtgkhmmlemgikjaaGreatDoor
namespace Go.Proofs.YtgkhmmlemgikjaaGreatDoor
open Go Ai
theorem fn13:A.fn 13=some a13:=by kernel_rfl
theorem prim13:A.prim 13=none:=by kernel_rfl
def shS:Sx:=[40,49,43,50,41,42,45,120]
def shT:Sx:=[40,49,32,43,32,50,41,32,42,32,45,120]
theorem shS_ok:(match parseF shS true with | (p,e,c,_)=>decide (c=0) && decide (e=5) && decide (p.xs.length=6) && decide (exT p 5 0=shT) && p.xs.all (fun x=>decide (-9223372036854775808≤x.v) && decide (x.v≤9223372036854775807)))=true:=by kernel_rfl
theorem alive13 {st:St} (hst:StOk st):runL A (.call 13 []) st=some ⟨.ret,⟨[.bool true],[]⟩,st⟩:=by
 have cc:=parse_call (s:=shS) (by decide) true hst
 have h:=shS_ok
 have hok:=(parse_ok shS true).1
 have hmay:=parse_may shS true
 obtain ⟨P,hP⟩:∃P,P=parseF shS true:=⟨_,rfl⟩
 rw [←hP] at cc h hok hmay
 obtain ⟨p,e0,c,b⟩:=P
 simp only [Bool.and_eq_true,decide_eq_true_eq,List.all_eq_true] at h
 obtain ⟨⟨⟨⟨hc,he0⟩,hl⟩,ht⟩,hv⟩:=h
 have T:Told p:=⟨hok,hmay,hv⟩
 have c2:=show16 T (a:=5) (by omega) (by rw [show ((5:Nat):Int)=5 from rfl,ht];decide) hst
 rw [show ((5:Nat):Int)=5 from rfl,ht] at c2
 subst hc;subst he0
 simp only [shS,shT,Pg.av] at cc c2
 refine (task_of_aw (N:=18) prim13 fn13 rfl rfl hst ?_).1
 intro e he ha K hK
 simp [a13,he,cc,c2]
 exact hK _ _ _ (.inl rfl) (by simp) ⟨_,rfl,by simp [he,AV.still]⟩
end Go.Proofs.YtgkhmmlemgikjaaGreatDoor
