/- Part Kj. No condition. -/
import Derived.Test.YtgkhmmlemgikjaaGreatDoorKg
import Derived.Test.YtgkhmmlemgikjaaGreatDoorEh
set_option linter.unusedVariables false
set_option linter.unusedSimpArgs false
namespace Go.Proofs.YtgkhmmlemgikjaaGreatDoor
open Go Ai
section
variable {n r:Nat} {L:List Tk} {dv:AV} {dp:Nat} {s:St} {R:Rd}
end
section
variable {n r:Nat} {L:List Tk} {dv:AV} {dp:Nat} {s:St} {R:Rd}
end
section
variable {n r:Nat} {L:List Tk} {dv:AV} {dp:Nat} {s:St} {R:Rd}
end
end Go.Proofs.YtgkhmmlemgikjaaGreatDoor
namespace Go.Proofs.YtgkhmmlemgikjaaGreatDoor
open Go Ai
def Stk (R R':Rd):Prop:=R.c≠0→R'.c=R.c∧R'.b=R.b
theorem Stk.refl {R:Rd}:Stk R R:=fun _=>⟨rfl,rfl⟩
theorem Stk.trans {a b c:Rd} (h:Stk a b) (g:Stk b c):Stk a c:=fun x=>by
 obtain ⟨h1,h2⟩:=h x
 obtain ⟨g1,g2⟩:=g (by rw [h1];exact x)
 exact ⟨g1.trans h1,g2.trans h2⟩
theorem Stk.adv {R:Rd}:Stk R R.adv:=fun _=>⟨rfl,rfl⟩
theorem Stk.fail {L:List Tk} {c:Int} {R:Rd}:Stk R (failR L c R):=fun h=>by simp [failR,h]
theorem Stk.want {L:List Tk} {w:Sx} {R:Rd}:Stk R (wantR L w R):=by unfold wantR;split;exact .adv;exact .fail
theorem Stk.name {L:List Tk} {R:Rd}:Stk R (nameR L R).2:=by unfold nameR;split;exact .adv;exact .fail
theorem Stk.kind {L:List Tk} {R:Rd}:Stk R (kindR L R).2:=by unfold kindR;split;exact .adv;exact .want
theorem Stk.put {x:Ex} {R:Rd}:Stk R (putR x R).2:=fun _=>⟨rfl,rfl⟩
theorem isR_stk {L:List Tk} {w:Sx} {R:Rd} (h:R.c≠0):isR L w R=false:=by simp [isR,h]
section
variable {n r:Nat} {L:List Tk} {dv:AV} {dp:Nat} {s:St} {R:Rd}
end
end Go.Proofs.YtgkhmmlemgikjaaGreatDoor
namespace Go.Proofs.YtgkhmmlemgikjaaGreatDoor
open Go Ai
def StkE {α:Type} (E:RM α):Prop:=∀R,Stk R (E R).2
section
variable {n r:Nat} {L:List Tk} {dv:AV} {dp:Nat} {s:St} {R:Rd}
end
end Go.Proofs.YtgkhmmlemgikjaaGreatDoor
namespace Go.Proofs.YtgkhmmlemgikjaaGreatDoor
open Go Ai
theorem stk_chain {L:List Tk} {B:RM Int} {least:Int} (m:Nat) (a:Int) (R:Rd):Stk R (chainF L B least m a R).2:=by
 intro hc;cases m<;>simp [chainF,hc]
theorem stk_ep {L:List Tk}:∀f,StkE (epF L f).1∧StkE (epF L f).2
 | 0=>⟨fun _=>.fail,fun _=>.fail⟩
 | f+1=>⟨fun R hc=>by simp [epF,hc],fun R hc=>by simp [epF,hc]⟩
section
variable {n r:Nat} {L:List Tk} {dv:AV} {dp:Nat} {s:St} {R:Rd}
theorem level_cases (hc:R.c=0):(levelR L R=(0,0)∧∀e∈lvTab,isR L e.1 R=false)∨∃e∈lvTab,levelR L R=e.2∧isR L e.1 R=true:=by
 unfold levelR
 cases h:lvTab.find? fun e=>isR L e.1 R with
 | none=>exact .inl ⟨rfl,fun e he=>by simpa using List.find?_eq_none.1 h e he⟩
 | some e=>exact .inr ⟨e,List.mem_of_find?_eq_some h,rfl,by simpa using List.find?_some h⟩
end
end Go.Proofs.YtgkhmmlemgikjaaGreatDoor
namespace Go.Proofs.YtgkhmmlemgikjaaGreatDoor
open Go Ai
section
variable {n r:Nat} {L:List Tk} {dv:AV} {dp:Nat} {s:St} {R:Rd}
theorem pre_cases:(preR L R=0∧∀e∈preTab,isR L e.1 R=false)∨∃e∈preTab,preR L R=e.2∧isR L e.1 R=true:=by
 unfold preR
 cases h:preTab.find? fun e=>isR L e.1 R with
 | none=>exact .inl ⟨rfl,fun e he=>by simpa using List.find?_eq_none.1 h e he⟩
 | some e=>exact .inr ⟨e,List.mem_of_find?_eq_some h,rfl,by simpa using List.find?_some h⟩
end
end Go.Proofs.YtgkhmmlemgikjaaGreatDoor
namespace Go.Proofs.YtgkhmmlemgikjaaGreatDoor
open Go Ai
section
variable {n r:Nat} {L:List Tk} {dv:AV} {dp:Nat} {s:St} {R:Rd}
end
end Go.Proofs.YtgkhmmlemgikjaaGreatDoor
namespace Go.Proofs.YtgkhmmlemgikjaaGreatDoor
open Go Ai
section
variable {n r:Nat} {L:List Tk} {dv:AV} {dp:Nat} {s:St} {R:Rd}
end
end Go.Proofs.YtgkhmmlemgikjaaGreatDoor
namespace Go.Proofs.YtgkhmmlemgikjaaGreatDoor
open Go Ai
section
variable {n r:Nat} {L:List Tk} {dv:AV} {dp:Nat} {s:St} {R:Rd}
end
end Go.Proofs.YtgkhmmlemgikjaaGreatDoor
namespace Go.Proofs.YtgkhmmlemgikjaaGreatDoor
open Go Ai
section
variable {n r:Nat} {L:List Tk} {dv:AV} {dp:Nat} {s:St} {R:Rd}
theorem stkE0:StkE (exprF L):=(stk_ep 30).1
end
end Go.Proofs.YtgkhmmlemgikjaaGreatDoor
