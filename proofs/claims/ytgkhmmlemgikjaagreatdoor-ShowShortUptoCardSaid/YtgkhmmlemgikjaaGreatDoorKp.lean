/- Part Kp. No condition. -/
import Derived.Test.YtgkhmmlemgikjaaGreatDoorKi
set_option linter.unusedVariables false
set_option linter.unusedSimpArgs false
namespace Go.Proofs.YtgkhmmlemgikjaaGreatDoor.Lx
open Go Ai Go.Proofs.YtgkhmmlemgikjaaGreatDoor
theorem map_ok {α β} {f:α→β} {x:Except Nat α} {b:β} (h:x.map f=.ok b):∃a,x=.ok a∧f a=b:=by
 cases x with
 | error e=>cases h
 | ok a=>exact ⟨a,rfl,by cases h;rfl⟩
theorem lexK_cases (l:List UInt8) (p:Nat) :
  (skipN false l=l.length∧lexK l p=.ok [⟨5,[],0,p+l.length⟩]) ∨
  (∃c r,l.drop (skipN false l)=c::r∧skipN false l<l.length∧(
   ((tokOf (c::r) (p+skipN false l)).2=false∧lexK l p=.error (p+skipN false l)) ∨
   ∃x,tokOf (c::r) (p+skipN false l)=(x,true)∧0<x.text.length∧lexK l p=(lexK ((c::r).drop x.text.length) (p+skipN false l+x.text.length)).map (x::·))):=by
 have hle:=skipN_le false l
 by_cases h:skipN false l=l.length
 ·left
  refine ⟨h,?_⟩
  unfold lexK
  rw [h,List.drop_length,lexS_nil]
 ·right
  cases hd:l.drop (skipN false l) with
  | nil =>
   have:=congrArg List.length hd
   simp at this;omega
  | cons c r =>
   refine ⟨c,r,rfl,by omega,?_⟩
   cases ht:(tokOf (c::r) (p+skipN false l)).2 with
   | false =>
    left
    refine ⟨rfl,?_⟩
    unfold lexK
    rw [hd,lexS_bad ht]
   | true =>
    right
    refine ⟨(tokOf (c::r) (p+skipN false l)).1,by rw [←ht],tokOf_pos ht,?_⟩
    unfold lexK
    rw [hd,lexS_tok (by rw [←ht])]
    rfl
theorem lexK_end:∀(n:Nat) (l:List UInt8),l.length≤n→∀p ts,lexK l p=.ok ts→∃us,ts=us++[⟨5,[],0,p+l.length⟩]∧∀u∈us,u.kind≠5∧0<u.text.length∧u.text.length≤l.length
 | n,l,hn,p,ts,h=>by
  rcases lexK_cases l p with ⟨h1,h2⟩ | ⟨c,r,hd,hlt,⟨h1,h2⟩ | ⟨x,h1,h2,h3⟩⟩
  ·rw [h2] at h;cases h
   exact ⟨[],rfl,by simp⟩
  ·rw [h2] at h;cases h
  ·rw [h3] at h
   obtain ⟨us,hu,rfl⟩:=map_ok h
   have hlen:=congrArg List.length hd
   simp only [List.length_drop] at hlen
   have hx:=tokOf_le h1
   cases n with
   | zero=>omega
   | succ n =>
    obtain ⟨vs,rfl,hv⟩:=lexK_end n _ (by simp only [List.length_drop];simp at hlen hx ⊢;omega) _ us hu
    refine ⟨x::vs,?_,?_⟩
    ·rw [List.cons_append]
     congr 4
     simp only [List.length_drop];omega
    ·intro u hu
     rw [List.mem_cons] at hu
     rcases hu with rfl | hu
     ·refine ⟨?_,h2,by omega⟩
      have hk:∀y,tokOf (c::r) (p+skipN false l)=y→y.1.kind≠5:=by
       rintro y rfl
       rw [tokOf_cons]
       split
       ·simp only;split<;>decide
       ·split
        ·exact (by decide:(2:Nat)≠5)
        ·exact (by decide:(4:Nat)≠5)
      exact hk _ h1
     ·obtain ⟨g1,g2,g3⟩:=hv u hu
      exact ⟨g1,g2,by simp only [List.length_drop] at g3;omega⟩
def place:Nat→List Tok→List Tok
 | _,[]=>[]
 | p,u::us=>{ u with pos:=p }::place (p+u.text.length+1) us
end Go.Proofs.YtgkhmmlemgikjaaGreatDoor.Lx
