/- Part Km. No condition. -/
import Derived.Test.YtgkhmmlemgikjaaGreatDoorKk
import Derived.Test.YtgkhmmlemgikjaaGreatDoorKl
set_option linter.unusedVariables false
set_option linter.unusedSimpArgs false
namespace Go.Proofs.YtgkhmmlemgikjaaGreatDoor
open Go Ai
def opnS (k:Nat):Sx:=if k=2 then [105,102,32,97,32,116,104,101,110,32] else if k=1 then [45,32] else [40]
def clsS (k:Nat):Sx:=if k=2 then [32,101,108,115,101,32,98] else if k=1 then [] else [41]
def deepT (k:Nat):Nat→Sx
 | 0=>[120]
 | n+1=>opnS k++deepT k n++clsS k
def deepB (k n:Nat):Bool:=(decide ((parseF (deepT k n) true).2.2.1=3)) == (decide (30<(if k=0 then 2+2 * n else 2+n)))
def deepAll (k:Nat):Nat→Bool
 | 0=>true
 | n+1=>deepB k n && deepAll k n
theorem deep0:deepAll 0 60=true:=by kernel_rfl
theorem deep1:deepAll 1 60=true:=by kernel_rfl
theorem deep2:deepAll 2 60=true:=by kernel_rfl
end Go.Proofs.YtgkhmmlemgikjaaGreatDoor
namespace Go.Proofs.YtgkhmmlemgikjaaGreatDoor
open Go Ai
theorem fn6:A.fn 6=some a6:=by kernel_rfl
theorem prim6:A.prim 6=none:=by kernel_rfl
def w6_0:List Nat:=a6_0.writes
theorem deepT_len (k:Nat):∀n,(deepT k n).length≤1+17 * n
 | 0=>by simp [deepT]
 | n+1=>by have:=deepT_len k n;simp only [deepT,List.length_append];unfold opnS clsS;split<;>(try split)<;>simp<;>omega
theorem loop6 {e:Env} {st:St} {n k:Nat} (hn:n<256) {Q:PostQ} (he:e.length=71) (h0:AX.ev e (.t 0)=.int .u8 n) (h5:AX.ev e (.t 5)=.str (opnS k)) (h6:AX.ev e (.t 6)=.str (clsS k)) (h7:AX.ev e (.t 7)=.str [120]) (h8:AX.ev e (.t 8)=.int .i64 0)
  {d:Nat} (hd:d<60) (hw:IntKind.i64.wrap ((n:Int) % 60)=(d:Int)) (hQ:∀e2,Same w6_0 e e2→AX.ev e2 (.t 7)=.str (deepT k d)→Q (.exit 0) e2 [] st):AW A 6 none (.loop a6_0) e [] st Q:=by
 refine aw_loop (W:=w6_0) rfl (fun m e ds st'=>ds=[]∧st'=st∧∃i:Nat,i+m=d∧AX.ev e (.t 8)=.int .i64 i∧AX.ev e (.t 7)=.str (deepT k i)) d ⟨rfl,rfl,0,by simp,by simp [h8],by simp [h7,deepT]⟩ ?_
 rintro m e1 ds st' hs ⟨rfl,rfl,i,hm,g8,g7⟩ K1 kn kx
 have he1:e1.length=71:=by simp [hs.1,he]
 have g0:=hs.ev 0 rfl h0
 have g5:=hs.ev 5 rfl h5
 have g6:=hs.ev 6 rfl h6
 have hl:=deepT_len k i
 have w1:IntKind.i64.wrap ((i:Int)+1)=(i:Int)+1:=wrap_i64 (by omega) (by omega)
 have ho:(opnS k).length≤10:=by unfold opnS;split<;>(try split)<;>simp
 have hc:(clsS k).length≤7:=by unfold clsS;split<;>(try split)<;>simp
 by_cases hi:i<d
 ·have x1:(opnS k).length+(deepT k i).length≤281474976710656:=by omega
  have x2:(opnS k).length+(deepT k i).length+(clsS k).length≤281474976710656:=by omega
  have x3:(opnS k).length+((deepT k i).length+(clsS k).length)≤281474976710656:=by omega
  simp [a6_0,g0,g5,g6,g7,g8,he1,hi,w1,hw,x1,x2,x3]
  exact kn (m-1) _ _ _ (by omega) ⟨rfl,rfl,i+1,by omega,by simp [he1],by simp [he1,deepT]⟩
 ·simp [a6_0,g0,g5,g6,g7,g8,he1,hi,hw]
  have:i=d:=by omega
  subst this
  exact kx _ _ _ _ nofun fun hs'=>hQ _ hs' (by simp [g7])
theorem deepAll_at {k n:Nat}:∀{m:Nat},deepAll k m=true→n<m→deepB k n=true
 | m+1,h,hn=>by
  simp only [deepAll,Bool.and_eq_true] at h
  by_cases hm:n=m
  ·rw [hm];exact h.1
  ·exact deepAll_at h.2 (by omega)
theorem law6_run {n k:Nat} (hn:n<256) (hk:k<256):runL A (.seqc 6 [.int .u8 n,.int .u8 k]) []=some ⟨.ret,⟨[.bool true],[]⟩,[]⟩:=by
 have hst:StOk []:=StOk.nil
 obtain ⟨d,hd,hd'⟩:∃d,d=n % 60∧d<60:=⟨_,rfl,Nat.mod_lt _ (by decide)⟩
 obtain ⟨q,hq,hq'⟩:∃q,q=k % 3∧q<3:=⟨_,rfl,Nat.mod_lt _ (by decide)⟩
 have hw:IntKind.i64.wrap ((n:Int) % 60)=(d:Int):=by rw [hd];exact (wrap_i64 (by omega) (by omega)).trans (by omega)
 have hl:=deepT_len q d
 have c1:=alive_call hst
 have c2:=expr_call (s:=deepT q d) (by omega) hst
 have c3:=parse_call (s:=deepT q d) (by omega) true hst
 have hB:deepB q d=true:=by
  rcases (by omega:q=0∨q=1∨q=2) with h | h | h<;>rw [h]
  ·exact deepAll_at deep0 hd'
  ·exact deepAll_at deep1 hd'
  ·exact deepAll_at deep2 hd'
 unfold deepB at hB
 obtain ⟨P,hP⟩:∃P,P=parseF (deepT q d) true:=⟨_,rfl⟩
 rw [←hP] at c2 c3 hB
 obtain ⟨p,e0,c,b⟩:=P
 have hb:=eq_fl (c,b) (c,b)
 simp at hb
 simp only [Pg.av] at c2 c3
 refine (task_of_aw (N:=71) prim6 fn6 rfl rfl StOk.nil ?_).2
 intro e he ha K hK
 have a0:=ha 0
 have a1:=ha 1
 clear ha
 simp at a0 a1
 have hk3:(k:Int) % 3=(q:Int):=by omega
 rcases (by omega:q=0∨q=1∨q=2) with rfl | rfl | rfl
 ·simp [a6,he,a0,a1,c1,hk3]
  refine loop6 (k:=0) hn (by simp [he]) (by simp [he,a0]) (by simp [he,opnS]) (by simp [he,clsS]) (by simp [he]) (by simp [he]) hd' hw fun e2 hs2 h7=>?_
  have he2:e2.length=71:=by simp [hs2.1,he]
  have k0:=hs2.ev 0 rfl (v:=.int .u8 n) (by simp [he,a0])
  have k1:=hs2.ev 1 rfl (v:=.int .u8 k) (by simp [he,a1])
  have w2:IntKind.i64.wrap (2 * (d:Int))=2 * d:=wrap_i64 (by omega) (by omega)
  have w3:IntKind.i64.wrap (2+2 * (d:Int))=2+2 * d:=wrap_i64 (by omega) (by omega)
  have w4:IntKind.i64.wrap (2+(d:Int))=2+d:=wrap_i64 (by omega) (by omega)
  simp [he2,k0,k1,h7,c2,c3,hb,hw,hk3,w2,w3,w4]
  have hB':(decide (c=3) == decide ((30:Int)<2+2 * (d:Int)))=true:=by
   have hx:((30:Int)<2+2 * (d:Int))↔30<2+2 * d:=by omega
   simp only [hx]
   simpa using hB
  simp at hB'
  exact hK _ _ _ (.inl rfl) (by simp) ⟨_,rfl,by simp [he2,AV.still,hB']⟩
 ·simp [a6,he,a0,a1,c1,hk3]
  refine loop6 (k:=1) hn (by simp [he]) (by simp [he,a0]) (by simp [he,opnS]) (by simp [he,clsS]) (by simp [he]) (by simp [he]) hd' hw fun e2 hs2 h7=>?_
  have he2:e2.length=71:=by simp [hs2.1,he]
  have k0:=hs2.ev 0 rfl (v:=.int .u8 n) (by simp [he,a0])
  have k1:=hs2.ev 1 rfl (v:=.int .u8 k) (by simp [he,a1])
  have w2:IntKind.i64.wrap (2 * (d:Int))=2 * d:=wrap_i64 (by omega) (by omega)
  have w3:IntKind.i64.wrap (2+2 * (d:Int))=2+2 * d:=wrap_i64 (by omega) (by omega)
  have w4:IntKind.i64.wrap (2+(d:Int))=2+d:=wrap_i64 (by omega) (by omega)
  simp [he2,k0,k1,h7,c2,c3,hb,hw,hk3,w2,w3,w4]
  have hB':(decide (c=3) == decide ((30:Int)<2+(d:Int)))=true:=by
   have hx:((30:Int)<2+(d:Int))↔30<2+d:=by omega
   simp only [hx]
   simpa using hB
  simp at hB'
  exact hK _ _ _ (.inl rfl) (by simp) ⟨_,rfl,by simp [he2,AV.still,hB']⟩
 ·simp [a6,he,a0,a1,c1,hk3]
  refine loop6 (k:=2) hn (by simp [he]) (by simp [he,a0]) (by simp [he,opnS]) (by simp [he,clsS]) (by simp [he]) (by simp [he]) hd' hw fun e2 hs2 h7=>?_
  have he2:e2.length=71:=by simp [hs2.1,he]
  have k0:=hs2.ev 0 rfl (v:=.int .u8 n) (by simp [he,a0])
  have k1:=hs2.ev 1 rfl (v:=.int .u8 k) (by simp [he,a1])
  have w2:IntKind.i64.wrap (2 * (d:Int))=2 * d:=wrap_i64 (by omega) (by omega)
  have w3:IntKind.i64.wrap (2+2 * (d:Int))=2+2 * d:=wrap_i64 (by omega) (by omega)
  have w4:IntKind.i64.wrap (2+(d:Int))=2+d:=wrap_i64 (by omega) (by omega)
  simp [he2,k0,k1,h7,c2,c3,hb,hw,hk3,w2,w3,w4]
  have hB':(decide (c=3) == decide ((30:Int)<2+(d:Int)))=true:=by
   have hx:((30:Int)<2+(d:Int))↔30<2+d:=by omega
   simp only [hx]
   simpa using hB
  simp at hB'
  exact hK _ _ _ (.inl rfl) (by simp) ⟨_,rfl,by simp [he2,AV.still,hB']⟩
end Go.Proofs.YtgkhmmlemgikjaaGreatDoor
namespace Go.Proofs.YtgkhmmlemgikjaaGreatDoor
open Go Ai
theorem u8_nat {x:Int} (h:(Lit.int .u8 x).wf=true):∃n:Nat,x=n∧n<256:=by
 have:0≤x∧x≤255:=by simpa [Lit.wf,IntKind.min,IntKind.max,IntKind.signed,IntKind.bits] using h
 exact ⟨x.toNat,by omega,by omega⟩
set_option maxRecDepth 100000 in
theorem runsParseDeep (avs:List AV) (h:ArgsOf Tryz.prog 8 Tryz.f6.params.toList avs) (hb:AV.bulks avs≤1048576):∃st ds,runL A (.seqc 6 avs) []=some ⟨.ret,⟨[.bool true],ds⟩,st⟩:=by
 rw [Tryz.params6] at h
 simp only [ArgsOf] at h
 obtain ⟨a,_,rfl,h1,b,_,rfl,h2,rfl⟩:=h
 obtain ⟨x,rfl,hx⟩:=ofType_int Tryz.underlying5 h1
 obtain ⟨y,rfl,hy⟩:=ofType_int Tryz.underlying5 h2
 obtain ⟨n,rfl,hn⟩:=u8_nat hx
 obtain ⟨k,rfl,hk⟩:=u8_nat hy
 exact ⟨_,_,law6_run hn hk⟩
end Go.Proofs.YtgkhmmlemgikjaaGreatDoor
