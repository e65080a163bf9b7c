/- Part Jr. No condition. -/
import Derived.Test.YtefildelnccljaaGreatJh
import Derived.Test.YtefildelnccljaaGreatJp
import Derived.KernelRfl
set_option linter.unusedVariables false
set_option linter.unusedSimpArgs false
namespace Go.Proofs.YtefildelnccljaaGreat
open Go Ai
theorem fn33:A.fn 33=some a33:=by kernel_rfl
theorem prim33:A.prim 33=none:=by kernel_rfl
def src8:List UInt8:=[104,121,98,114,105,100,32,109,40,41,32,123,32,108,101,116,32,120,58,32,98,111,111,108,32,61,32,49,32,97,110,100,32,116,114,117,101,59,32,125]
def x8a:Ex:=⟨1,0,0,0,[],[],4294967296,[],.tight,27⟩
def x8b:Ex:=⟨2,0,0,0,[],[],1,[],.tight,33⟩
def x8c:Ex:=⟨13,0,1,0,[],[],0,[],.tight,29⟩
def i8:It:=⟨1,[120],2,2,0,[],.tight,[],[],13⟩
def d8:Dc:=⟨3,[109],[],.tight,[i8],.no,0,0,0⟩
def p8:Pg:=⟨[d8],.no,[x8a,x8b,x8c],.no⟩
set_option maxRecDepth 1000000 in
theorem parse8F:parseF src8 false=(p8,0,0,0):=by kernel_rfl
theorem p8_ok:p8.Ok:=by
 refine ⟨by decide,by decide,.no,.no,?_,?_⟩
 ·intro d hd
  simp [p8] at hd;subst hd
  refine ⟨by decide,by decide,by decide,.tight,.no,?_⟩
  intro i hi
  simp [d8] at hi;subst hi
  exact ⟨by decide,by decide,.tight⟩
 ·intro x hx
  simp [p8] at hx
  rcases hx with rfl | rfl | rfl<;>exact ⟨by decide,by decide,by decide,.tight⟩
theorem p8_declsF:(declsF p8 p8.ds 0 0).length≤4000000:=by decide
theorem p8_allT:(allT p8).length≤1000000:=by decide
theorem p8_faults:faultsT p8=[(5,27)]:=by decide
theorem alive8_call:runL A (.call 33 []) []=some ⟨.ret,⟨[.bool true],[]⟩,[]⟩:=by
 have hp:=parse_call (s:=src8) (by decide) false StOk.nil
 rw [parse8F] at hp
 obtain ⟨ap,ha,h35⟩:=faults35_call p8_ok p8_declsF p8_allT (by intro d hd;simp [p8] at hd;subst hd;decide) (st:=[.cells none [.lst 7 (p8.ds.map Dc.av) p8.dap,.lst 9 (p8.xs.map Ex.av) p8.xap],.cells none [.int .i64 0,.int .i64 0]]) rfl
 rw [p8_faults] at h35
 simp only [Pg.av] at hp h35
 generalize p8.ds.map Dc.av=D at *
 generalize p8.xs.map Ex.av=X at *
 simp only [src8] at hp
 refine (task_of_aw (N:=34) prim33 fn33 rfl rfl StOk.nil ?_).1
 intro e he ha' K hK
 simp [a33,he,hp,h35,fls,fl]
 exact hK _ _ _ (.inl rfl) (by simp) ⟨_,rfl,by simp [he]⟩
end Go.Proofs.YtefildelnccljaaGreat
namespace Go.Proofs.YtefildelnccljaaGreat
open Go Ai
theorem big_get {p:Pg}:∀{m i:Nat},bigF p i m=false→∀j,i≤j→j<i+m→(treeN p p.xs.length j [] 400).length<400
 | 0,i,_,j,h1,h2=>by omega
 | m+1,i,h,j,h1,h2=>by
  simp only [bigF,Bool.or_eq_false_iff,decide_eq_false_iff_not] at h
  by_cases hj:j=i
  ·subst hj;omega
  ·exact big_get h.2 j (by omega) (by omega)
theorem small8 {p:Pg} (h:great8 p=false):greatF p=false∧(may4 p=true→∀j,j<p.xs.length→(treeN p p.xs.length j [] 400).length<400):=by
 simp only [great8,Bool.or_eq_false_iff,Bool.and_eq_false_iff] at h
 refine ⟨h.1,fun hm j hj=>?_⟩
 rcases h.2 with h2 | h2
 ·rw [hm] at h2;cases h2
 ·exact big_get h2 j (by omega) (by omega)
end Go.Proofs.YtefildelnccljaaGreat
