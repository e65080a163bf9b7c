/- Part Ku. No condition. -/
import Derived.Test.YtgkhmmlemgikjaaGreatDoorEc
import Derived.Test.YtgkhmmlemgikjaaGreatDoorKe
import Derived.Test.YtgkhmmlemgikjaaGreatDoorKt
import Derived.Test.YtgkhmmlemgikjaaGreatDoorKd
import Derived.Test.YtgkhmmlemgikjaaGreatDoorRows
set_option linter.unusedVariables false
set_option linter.unusedSimpArgs false
namespace Go.Proofs.YtgkhmmlemgikjaaGreatDoor
open Go Ai
def ExV (x:Ex):Prop:=-9223372036854775808≤x.v∧x.v≤9223372036854775807
theorem i64_in {v:Int} (h:(Lit.int .i64 v).wf=true):-9223372036854775808≤v∧v≤9223372036854775807:=by
 simpa [Lit.wf,IntKind.min,IntKind.max,IntKind.signed,IntKind.bits] using h
theorem ap_still (b:Bool):Still (apOf b):=by cases b;exact .no;exact .tight
theorem cells3:Tryz.prog.cellsOf 3=1:=by kernel_rfl
theorem cells9:Tryz.prog.cellsOf 9=1:=by kernel_rfl
theorem cells33:Tryz.prog.cellsOf 33=7:=by kernel_rfl
theorem cells62:Tryz.prog.cellsOf 62=9:=by kernel_rfl
theorem cells36:Tryz.prog.cellsOf 36=9:=by kernel_rfl
theorem cells77:Tryz.prog.cellsOf 77=2:=by kernel_rfl
theorem bulks_mem {x:AV} {l:List AV} (h:x∈l):x.bulk≤AV.bulks l:=by
 induction l with
 | nil=>cases h
 | cons y l ih => rcases List.mem_cons.1 h with rfl | h
                  ·simp [AV.bulks]
                  ·have:=ih h;simp only [AV.bulks];omega
theorem bulk_pos (v:AV):1≤v.bulk:=by cases v<;>simp [AV.bulk]
theorem bulks_len (l:List AV):l.length≤AV.bulks l:=by
 induction l with
 | nil=>simp
 | cons x l ih=>have:=bulk_pos x;simp only [List.length_cons,AV.bulks];omega
set_option maxRecDepth 100000 in
theorem of_ints {n:Nat} {a:AV} (h:OfType Tryz.prog (n+2) 58 a):∃(l:List Int) (b:Bool),a=.lst 1 (ints l) (apOf b):=by
 obtain ⟨l,b,rfl,_⟩:=ofType_slice (f:=fun x=>AV.int .i64 x) (Q:=fun _=>True) Tryz.underlying58 cells3 (fun x hx=>by obtain ⟨c,rfl,_⟩:=ofType_int Tryz.underlying3 hx;exact ⟨c,rfl,trivial⟩) h
 exact ⟨l,b,rfl⟩
set_option maxRecDepth 100000 in
theorem of_strs {n:Nat} {a:AV} (h:OfType Tryz.prog (n+2) 34 a):∃(l:List Sx) (b:Bool),a=.lst 1 (strs l) (apOf b):=by
 obtain ⟨l,b,rfl,_⟩:=ofType_slice (f:=fun x=>AV.str x) (Q:=fun _=>True) Tryz.underlying34 cells9 (fun x hx=>by obtain ⟨c,rfl,_⟩:=ofType_str Tryz.underlying9 hx;exact ⟨c,rfl,trivial⟩) h
 exact ⟨l,b,rfl⟩
set_option maxRecDepth 100000 in
theorem of_expr {n:Nat} {a:AV} (h:OfType Tryz.prog (n+3) 62 a):∃x:Ex,a=x.av∧(x.av.bulk≤1048576→x.Ok)∧ExV x:=by
 obtain ⟨xs,rfl,hx⟩:=ofType_struct Tryz.underlying62 h
 simp only [List.map_cons,List.map_nil,ArgsOf] at hx
 obtain ⟨x1,_,rfl,h1,x2,_,rfl,h2,x3,_,rfl,h3,x4,_,rfl,h4,x5,_,rfl,h5,x6,_,rfl,h6,x7,_,rfl,h7,x8,_,rfl,h8,x9,_,rfl,h9,rfl⟩:=hx
 obtain ⟨k,rfl,_⟩:=ofType_int Tryz.underlying3 h1
 obtain ⟨a,rfl,_⟩:=ofType_int Tryz.underlying3 h2
 obtain ⟨b,rfl,_⟩:=ofType_int Tryz.underlying3 h3
 obtain ⟨c,rfl,_⟩:=ofType_int Tryz.underlying3 h4
 obtain ⟨nm,rfl,_⟩:=ofType_str Tryz.underlying9 h5
 obtain ⟨s,rfl,_⟩:=ofType_str Tryz.underlying9 h6
 obtain ⟨v,rfl,hv⟩:=ofType_int Tryz.underlying2 h7
 obtain ⟨l,ap,rfl⟩:=of_ints (n:=n) h8
 obtain ⟨p,rfl,_⟩:=ofType_int Tryz.underlying3 h9
 refine ⟨⟨k,a,b,c,nm,s,v,l,apOf ap,p⟩,rfl,fun hb=>?_,i64_in hv⟩
 have hl:=bulks_len (ints l)
 simp only [Ex.av,Ex.cs,AV.bulk,AV.bulks] at hb
 rw [ints_length] at hl
 exact ⟨by simp only;omega,by simp only;omega,by simp only;omega,ap_still _⟩
set_option maxRecDepth 100000 in
theorem of_item {n:Nat} {a:AV} (h:OfType Tryz.prog (n+3) 36 a):∃x:It,a=x.av∧(x.av.bulk≤1048576→x.Ok):=by
 obtain ⟨xs,rfl,hx⟩:=ofType_struct Tryz.underlying36 h
 simp only [List.map_cons,List.map_nil,ArgsOf] at hx
 obtain ⟨x1,_,rfl,h1,x2,_,rfl,h2,x3,_,rfl,h3,x4,_,rfl,h4,x5,_,rfl,h5,x6,_,rfl,h6,x7,_,rfl,h7,x8,_,rfl,h8,x9,_,rfl,h9,rfl⟩:=hx
 obtain ⟨k,rfl,_⟩:=ofType_int Tryz.underlying3 h1
 obtain ⟨nm,rfl,_⟩:=ofType_str Tryz.underlying9 h2
 obtain ⟨t,rfl,_⟩:=ofType_int Tryz.underlying3 h3
 obtain ⟨e,rfl,_⟩:=ofType_int Tryz.underlying3 h4
 obtain ⟨f,rfl,_⟩:=ofType_int Tryz.underlying3 h5
 obtain ⟨l,ap,rfl⟩:=of_strs (n:=n) h6
 obtain ⟨s,rfl,_⟩:=ofType_str Tryz.underlying9 h7
 obtain ⟨x,rfl,_⟩:=ofType_str Tryz.underlying9 h8
 obtain ⟨p,rfl,_⟩:=ofType_int Tryz.underlying3 h9
 refine ⟨⟨k,nm,t,e,f,l,apOf ap,s,x,p⟩,rfl,fun hb=>?_⟩
 have hl:=bulks_len (strs l)
 simp only [It.av,It.cs,AV.bulk,AV.bulks] at hb
 rw [strs_length] at hl
 exact ⟨by simp only;omega,by simp only;omega,ap_still _⟩
set_option maxRecDepth 100000 in
theorem of_param {n:Nat} {a:AV} (h:OfType Tryz.prog (n+3) 77 a):∃x:Pm,a=x.av∧True:=by
 obtain ⟨xs,rfl,hx⟩:=ofType_struct Tryz.underlying77 h
 simp only [List.map_cons,List.map_nil,ArgsOf] at hx
 obtain ⟨x1,_,rfl,h1,x2,_,rfl,h2,rfl⟩:=hx
 obtain ⟨nm,rfl,_⟩:=ofType_str Tryz.underlying9 h1
 obtain ⟨t,rfl,_⟩:=ofType_int Tryz.underlying3 h2
 exact ⟨⟨nm,t⟩,rfl,trivial⟩
set_option maxRecDepth 100000 in
theorem of_decl {n:Nat} {a:AV} (h:OfType Tryz.prog (n+5) 33 a):∃x:Dc,a=x.av∧(x.av.bulk≤1048576→x.Ok):=by
 obtain ⟨xs,rfl,hx⟩:=ofType_struct Tryz.underlying33 h
 simp only [List.map_cons,List.map_nil,ArgsOf] at hx
 obtain ⟨x1,_,rfl,h1,x2,_,rfl,h2,x3,_,rfl,h3,x4,_,rfl,h4,x5,_,rfl,h5,x6,_,rfl,h6,x7,_,rfl,h7,rfl⟩:=hx
 obtain ⟨k,rfl,_⟩:=ofType_int Tryz.underlying3 h1
 obtain ⟨nm,rfl,_⟩:=ofType_str Tryz.underlying9 h2
 obtain ⟨ps,b1,rfl,_⟩:=ofType_slice (f:=Pm.av) (Q:=fun _=>True) Tryz.underlying30 cells77 (fun x hx=>of_param (n:=n) hx) h3
 obtain ⟨its,b2,rfl,hi⟩:=ofType_slice (f:=It.av) (Q:=fun x=>x.av.bulk≤1048576→x.Ok) Tryz.underlying31 cells36 (fun x hx=>of_item (n:=n) hx) h4
 obtain ⟨t,rfl,_⟩:=ofType_int Tryz.underlying3 h5
 obtain ⟨e,rfl,_⟩:=ofType_int Tryz.underlying3 h6
 obtain ⟨p,rfl,_⟩:=ofType_int Tryz.underlying3 h7
 refine ⟨⟨k,nm,ps,apOf b1,its,apOf b2,t,e,p⟩,rfl,fun hb=>?_⟩
 have hl1:=bulks_len (ps.map Pm.av)
 have hl2:=bulks_len (its.map It.av)
 simp only [Dc.av,Dc.cs,AV.bulk,AV.bulks] at hb
 rw [List.length_map] at hl1 hl2
 refine ⟨by simp only;omega,by simp only;omega,by simp only;omega,ap_still _,ap_still _,fun i him=>hi i him ?_⟩
 dsimp only at him
 have:=bulks_mem (l:=its.map It.av) (List.mem_map_of_mem (f:=It.av) him)
 omega
set_option maxRecDepth 100000 in
theorem of_prog {a:AV} (h:OfType Tryz.prog 8 25 a):∃p:Pg,a=p.av∧(p.av.bulk≤1048576→p.Ok)∧∀x∈p.xs,ExV x:=by
 obtain ⟨xs,rfl,hx⟩:=ofType_struct Tryz.underlying25 h
 simp only [List.map_cons,List.map_nil,ArgsOf] at hx
 obtain ⟨x1,_,rfl,h1,x2,_,rfl,h2,rfl⟩:=hx
 obtain ⟨ds,b1,rfl,hd⟩:=ofType_slice (f:=Dc.av) (Q:=fun x=>x.av.bulk≤1048576→x.Ok) Tryz.underlying22 cells33 (fun x hx=>of_decl (n:=1) hx) h1
 obtain ⟨xs,b2,rfl,hx⟩:=ofType_slice (f:=Ex.av) (Q:=fun x=>(x.av.bulk≤1048576→x.Ok)∧ExV x) Tryz.underlying23 cells62 (fun x hx=>of_expr (n:=3) hx) h2
 refine ⟨⟨ds,apOf b1,xs,apOf b2⟩,rfl,fun hb=>?_,fun x hm=>(hx x hm).2⟩
 have hl1:=bulks_len (ds.map Dc.av)
 have hl2:=bulks_len (xs.map Ex.av)
 simp only [Pg.av,AV.bulk,AV.bulks] at hb
 rw [List.length_map] at hl1 hl2
 refine ⟨by simp only;omega,by simp only;omega,ap_still _,ap_still _,fun d hdm=>hd d hdm ?_,fun x hxm=>(hx x hxm).1 ?_⟩
 ·dsimp only at hdm;have:=bulks_mem (l:=ds.map Dc.av) (List.mem_map_of_mem (f:=Dc.av) hdm);omega
 ·dsimp only at hxm;have:=bulks_mem (l:=xs.map Ex.av) (List.mem_map_of_mem (f:=Ex.av) hxm);omega
end Go.Proofs.YtgkhmmlemgikjaaGreatDoor
namespace Go.Proofs.YtgkhmmlemgikjaaGreatDoor
open Go Ai
theorem short_of {p:Pg} (h:p.av.bulk≤1048576):∀d∈p.ds,Short d:=by
 intro d hd
 have h1:=bulks_mem (l:=p.ds.map Dc.av) (List.mem_map_of_mem (f:=Dc.av) hd)
 simp only [Pg.av,AV.bulk,AV.bulks] at h
 have h2:d.av.bulk≤1048576:=by omega
 simp only [Dc.av,Dc.cs,AV.bulk,AV.bulks] at h2
 refine ⟨by omega,fun x hx=>?_,fun x hx=>?_⟩
 ·have h3:=bulks_mem (l:=d.ps.map Pm.av) (List.mem_map_of_mem (f:=Pm.av) hx)
  simp only [Pm.av,AV.bulk,AV.bulks] at h3
  omega
 ·have h3:=bulks_mem (l:=d.its.map It.av) (List.mem_map_of_mem (f:=It.av) hx)
  have h4:x.av.bulk≤1048576:=by omega
  simp only [It.av,It.cs,AV.bulk,AV.bulks] at h4
  refine ⟨by omega,by omega,by omega,fun s hs=>?_⟩
  have h5:=bulks_mem (l:=strs x.ss) (x:=.str s) (List.mem_map_of_mem (f:=AV.str) hs)
  simp only [AV.bulk] at h5
  omega
set_option maxRecDepth 100000 in
theorem runsShowTrees (avs:List AV) (h:ArgsOf Tryz.prog 8 Tryz.f3.params.toList avs) (hb:AV.bulks avs≤1048576):∃st ds,runL A (.seqc 3 avs) []=some ⟨.ret,⟨[.bool true],ds⟩,st⟩:=by
 rw [Tryz.params3] at h
 simp only [ArgsOf] at h
 obtain ⟨a,_,rfl,h1,b,_,rfl,h2,rfl⟩:=h
 obtain ⟨p,rfl,hp,hv⟩:=of_prog h1
 obtain ⟨e,rfl,_⟩:=ofType_int Tryz.underlying3 h2
 have hb':p.av.bulk≤1048576:=by simp only [AV.bulks] at hb;omega
 exact ⟨_,_,law3_run (hp hb') hv (short_of hb') e⟩
end Go.Proofs.YtgkhmmlemgikjaaGreatDoor
namespace Go.Proofs.YtgkhmmlemgikjaaGreatDoor
open Go Ai
theorem glOk {W:World} {laid:List (String×DataW Unit)} (_:laidMetH Tryz.prog laid W):GlOk gl (J0 W):=by
 intro g v h;cases h
theorem bwOk {W:World} (h:laidMetH Tryz.prog Rows.showTreesUptoRow.laid W):Bw W :=
 tab_of_laid (g:=3) (t:=211) (e:=143) (m:=20) (by kernel_rfl) (by kernel_rfl) (by kernel_rfl) Tryz.underlying211 Tryz.underlying143 (by kernel_rfl) (by kernel_rfl) h
end Go.Proofs.YtgkhmmlemgikjaaGreatDoor
