/- Part Ki. No condition. -/
import Derived.Test.YtgkhmmlemgikjaaGreatDoorKf
set_option linter.unusedVariables false
set_option linter.unusedSimpArgs false
namespace Go.Proofs.YtgkhmmlemgikjaaGreatDoor.Lx
open Go Ai Go.Proofs.YtgkhmmlemgikjaaGreatDoor
attribute [simp] tmodN
theorem runL_pure {f:FuncId} {h:List AV→Option AV} {args:List AV} {v:AV} {st:St} (hp:A.prim f=some (pureP h)) (hv:h args=some v):runL A (.call f args) st=some ⟨.ret,⟨[v],[]⟩,st⟩:=by
 rw [runL_eq];simp only [layer,hp,pureP,hv,Option.map_some]
def set256 (p:Nat→Bool):List AV:=(List.range 256).map fun k=>AV.bool (p k)
theorem set256_length (p:Nat→Bool):(set256 p).length=256:=by simp [set256]
theorem set256_set (p:Nat→Bool) {c:Nat}:(set256 p).set c (.bool true)=set256 fun k=>k == c || p k:=by
 apply List.ext_getElem?
 intro i
 simp only [set256,List.getElem?_set,List.length_map,List.length_range,List.getElem?_map,List.getElem?_range]
 by_cases h:c=i
 ·subst h
  by_cases h2:c<256
  ·simp [h2,List.getElem?_range]
  ·simp [h2]
 ·have:¬i=c:=fun e=>h e.symm
  by_cases h2:i<256
  ·simp [h,h2,this,List.getElem?_range]
  ·simp [h,h2,this]
theorem set256_get (p:Nat→Bool) {c:Nat} (h:c<256):(set256 p)[c]?=some (.bool (p c)):=by
 simp [set256,h]
theorem set256_cell (p:Nat→Bool):(set256 p).all AV.isCell=true:=by
 simp [set256,AV.isCell]
theorem putCells_all:∀(vs pre cs:List AV),cs.length=vs.length→putCells (pre++cs) pre.length vs=pre++vs
 | [],pre,cs,h=>by
  have:cs=[]:=List.eq_nil_of_length_eq_zero h
  subst this;rfl
 | v::vs,pre,[],h=>by simp at h
 | v::vs,pre,c::cs,h=>by
  have:=putCells_all vs (pre++[v]) cs (by simpa using h)
  simp at this
  simp [putCells,this]
theorem putCells_full {vs cs:List AV} (h:cs.length=vs.length):putCells cs 0 vs=vs:=putCells_all vs [] cs h
theorem set256_put (p q:Nat→Bool):putCells (set256 p) 0 (set256 q)=set256 q:=putCells_full (by simp [set256_length])
theorem set256_stills (p:Nat→Bool) (n:Nat) (st:St):AV.stills n st (set256 p)=some (set256 p):=by
 refine stills_of fun x hx=>?_
 simp only [set256,List.mem_map] at hx
 obtain ⟨k,_,rfl⟩:=hx
 rfl
def b36:AFunc:=⟨21,[.cell 2 256 true,.tmp 3],
 (.seq (.reg [⟨(some 2),.new (.agg (set256 fun _=>false)) true none,none⟩,
 ⟨(some 3),.mov (.k (.bool false)),none⟩])
 (.seq (.seq (.reg [⟨(some 4),.mov (.k (.int .i64 0)),none⟩])
 (.block 0 (.loop a175_0)))
 (.seq (.reg [⟨(some 20),.load 256 true (.t 2),none⟩,
 ⟨none,.store 256 (.t 2) (.t 20),none⟩,
 ⟨(some 3),.mov (.k (.bool true)),none⟩])
 .ret))),
 [],false⟩
theorem fn175:A.fn 175=some b36:=by kernel_rfl
theorem prim175:A.prim 175=none:=by kernel_rfl
def w175_0:List Nat:=a175_0.writes
attribute [simp] set256_length set256_put set256_cell set256_stills
theorem take256' (p:Nat→Bool):List.take 256 (set256 p)=set256 p:=List.take_of_length_le (by simp)
theorem cell256 (p:Nat→Bool):(∀x,x∈set256 p→x.isCell=true)=True:=eq_true (by have:=set256_cell p;rwa [List.all_eq_true] at this)
attribute [simp] take256' cell256
theorem take256 (p:Nat→Bool):takeVar 256 true (set256 p) 0=some (.agg (set256 p)):=by
 simp [takeVar,List.take_of_length_le]
theorem set_call {s:List UInt8} (hs:∀c∈s,c.toNat<128) (hl:s.length≤1000) {st:St} (hst:StOk st) :
  runL A (.call 175 [.str s]) st=some ⟨.ret,⟨[.tup [.agg (set256 fun k=>s.any fun c=>c.toNat == k),.bool true]],[]⟩,st⟩:=by
 refine (task_of_aw (N:=21) prim175 fn175 rfl rfl hst ?_).1
 intro e he ha K hK
 have a0:=ha 0
 clear ha
 simp at a0
 simp [b36,he,a0]
 refine aw_loop (W:=w175_0) rfl (fun m e ds st'=>ds=[]∧∃i:Nat,i+m=s.length∧AX.ev e (.t 4)=.int .i64 i∧st'=st++[.cells none (set256 fun k=>(s.take i).any fun c=>c.toNat == k)]) s.length
  ⟨rfl,0,by simp,by simp [he],by simp⟩ ?_
 rintro m e1 ds st' hs' ⟨rfl,i,hm,g4,rfl⟩ K1 kn kx
 have he1:e1.length=21:=by simp [hs'.1,he]
 have g0:=hs'.ev 0 rfl (v:=.str s) (by simp [a0])
 have g2:=hs'.ev 2 rfl (v:=.ptr st.length 0) (by simp [he])
 cases m with
 | zero =>
  have:i=s.length:=by omega
  subst this
  simp [a175_0,g0,g4,he1]
  refine kx _ _ _ _ nofun fun hs'=>?_
  have g2':e1[2]'(by omega)=.ptr st.length 0:=by simpa [AX.ev,List.getD_eq_getElem?_getD,he1] using g2
  simp [g2,he1,take256,AV.cells]
  exact hK _ _ _ (.inl rfl) (by simp) ⟨[.agg (set256 fun k=>s.any fun c=>c.toNat == k),.bool true],by simp [b36,resultsA,resA,he1,g2',take256],by simp [AV.still,AV.stills,oneOf]⟩
 | succ m =>
  have hi:i<s.length:=by omega
  have hc:s[i].toNat<128:=hs _ (List.getElem_mem hi)
  obtain ⟨c,hcc⟩:∃c:Nat,c=s[i].toNat:=⟨_,rfl⟩
  have w1:IntKind.i64.wrap ((i:Int)+1)=(i:Int)+1:=wrap_i64 (by omega) (by omega)
  have hc2:¬(128:Int)≤(c:Int):=by omega
  have hc2':¬128≤c:=by omega
  have hc3:(c:Int)<256:=by omega
  have hc3':c<256:=by omega
  have hc4:c≤255:=by omega
  have hn:¬(i:Int)<0:=by omega
  have hcn:¬(c:Int)<0:=by omega
  simp [a175_0,g0,g2,g4,he1,hi,w1,byteV,←hcc,hc2,hc2',hc3,hc3',hc4,hn,hcn,putCells,set256_set]
  refine kn m _ _ _ (by omega) ⟨rfl,i+1,by omega,by simp [he1],?_⟩
  congr 3
  congr 1
  funext k
  have ht:s.take (i+1)=s.take i++[s[i]]:=by simp
  rw [ht,List.any_append,Bool.or_comm]
  simp only [List.any_cons,List.any_nil,Bool.or_false]
  rw [←hcc]
  congr 1
  exact Bool.eq_iff_iff.2 ⟨fun h=>by rw [beq_iff_eq] at h ⊢;exact h.symm,fun h=>by rw [beq_iff_eq] at h ⊢;exact h.symm⟩
theorem fn190:A.fn 190=some a190:=by kernel_rfl
theorem prim190:A.prim 190=none:=by kernel_rfl
theorem has_call {p:Nat→Bool} {c:UInt8} {st:St} {r:Nat} {ty:Option TypeId} (hr:st[r]?=some (.cells ty (set256 p))) :
  runL A (.call 190 [.ptr r 0,byteV c]) st=some ⟨.ret,⟨[.bool (p c.toNat)],[]⟩,st⟩:=by
 refine (task_of_aw_keep (N:=10) prim190 fn190 rfl rfl ?_).1
 intro e he ha K hK
 have a0:=ha 0
 have a1:=ha 1
 clear ha
 simp [byteV] at a0 a1
 have hc:=c.toNat_lt
 have hc1:(c.toNat:Int)<256:=by omega
 have hn:¬(c.toNat:Int)<0:=by omega
 have hg:=set256_get p hc
 simp [a190,he,a0,a1,hc1,hn,hr,takeVar,hg]
 exact hK _ _ (.inl rfl) ⟨_,rfl,by simp [he]⟩
theorem fn176:A.fn 176=some a176:=by kernel_rfl
theorem prim176:A.prim 176=none:=by kernel_rfl
theorem fn224:A.fn 224=some a224:=by kernel_rfl
theorem prim224:A.prim 224=none:=by kernel_rfl
def w176_0:List Nat:=a176_0.writes
def w224_0:List Nat:=a224_0.writes
def cutR (p:Nat→Bool) (s:List UInt8):List UInt8:=(s.reverse.dropWhile fun c=>p c.toNat).reverse
def cutL (p:Nat→Bool) (s:List UInt8):List UInt8:=s.dropWhile fun c=>p c.toNat
theorem cutR_snoc (p:Nat→Bool) (s:List UInt8) (c:UInt8):cutR p (s++[c])=if p c.toNat then cutR p s else s++[c]:=by
 simp only [cutR,List.reverse_append,List.reverse_cons,List.reverse_nil,List.nil_append,List.singleton_append,List.dropWhile_cons]
 split<;>simp
theorem right_call {p:Nat→Bool} {s:List UInt8} (hs:s.length≤1000000000) {st:St} {r:Nat} {ty:Option TypeId} (hr:st[r]?=some (.cells ty (set256 p))) :
  runL A (.call 176 [.str s,.ptr r 0]) st=some ⟨.ret,⟨[.str (cutR p s)],[]⟩,st⟩:=by
 refine (task_of_aw_keep (N:=22) prim176 fn176 rfl rfl ?_).1
 intro e he ha K hK
 have a0:=ha 0
 have a1:=ha 1
 clear ha
 simp at a0 a1
 simp [a176,he,a0,a1]
 refine aw_loop (W:=w176_0) rfl (fun m e ds st'=>ds=[]∧st'=st∧∃t:List UInt8,t.length=m∧m≤s.length∧cutR p t=cutR p s∧AX.ev e (.t 0)=.str t) s.length ⟨rfl,rfl,s,rfl,by simp,rfl,by simp [a0]⟩ ?_
 rintro m e1 ds st' hs' ⟨rfl,rfl,t,htm,hms,ht,g0⟩ K1 kn kx
 have he1:e1.length=22:=by simp [hs'.1,he]
 have g1:=hs'.ev 1 rfl (v:=.ptr r 0) (by simp [a1])
 rcases List.eq_nil_or_concat t with rfl | ⟨t',c,hfc⟩
 ·simp [a176_0,g0,he1]
  refine kx _ _ _ _ nofun fun hs'=>?_
  simp [g0,he1]
  exact hK _ _ (.inl rfl) ⟨_,rfl,by simp [he1,←ht];rfl⟩
 ·rw [List.concat_eq_append] at hfc
  subst hfc
  simp at htm
  have w0:IntKind.i64.wrap (t'.length:Int)=(t'.length:Int):=wrap_i64 (by omega) (by omega)
  have w1:IntKind.i64.wrap ((t'.length:Int)+1-1)=(t'.length:Int):=by rw [wrap_i64 (by omega) (by omega)];omega
  have hh:=has_call (c:=c) hr
  simp [byteV] at hh
  have hle:(t'.length:Int)≤(t'.length:Int)+1:=by omega
  rw [cutR_snoc] at ht
  by_cases hp:p c.toNat=true
  ·rw [hp] at hh
   rw [if_pos hp] at ht
   simp [a176_0,g0,g1,he1,w0,w1,byteV,hh,bound,hle]
   exact kn t'.length _ _ _ (by omega) ⟨rfl,rfl,t',rfl,by omega,ht,by simp [he1]⟩
  ·rw [if_neg hp] at ht
   rw [Bool.not_eq_true] at hp
   rw [hp] at hh
   simp [a176_0,g0,g1,he1,w0,w1,byteV,hh]
   refine kx _ _ _ _ nofun fun hs'=>?_
   simp [g0,he1]
   exact hK _ _ (.inl rfl) ⟨_,rfl,by simp [he1,←ht]⟩
theorem left_call {p:Nat→Bool} {s:List UInt8} (hs:s.length≤1000000000) {st:St} {r:Nat} {ty:Option TypeId} (hr:st[r]?=some (.cells ty (set256 p))) :
  runL A (.call 224 [.str s,.ptr r 0]) st=some ⟨.ret,⟨[.str (cutL p s)],[]⟩,st⟩:=by
 refine (task_of_aw_keep (N:=16) prim224 fn224 rfl rfl ?_).1
 intro e he ha K hK
 have a0:=ha 0
 have a1:=ha 1
 clear ha
 simp at a0 a1
 simp [a224,he,a0,a1]
 refine aw_loop (W:=w224_0) rfl (fun m e ds st'=>ds=[]∧st'=st∧∃t:List UInt8,t.length=m∧m≤s.length∧cutL p t=cutL p s∧AX.ev e (.t 0)=.str t) s.length ⟨rfl,rfl,s,rfl,by simp,rfl,by simp [a0]⟩ ?_
 rintro m e1 ds st' hs' ⟨rfl,rfl,t,htm,hms,ht,g0⟩ K1 kn kx
 have he1:e1.length=16:=by simp [hs'.1,he]
 have g1:=hs'.ev 1 rfl (v:=.ptr r 0) (by simp [a1])
 cases t with
 | nil =>
  simp [a224_0,g0,he1]
  refine kx _ _ _ _ nofun fun hs'=>?_
  simp [g0,he1]
  exact hK _ _ (.inl rfl) ⟨_,rfl,by simp [he1,←ht];rfl⟩
 | cons c t' =>
  simp at htm
  have hh:=has_call (c:=c) hr
  simp [byteV] at hh
  have hle:(1:Int)≤(t'.length:Int)+1:=by omega
  have hpos:(0:Int)<(t'.length:Int)+1:=by omega
  by_cases hp:p c.toNat=true
  ·rw [hp] at hh
   simp only [cutL,List.dropWhile_cons,hp,if_true] at ht
   simp [a224_0,g0,g1,he1,byteV,hh,bound,hle,hpos]
   exact kn t'.length _ _ _ (by omega) ⟨rfl,rfl,t',rfl,by omega,ht,by simp [he1]⟩
  ·rw [Bool.not_eq_true] at hp
   rw [hp] at hh
   simp [cutL,List.dropWhile_cons,hp] at ht
   simp [a224_0,g0,g1,he1,byteV,hh,hpos]
   refine kx _ _ _ _ nofun fun hs'=>?_
   simp [g0,he1]
   exact hK _ _ (.inl rfl) ⟨_,rfl,by simp [he1,ht,cutL]⟩
def trimP (p:Nat→Bool) (s:List UInt8):List UInt8:=cutL p (cutR p s)
theorem cutR_prefix (p:Nat→Bool) (s:List UInt8):(cutR p s).length≤s.length:=by
 simp only [cutR,List.length_reverse]
 have:=(List.dropWhile_sublist (fun c:UInt8=>p c.toNat) (l:=s.reverse)).length_le
 simpa using this
theorem dropWhile_nil {α} {q:α→Bool}:∀{l:List α},l.dropWhile q=[]↔l.all q=true
 | []=>by simp
 | x::l=>by
  rw [List.dropWhile_cons]
  by_cases h:q x=true
  ·simp [h,dropWhile_nil]
  ·simp [h]
theorem dropWhile_head {α} {q:α→Bool}:∀{l:List α} {x:α} {r:List α},l.dropWhile q=x::r→q x=false
 | [],_,_,h=>by simp at h
 | y::l,x,r,h=>by
  rw [List.dropWhile_cons] at h
  split at h
  ·exact dropWhile_head h
  ·rename_i hy
   cases h
   simpa using hy
theorem trimP_nil (p:Nat→Bool) (s:List UInt8):trimP p s=[]↔s.all (fun c=>p c.toNat)=true:=by
 unfold trimP cutL
 rw [dropWhile_nil]
 constructor
 ·intro h
  cases hr:s.reverse.dropWhile (fun c=>p c.toNat) with
  | nil =>
   rw [dropWhile_nil] at hr
   simpa using hr
  | cons x r =>
   have hx:=dropWhile_head hr
   simp [cutR,hr] at h
   rw [h.2] at hx;cases hx
 ·intro h
  have:cutR p s=[]:=by
   unfold cutR
   rw [List.reverse_eq_nil_iff,dropWhile_nil];simpa using h
  rw [this];rfl
def b47:AFunc:=⟨43,[.tmp 4],
 (.seq (.reg [⟨(some 4),.mov (.k (.str [])),none⟩])
 (.seq (.seq (.reg [⟨(some 7),.mov (.t 0),none⟩,
 ⟨(some 8),.bin .eql (.t 7) (.k (.str [])),none⟩,
 ⟨(some 9),.mov (.t 8),none⟩,
 ⟨(some 10),.mov (.t 1),some (9,false)⟩,
 ⟨(some 11),.bin .eql (.t 10) (.k (.str [])),some (9,false)⟩,
 ⟨(some 12),.pick (.t 9) (.k (.bool true)) (.t 11),none⟩])
 (.cond (.t 12) (.seq (.reg [⟨(some 13),.mov (.t 0),none⟩,
 ⟨(some 4),.mov (.t 13),none⟩])
 .ret)
 .skip))
 (.seq (.seq (.reg [⟨(some 14),.mov (.t 1),none⟩,
 ⟨(some 15),.lenStr (.t 14),none⟩,
 ⟨(some 16),.bin .eql (.t 15) (.k (.int .i64 1)),none⟩,
 ⟨(some 17),.mov (.t 16),none⟩,
 ⟨(some 18),.mov (.t 1),some (17,true)⟩,
 ⟨(some 19),.indexStr (.t 18) (.k (.int .i64 0)),some (17,true)⟩,
 ⟨(some 20),.bin .lss (.t 19) (.k (.int .u8 128)),some (17,true)⟩,
 ⟨(some 21),.pick (.t 17) (.t 20) (.k (.bool false)),none⟩])
 (.cond (.t 21) (.seq (.plan [⟨0,⟨(some 22),.mov (.t 0),none⟩,[]⟩,
 ⟨1,⟨(some 23),.mov (.t 1),none⟩,[]⟩,
 ⟨2,⟨(some 24),.indexStr (.t 23) (.k (.int .i64 0)),none⟩,[]⟩,
 ⟨4,⟨(some 26),.mov (.t 1),none⟩,[]⟩,
 ⟨5,⟨(some 27),.indexStr (.t 26) (.k (.int .i64 0)),none⟩,[]⟩,
 ⟨3,⟨(some 25),.call (.k (.func (.func 174) [] [])) [(.t 22),(.t 24)],none⟩,[]⟩,
 ⟨6,⟨(some 28),.call (.k (.func (.func 223) [] [])) [(.t 25),(.t 27)],none⟩,[]⟩,
 ⟨7,⟨(some 4),.mov (.t 28),none⟩,[]⟩])
 .ret)
 .skip))
 (.seq (.seq (.reg [⟨(some 30),.mov (.t 1),none⟩,
 ⟨(some 31),.call (.k (.func (.func 175) [] [])) [(.t 30)],none⟩,
 ⟨(some 29),.mov (.t 31),none⟩,
 ⟨(some 32),.extract (.t 29) 0,none⟩,
 ⟨(some 33),.extract (.t 29) 1,none⟩,
 ⟨(some 5),.new (.agg (set256 fun _=>false)) true none,none⟩,
 ⟨none,.store 256 (.t 5) (.t 32),none⟩,
 ⟨(some 6),.mov (.t 33),none⟩])
 (.seq (.reg [⟨(some 34),.mov (.t 6),none⟩])
 (.cond (.t 34) (.seq (.reg [⟨(some 35),.mov (.t 0),none⟩,
 ⟨(some 36),.call (.k (.func (.func 176) [] [])) [(.t 35),(.t 5)],none⟩,
 ⟨(some 37),.call (.k (.func (.func 224) [] [])) [(.t 36),(.t 5)],none⟩,
 ⟨(some 4),.mov (.t 37),none⟩])
 .ret)
 .skip)))
 (.seq (.reg [⟨(some 38),.mov (.t 0),none⟩,
 ⟨(some 39),.mov (.t 1),none⟩,
 ⟨(some 40),.call (.k (.func (.func 177) [] [])) [(.t 38),(.t 39)],none⟩,
 ⟨(some 41),.mov (.t 1),none⟩,
 ⟨(some 42),.call (.k (.func (.func 225) [] [])) [(.t 40),(.t 41)],none⟩,
 ⟨(some 4),.mov (.t 42),none⟩])
 .ret))))),
 [],false⟩
theorem fn210:A.fn 210=some b47:=by kernel_rfl
theorem prim210:A.prim 210=none:=by kernel_rfl
theorem ten_set:(fun k=>([48,49,50,51,52,53,54,55,56,57]:List UInt8).any fun c=>c.toNat == k)=digP:=by
 funext k
 rw [Bool.eq_iff_iff]
 simp [digP]
 omega
theorem trim10_call {s:List UInt8} (hs:s.length≤1000000000) {st:St} (hst:StOk st) :
  runL A (.call 210 [.str s,.str [48,49,50,51,52,53,54,55,56,57]]) st=some ⟨.ret,⟨[.str (trimP digP s)],[]⟩,st⟩:=by
 refine (task_of_aw (N:=43) prim210 fn210 rfl rfl hst ?_).1
 intro e he ha K hK
 have a0:=ha 0
 have a1:=ha 1
 clear ha
 simp at a0 a1
 cases s with
 | nil =>
  simp [b47,he,a0,a1]
  exact hK _ _ _ (.inl rfl) (by simp) ⟨_,rfl,by simp [he,trimP,cutL,cutR]⟩
 | cons c s =>
  have hset:=set_call (s:=[48,49,50,51,52,53,54,55,56,57]) (by decide) (by decide) hst
  rw [ten_set] at hset
  have hr:=right_call (p:=digP) (s:=c::s) hs (st:=st++[.cells none (set256 digP)]) (r:=st.length) (ty:=none) (by simp)
  have hl:=left_call (p:=digP) (s:=cutR digP (c::s)) (by have:=cutR_prefix digP (c::s);omega) (st:=st++[.cells none (set256 digP)]) (r:=st.length) (ty:=none) (by simp)
  simp [b47,he,a0,a1,hset,hr,hl]
  exact hK _ _ _ (.inl rfl) (by simp) ⟨_,rfl,by simp [he,trimP]⟩
theorem cutAt_none {c:UInt8}:∀{s:List UInt8},cutAt c s=none→Lib.indexByte s c=-1∧c ∉ s
 | [],_=>⟨rfl,by simp⟩
 | b::l,h=>by
  unfold cutAt at h
  split at h
  ·cases h
  ·rename_i hb
   have:=cutAt_none (s:=l) (by simpa using h)
   refine ⟨by simp [Lib.indexByte,hb,this.1],?_⟩
   simp only [List.mem_cons,not_or]
   exact ⟨fun e=>hb e.symm,this.2⟩
theorem prim222:A.prim 222=some (pureP indexOneA):=rfl
theorem fn209:A.fn 209=some a209:=by kernel_rfl
theorem prim209:A.prim 209=none:=by kernel_rfl
theorem fn195:A.fn 195=some a195:=by kernel_rfl
theorem prim195:A.prim 195=none:=by kernel_rfl
theorem fn196:A.fn 196=some a196:=by kernel_rfl
theorem prim196:A.prim 196=none:=by kernel_rfl
theorem fn179:A.fn 179=some a179:=by kernel_rfl
theorem prim179:A.prim 179=none:=by kernel_rfl
theorem index_call {s:List UInt8} {c:UInt8} {st:St}:runL A (.call 222 [.str s,.str [c]]) st=some ⟨.ret,⟨[.int .i64 (Lib.indexByte s c)],[]⟩,st⟩ :=
 runL_pure prim222 rfl
def cutAv (c:UInt8) (s:List UInt8):AV:=match cutAt c s with
 | none=>.tup [.str s,.str [],.bool false]
 | some (x,y)=>.tup [.str x,.str y,.bool true]
theorem cut46_call {s:List UInt8} {c:UInt8} (hs:s.length≤1000000000) {st:St} (hst:StOk st) :
  runL A (.call 209 [.str s,.str [c]]) st=some ⟨.ret,⟨[cutAv c s],[]⟩,st⟩:=by
 refine (task_of_aw (N:=23) prim209 fn209 rfl rfl hst ?_).1
 intro e he ha K hK
 have a0:=ha 0
 have a1:=ha 1
 clear ha
 simp at a0 a1
 have hi:=index_call (s:=s) (c:=c) (st:=st)
 cases hc:cutAt c s with
 | none =>
  obtain ⟨h1,_⟩:=cutAt_none hc
  rw [h1] at hi
  simp [a209,he,a0,a1,hi]
  exact hK _ _ _ (.inl rfl) (by simp) ⟨_,rfl,by simp [he,cutAv,hc,AV.still,AV.stills]⟩
 | some p =>
  obtain ⟨x,y⟩:=p
  obtain ⟨h1,h2,_⟩:=cutAt_some hc
  rw [h1] at hi
  have hl:x.length+1+y.length=s.length:=by rw [h2];simp;omega
  have hl':x.length≤s.length:=by omega
  have hl1:x.length+1≤s.length:=by omega
  have hl1':(x.length:Int)+1≤(s.length:Int):=by omega
  have hp:(0:Int)≤(x.length:Int)+1:=by omega
  have w1:IntKind.i64.wrap ((x.length:Int)+1)=(x.length:Int)+1:=wrap_i64 (by omega) (by omega)
  have ht:((x.length:Int)+1).toNat=x.length+1:=by omega
  have e1:s.take x.length=x:=by rw [h2];simp
  have e2:s.drop (x.length+1)=y:=by rw [h2,←List.drop_drop];simp
  simp [a209,he,a0,a1,hi,bound,hl',hl1,hl1',hp,w1,ht,e1,e2]
  exact hK _ _ _ (.inl rfl) (by simp) ⟨_,rfl,by simp [he,cutAv,hc,AV.still,AV.stills]⟩
theorem cut_call {s:List UInt8} {c:UInt8} (hs:s.length≤1000000000) {st:St} (hst:StOk st) :
  runL A (.call 195 [.str s,.str [c]]) st=some ⟨.ret,⟨[cutAv c s],[]⟩,st⟩:=by
 refine (task_of_aw (N:=13) prim195 fn195 rfl rfl hst ?_).1
 intro e he ha K hK
 have a0:=ha 0
 have a1:=ha 1
 clear ha
 simp at a0 a1
 have hi:=cut46_call (c:=c) hs hst
 cases hc:cutAt c s with
 | none =>
  simp [cutAv,hc] at hi
  simp [a195,he,a0,a1,hi]
  exact hK _ _ _ (.inl rfl) (by simp) ⟨_,rfl,by simp [he,cutAv,hc,AV.still,AV.stills]⟩
 | some p =>
  obtain ⟨x,y⟩:=p
  simp [cutAv,hc] at hi
  simp [a195,he,a0,a1,hi]
  exact hK _ _ _ (.inl rfl) (by simp) ⟨_,rfl,by simp [he,cutAv,hc,AV.still,AV.stills]⟩
theorem digits_call {s:List UInt8} {n:Nat} (hs:s.length≤1000000000) {st:St} (hst:StOk st) :
  runL A (.call 196 [.str s,.int .i64 n]) st=some ⟨.ret,⟨[.bool (okD s n)],[]⟩,st⟩:=by
 refine (task_of_aw (N:=19) prim196 fn196 rfl rfl hst ?_).1
 intro e he ha K hK
 have a0:=ha 0
 have a1:=ha 1
 clear ha
 simp at a0 a1
 by_cases h1:1≤s.length
 ·have h1':(1:Int)≤(s.length:Int):=by omega
  by_cases h2:s.length≤n
  ·have ht:=trim10_call hs hst
   have h2':(s.length:Int)≤(n:Int):=by omega
   have hz:decide (trimP digP s=[])=s.all digB:=by
    rw [Bool.eq_iff_iff,decide_eq_true_iff,trimP_nil];rfl
   simp [a196,he,a0,a1,h1,h1',h2,h2',ht,hz]
   exact hK _ _ _ (.inl rfl) (by simp) ⟨_,rfl,by simp [he,okD,h1,h2,AV.still,AV.stills]⟩
  ·have h2':¬(s.length:Int)≤(n:Int):=by omega
   simp [a196,he,a0,a1,h1,h1',h2,h2']
   exact hK _ _ _ (.inl rfl) (by simp) ⟨_,rfl,by simp [he,okD,h1,h2,AV.still,AV.stills]⟩
 ·have h1':¬(1:Int)≤(s.length:Int):=by omega
  simp [a196,he,a0,a1,h1,h1']
  exact hK _ _ _ (.inl rfl) (by simp) ⟨_,rfl,by simp [he,okD,h1,AV.still,AV.stills]⟩
def partsV:Option (List UInt8×List UInt8)→AV
 | none=>.tup [.str [],.str [],.bool false]
 | some (x,y)=>.tup [.str x,.str y,.bool true]
set_option maxHeartbeats 1000000 in
theorem parts_call {s:List UInt8} (hs:s.length≤1000000000) {st:St} (hst:StOk st) :
  runL A (.call 179 [.str s]) st=some ⟨.ret,⟨[partsV (partsAv s)],[]⟩,st⟩:=by
 refine (task_of_aw (N:=37) prim179 fn179 rfl rfl hst ?_).1
 intro e he ha K hK
 have a0:=ha 0
 clear ha
 simp at a0
 have hcut:=cut_call (c:=46) hs hst
 have key:∀x y:List UInt8,∀p:Bool,x.length≤1000000000→y.length≤1000000000→cutAv 46 s=.tup [.str x,.str y,.bool p] →
   partsAv s=(if okA x && (!p || okD y 40) then some (x,y) else none)→AW A 179 none a179.body e [] st K:=by
  intro x y p hx hy hc hv
  rw [hc] at hcut
  have hd:=digits_call (n:=10) hx hst
  have hd2:=digits_call (n:=40) hy hst
  simp at hd hd2
  have fin:∀e':Env,(∃vs,resultsA st e' a179.results=some vs∧oneOf vs=partsV (if okA x && (!p || okD y 40) then some (x,y) else none))→K .ret e' [] st:=by
   rintro e' ⟨vs,h1,h2⟩
   refine hK _ _ _ (.inl rfl) (by simp) ⟨vs,h1,?_⟩
   rw [h2,hv]
   split<;>simp [partsV,AV.still,AV.stills]
  cases hdd:okD x 10 with
  | false =>
   rw [hdd] at hd
   have hoa:okA x=false:=by simp [okA,hdd]
   simp [a179,he,a0,hcut,hd]
   exact fin _ ⟨_,rfl,by simp [he,hoa,partsV]⟩
  | true =>
   rw [hdd] at hd
   have hx1:1≤x.length:=by simp [okD] at hdd;exact hdd.1.1
   cases x with
   | nil=>simp at hx1
   | cons b x =>
    by_cases hx0:x=[]
    ·subst hx0
     have hoa:okA [b]=true:=by simp [okA,hdd]
     cases p with
     | false =>
      simp [a179,he,a0,hcut,hd]
      exact fin _ ⟨_,rfl,by simp [he,hoa,partsV]⟩
     | true =>
      cases hd3:okD y 40 with
      | false =>
       rw [hd3] at hd2
       simp [a179,he,a0,hcut,hd,hd2]
       exact fin _ ⟨_,rfl,by simp [he,hoa,hd3,partsV]⟩
      | true =>
       rw [hd3] at hd2
       simp [a179,he,a0,hcut,hd,hd2]
       exact fin _ ⟨_,rfl,by simp [he,hoa,hd3,partsV]⟩
    ·have hx2:0<x.length:=List.length_pos_iff.2 hx0
     have hx3:(1:Int)<(x.length:Int)+1:=by omega
     by_cases hb:b=48
     ·subst hb
      have hoa:okA (48::x)=false:=by simp [okA,hdd,hx2]
      simp [a179,he,a0,hcut,hd,hx2,hx3,byteV]
      exact fin _ ⟨_,rfl,by simp [he,hoa,partsV]⟩
     ·have hoa:okA (b::x)=true:=by simp [okA,hdd,hb]
      have hb':¬b.toNat=48:=fun h=>hb (UInt8.toNat_inj.1 h)
      have hb'':¬(b.toNat:Int)=48:=by omega
      cases p with
      | false =>
       simp [a179,he,a0,hcut,hd,hx2,hx3,byteV,hb,hb',hb'']
       exact fin _ ⟨_,rfl,by simp [he,hoa,partsV]⟩
      | true =>
       cases hd3:okD y 40 with
       | false =>
        rw [hd3] at hd2
        simp [a179,he,a0,hcut,hd,hd2,hx2,hx3,byteV,hb,hb',hb'']
        exact fin _ ⟨_,rfl,by simp [he,hoa,hd3,partsV]⟩
       | true =>
        rw [hd3] at hd2
        simp [a179,he,a0,hcut,hd,hd2,hx2,hx3,byteV,hb,hb',hb'']
        exact fin _ ⟨_,rfl,by simp [he,hoa,hd3,partsV]⟩
 cases hc:cutAt 46 s with
 | none=>exact key s [] false hs (by simp) (by simp [cutAv,hc]) (by simp [partsAv,hc])
 | some p =>
  obtain ⟨x,y⟩:=p
  obtain ⟨_,h2,_⟩:=cutAt_some hc
  have hl:x.length+1+y.length=s.length:=by rw [h2];simp;omega
  exact key x y true (by omega) (by omega) (by simp [cutAv,hc]) (by simp [partsAv,hc])
theorem fn197:A.fn 197=some a197:=by kernel_rfl
theorem prim197:A.prim 197=none:=by kernel_rfl
theorem fn180:A.fn 180=some a180:=by kernel_rfl
theorem prim180:A.prim 180=none:=by kernel_rfl
def w197_0:List Nat:=a197_0.writes
set_option maxHeartbeats 1000000 in
theorem uint_call {s:List UInt8} (hs:okD s 10=true) {st:St} (hst:StOk st) :
  runL A (.call 197 [.str s,.int .i64 10,.int .i64 64]) st=some ⟨.ret,⟨[.tup [.int .u64 (decN s),.nilIface]],[]⟩,st⟩:=by
 refine (task_of_aw (N:=172) prim197 fn197 rfl rfl hst ?_).1
 intro e he ha K hK
 have a0:=ha 0
 have a1:=ha 1
 have a2:=ha 2
 clear ha
 simp at a0 a1 a2
 simp only [okD,Bool.and_eq_true,decide_eq_true_eq,List.all_eq_true] at hs
 obtain ⟨⟨hs1,hs2⟩,hs3⟩:=hs
 have hne:¬s=[]:=by intro h;subst h;simp at hs1
 have w222:IntKind.u64.wrap 64=64:=by decide
 have wsh:shiftOp .shl .u64 1 64=some (.int .u64 0):=by rfl
 have wm1:IntKind.u64.wrap (-1)=18446744073709551615:=by decide
 simp [a197,he,a0,a1,a2,hne,w222,wsh,wm1]
 refine aw_loop (W:=w197_0) rfl (fun m e ds st'=>ds=[]∧st'=st∧∃i:Nat,i+m=s.length∧AX.ev e (.t 101)=.int .i64 i∧AX.ev e (.t 12)=.bool false∧AX.ev e (.t 13)=.int .u64 (decN (s.take i))) s.length
  ⟨rfl,rfl,0,by simp,by simp [he],by simp [he],by simp [he,decN]⟩ ?_
 rintro m e1 ds st' hs' ⟨rfl,rfl,i,hm,g101,g12,g13⟩ K1 kn kx
 have he1:e1.length=172:=by simp [hs'.1,he]
 have g1:=hs'.ev 1 rfl (v:=.int .i64 10) (by simp [he,a1])
 have g8:=hs'.ev 8 rfl (v:=.bool false) (by simp [he])
 have g10:=hs'.ev 10 rfl (v:=.int .u64 1844674407370955162) (by simp [he])
 have g11:=hs'.ev 11 rfl (v:=.int .u64 18446744073709551615) (by simp [he])
 have g99:=hs'.ev 99 rfl (v:=.lst 1 (s.map byteV) .no) (by simp [he])
 have g100:=hs'.ev 100 rfl (v:=.int .i64 s.length) (by simp [he])
 cases m with
 | zero =>
  have:i=s.length:=by omega
  subst this
  rw [List.take_length] at g13
  simp [a197_0,g100,g101,he1]
  refine kx _ _ _ _ nofun fun hs'=>?_
  simp [g12,g13,he1]
  exact hK _ _ _ (.inl rfl) (by simp) ⟨_,rfl,by simp [he1,g13,AV.still,AV.stills]⟩
 | succ m =>
  have hi:i<s.length:=by omega
  have hi':(i:Int)<(s.length:Int):=by omega
  have hin:¬(i:Int)<0:=by omega
  have hc:=digB_iff.1 (hs3 _ (List.getElem_mem hi))
  obtain ⟨d,hd⟩:∃d:Nat,s[i].toNat=48+d:=⟨s[i].toNat-48,by omega⟩
  have hd9:d≤9:=by omega
  obtain ⟨n,hn⟩:∃n:Nat,n=decN (s.take i):=⟨_,rfl⟩
  have hn10:n<10 ^ 9:=by
   have h1:=decN_lt i (s.take i) (by simp;omega) fun c hc=>hs3 c (List.mem_of_mem_take hc)
   have h2:(10:Nat) ^ i≤10 ^ 9:=Nat.pow_le_pow_right (by decide) (by omega)
   omega
  have hn1:decN (s.take (i+1))=10 * n+d:=by
   have ht:s.take (i+1)=s.take i++[s[i]]:=by simp
   rw [ht,decN_snoc,←hn,hd];omega
  have w1:IntKind.u8.wrap (48+(d:Int)-48)=(d:Int):=by rw [wrap_u8 (by omega) (by omega)];omega
  have w2:IntKind.u8.wrap 10=10:=by decide
  have w3:IntKind.u64.wrap 10=10:=by decide
  have w4:IntKind.u64.wrap ((n:Int) * 10)=((n * 10:Nat):Int):=by rw [wrap_u64 (by omega) (by omega)];simp
  have w5:IntKind.u64.wrap (d:Int)=(d:Int):=wrap_u64 (by omega) (by omega)
  have w6:IntKind.u64.wrap ((n:Int) * 10+(d:Int))=((10 * n+d:Nat):Int):=by rw [wrap_u64 (by omega) (by omega)];simp;omega
  have w7:IntKind.i64.wrap ((i:Int)+1)=(i:Int)+1:=wrap_i64 (by omega) (by omega)
  have c1:¬(48+d=95):=by omega
  have c1':¬((48:Int)+(d:Int)=95):=by omega
  have c2:(48:Int)≤48+(d:Int):=by omega
  have c3:(48:Int)+(d:Int)≤57:=by omega
  have c4:¬(10:Int)≤(d:Int):=by omega
  have c5:¬(1844674407370955162:Int)≤(n:Int):=by omega
  have c6:¬(10 * (n:Int)+(d:Int)<(n:Int) * 10):=by omega
  have c7:¬((18446744073709551615:Int)<10 * (n:Int)+(d:Int)):=by omega
  rw [←hn] at g13
  simp [a197_0,g1,g8,g10,g11,g12,g13,g99,g100,g101,he1,hi,hi',hin,byteV,hd,w1,w2,w3,w4,w5,w6,w7,c1,c1',c2,c3,c4,c5,c6,c7]
  exact kn m _ _ _ (by omega) ⟨rfl,rfl,i+1,by omega,by simp [he1],by simp [he1,g12],by simp [he1,hn1]⟩
theorem parseUint_call {s:List UInt8} (hs:okD s 10=true) {st:St} (hst:StOk st) :
  runL A (.call 180 [.str s,.int .i64 10,.int .i64 64]) st=some ⟨.ret,⟨[.tup [.int .u64 (decN s),.nilIface]],[]⟩,st⟩:=by
 refine (task_of_aw (N:=26) prim180 fn180 rfl rfl hst ?_).1
 intro e he ha K hK
 have a0:=ha 0
 have a1:=ha 1
 have a2:=ha 2
 clear ha
 simp at a0 a1 a2
 have h42:=uint_call hs hst
 simp [a180,he,a0,a1,a2,h42]
 exact hK _ _ _ (.inl rfl) (by simp) ⟨_,rfl,by simp [he,AV.still,AV.stills]⟩
/-! The doubling of digits behind a point. -/
def dv (d:Nat):AV:=.int .u8 (48+d:Nat)
theorem fn199:A.fn 199=some a199:=by kernel_rfl
theorem prim199:A.prim 199=none:=by kernel_rfl
def w199_0:List Nat:=a199_0.writes
set_option maxHeartbeats 1000000 in
theorem double_call {l:List Nat} (hl:l.length≤1000) (hd:∀d∈l,d<10) {st:St} {r j:Nat} {ty tj:Option TypeId} (hr:st[r]?=some (.cells ty [.sl j 1 0 l.length none])) (hj:st[j]?=some (.cells tj (l.map dv))) (hrj:j≠r) :
  runL A (.call 199 [.ptr r 0]) st=some ⟨.ret,⟨[.int .i64 (dbl l).1],[]⟩,st.set j (.cells tj ((dbl l).2.map dv))⟩:=by
 refine (task_of_aw_keep (N:=30) prim199 fn199 rfl rfl ?_).1
 intro e he ha K hK
 have a0:=ha 0
 clear ha
 simp at a0
 have w0:IntKind.i64.wrap ((l.length:Int)-1)=(l.length:Int)-1:=wrap_i64 (by omega) (by omega)
 simp [a199,he,a0,hr,takeVar,w0]
 refine aw_loop (W:=w199_0) rfl (fun m e ds st'=>ds=[]∧m≤l.length∧st'=st.set j (.cells tj ((l.take m++(dbl (l.drop m)).2).map dv))∧AX.ev e (.t 3)=.int .i64 ((m:Int)-1)∧AX.ev e (.t 2)=.int .u8 (dbl (l.drop m)).1) l.length
  ⟨rfl,Nat.le_refl _,?_,by simp [he],by simp [he,dbl]⟩ ?_
 ·have:(l.take l.length++(dbl (l.drop l.length)).2)=l:=by simp [dbl]
  rw [this]
  apply List.ext_getElem?
  intro i
  rw [List.getElem?_set]
  split
  ·rename_i h;subst h;rw [hj,if_pos (List.getElem?_eq_some_iff.1 hj).1]
  ·rfl
 rintro m e1 ds st' hs' ⟨rfl,hml,rfl,g3,g2⟩ K1 kn kx
 have he1:e1.length=30:=by simp [hs'.1,he]
 have g0:=hs'.ev 0 rfl (v:=.ptr r 0) (by simp [a0])
 have hjl:=(List.getElem?_eq_some_iff.1 hj).1
 have hrl:=(List.getElem?_eq_some_iff.1 hr).1
 have hr':∀x:AObj,(st.set j x)[r]?=some (.cells ty [.sl j 1 0 l.length none]):=fun x=>by rw [List.getElem?_set_ne hrj];exact hr
 cases m with
 | zero =>
  simp at g2 g3
  have hc:=dbl_carry l hd
  have w1:IntKind.i64.wrap ((dbl l).1:Int)=((dbl l).1:Int):=wrap_i64 (by omega) (by omega)
  simp [a199_0,g3,he1]
  refine kx _ _ _ _ nofun fun hs'=>?_
  simp [g2,he1,w1]
  exact hK _ _ (.inl rfl) ⟨_,rfl,by simp [he1]⟩
 | succ m =>
  have hm:m<l.length:=by omega
  have hc:=dbl_carry (l.drop (m+1)) fun d hdd=>hd d (List.mem_of_mem_drop hdd)
  obtain ⟨c,hcc⟩:∃c:Nat,c=(dbl (l.drop (m+1))).1:=⟨_,rfl⟩
  have hx:=hd _ (List.getElem_mem hm)
  obtain ⟨x,hxx⟩:∃x:Nat,x=l[m]:=⟨_,rfl⟩
  have hdr:l.drop m=x::l.drop (m+1):=by rw [hxx];exact List.drop_eq_getElem_cons hm
  have htk:l.take (m+1)=l.take m++[x]:=by rw [hxx];simp
  rw [←hcc] at hc g2
  rw [←hxx] at hx
  have g3':AX.ev e1 (.t 3)=.int .i64 (m:Int):=by rw [g3];congr 1;omega
  have hdb1:(dbl (l.drop m)).1=(2 * x+c) / 10:=by rw [hdr,hcc];rfl
  have hdb2:(dbl (l.drop m)).2=(2 * x+c) % 10::(dbl (l.drop (m+1))).2:=by rw [hdr,hcc];rfl
  have hlen2:=dbl_length (l.drop (m+1))
  obtain ⟨t,ht⟩:∃t,t=(dbl (l.drop (m+1))).2:=⟨_,rfl⟩
  rw [←ht] at hdb2 hlen2
  rw [htk,←ht]
  have hgx:(List.map dv (List.take m l++[x]++t))[m]?=some (dv x):=by
   rw [List.getElem?_map,List.append_assoc,List.getElem?_append_right (by simp;omega)]
   simp [Nat.min_eq_left (Nat.le_of_lt hm)]
  have hset:(List.map dv (List.take m l++[x]++t)).set m (dv ((2 * x+c) % 10))=List.map dv (List.take m l++(dbl (l.drop m)).2):=by
   rw [hdb2,List.append_assoc,List.map_append,List.map_append,List.set_append]
   simp [Nat.min_eq_left (Nat.le_of_lt hm)]
  have hlen:(List.map dv (List.take m l++[x]++t)).length=l.length:=by simp [hlen2];omega
  obtain ⟨cs,hcs⟩:∃cs,cs=List.map dv (List.take m l++[x]++t):=⟨_,rfl⟩
  rw [←hcs] at hgx hset hlen ⊢
  have w1:IntKind.u8.wrap (48+(x:Int)-48)=(x:Int):=by rw [wrap_u8 (by omega) (by omega)];omega
  have w2:IntKind.u8.wrap (2 * (x:Int))=((2 * x:Nat):Int):=by rw [wrap_u8 (by omega) (by omega)];simp
  have w3:IntKind.u8.wrap (2 * (x:Int)+(c:Int))=((2 * x+c:Nat):Int):=by rw [wrap_u8 (by omega) (by omega)];simp
  obtain ⟨y,hy⟩:∃y:Nat,y=2 * x+c:=⟨_,rfl⟩
  rw [←hy] at hdb1 hdb2 hset w3
  have w4:IntKind.u8.wrap ((y:Int).tdiv 10)=((y / 10:Nat):Int):=by rw [Int.tdiv_eq_ediv_of_nonneg (by omega),wrap_u8 (by omega) (by omega)];simp
  have w4':IntKind.u8.wrap ((y:Int) / 10)=((y / 10:Nat):Int):=by rw [wrap_u8 (by omega) (by omega)];simp
  have w5:IntKind.u8.wrap (48+(y:Int) % 10)=((48+y % 10:Nat):Int):=by rw [wrap_u8 (by omega) (by omega)];simp
  have w6:IntKind.i64.wrap ((m:Int)-1)=(m:Int)-1:=wrap_i64 (by omega) (by omega)
  have hdvx:dv x=.int .u8 (48+(x:Int)):=by simp [dv]
  have hdvy:AV.int .u8 ((48+y % 10:Nat):Int)=dv (y % 10):=rfl
  have hml':(m:Int)<(l.length:Int):=by omega
  have hmn:¬(m:Int)<0:=by omega
  have hm1:m+1≤l.length:=by omega
  rw [hdvx] at hgx
  have hgx':cs[m]'(by omega)=.int .u8 (48+(x:Int)):=by
   have:=List.getElem?_eq_some_iff.1 hgx
   exact this.2
  have hset':cs.set m (.int .u8 (48+(y:Int) % 10))=List.map dv (List.take m l++(dbl (List.drop m l)).2):=by
   rw [←hset];simp [dv]
  simp [a199_0,g0,g2,g3',he1,hr',hjl,takeVar,w1,w2,w3,w4,w4',w5,w6,hml',hmn,hm,hm1,hlen,putCells,hgx',hset']
  exact kn m _ _ _ (by omega) ⟨rfl,by omega,by simp,by simp [he1],by simp [he1,hdb1]⟩
theorem or_low {a b k:Nat} (hb:b<2 ^ k) (h:a * 2 ^ k+b<9223372036854775808) :
  IntKind.i64.wrap ((BitVec.ofInt IntKind.i64.bits (a * 2 ^ k:Nat) ||| BitVec.ofInt IntKind.i64.bits (b:Int)).toNat:Int)=((a * 2 ^ k+b:Nat):Int):=by
 have h1:(BitVec.ofInt IntKind.i64.bits ((a * 2 ^ k:Nat):Int)).toNat=a * 2 ^ k:=by
  simp only [IntKind.bits,BitVec.toNat_ofInt];omega
 have h2:(BitVec.ofInt IntKind.i64.bits (b:Int)).toNat=b:=by
  simp only [IntKind.bits,BitVec.toNat_ofInt];omega
 rw [BitVec.toNat_or,h1,h2,Nat.mul_comm,←Nat.two_pow_add_eq_or_of_lt hb,Nat.mul_comm]
 exact wrap_i64 (by omega) (by omega)
theorem or_low64 {a b k:Nat} (hb:b<2 ^ k) (h:a * 2 ^ k+b<18446744073709551616) :
  IntKind.u64.wrap ((BitVec.ofInt IntKind.u64.bits (a * 2 ^ k:Nat) ||| BitVec.ofInt IntKind.u64.bits (b:Int)).toNat:Int)=((a * 2 ^ k+b:Nat):Int):=by
 have h1:(BitVec.ofInt IntKind.u64.bits ((a * 2 ^ k:Nat):Int)).toNat=a * 2 ^ k:=by
  simp only [IntKind.bits,BitVec.toNat_ofInt];omega
 have h2:(BitVec.ofInt IntKind.u64.bits (b:Int)).toNat=b:=by
  simp only [IntKind.bits,BitVec.toNat_ofInt];omega
 rw [BitVec.toNat_or,h1,h2,Nat.mul_comm,←Nat.two_pow_add_eq_or_of_lt hb,Nat.mul_comm]
 exact wrap_u64 (by omega) (by omega)
theorem fn181:A.fn 181=some a181:=by kernel_rfl
theorem prim181:A.prim 181=none:=by kernel_rfl
def w181_0:List Nat:=a181_0.writes
set_option maxHeartbeats 1000000 in
theorem fraction_call {s:List UInt8} (hs:s.length≤100) (hd:∀c∈s,digB c=true) {st:St} (hst:StOk st) :
  runL A (.call 181 [.str s]) st=some ⟨.ret,⟨[.int .i64 (fracN 32 (digsOf s) 0)],[]⟩,st⟩:=by
 refine (task_of_aw (N:=18) prim181 fn181 rfl rfl hst ?_).1
 intro e he ha K hK
 have a0:=ha 0
 clear ha
 simp at a0
 have hmap:s.map byteV=(digsOf s).map dv:=by
  rw [digsOf,List.map_map]
  refine List.map_congr_left fun c hc=>?_
  have:=digB_iff.1 (hd c hc)
  simp only [byteV,dv,Function.comp]
  congr 1;omega
 have hlen:s.length=(digsOf s).length:=by simp [digsOf]
 have hdl:∀d∈digsOf s,d<10:=by
  intro d hdd
  simp only [digsOf,List.mem_map] at hdd
  obtain ⟨c,hc,rfl⟩:=hdd
  have:=digB_iff.1 (hd c hc)
  omega
 obtain ⟨l0,hl0⟩:∃l0,l0=digsOf s:=⟨_,rfl⟩
 rw [←hl0] at hmap hlen hdl hK
 simp [a181,he,a0,hmap,AV.cells,putCells,AV.isCell]
 refine aw_loop (W:=w181_0) rfl (fun m e ds st'=>ds=[]∧m≤32∧∃(l:List Nat) (u:Nat),l.length=l0.length∧(∀d∈l,d<10)∧u<2 ^ (32-m)∧fracN m l u=fracN 32 l0 0 ∧
   st'=st++[.cells none (l.map dv),.cells none [.sl st.length 1 0 l0.length none]]∧AX.ev e (.t 9)=.int .i64 ((32-m:Nat):Int)∧AX.ev e (.t 5)=.int .i64 u) 32
  ⟨rfl,Nat.le_refl _,l0,0,rfl,hdl,by decide,rfl,?_,by simp [he],by simp [he]⟩ ?_
 ·rw [hlen]
 rintro m e1 ds st' hs' ⟨rfl,hm,l,u,hll,hld,hu,hfr,rfl,g9,g5⟩ K1 kn kx
 have he1:e1.length=18:=by simp [hs'.1,he]
 have g4:=hs'.ev 4 rfl (v:=.func (.func 199) [] [.ptr (st.length+1) 0]) (by simp [he])
 have hufin:u<4294967296:=by
  have:(2:Nat) ^ (32-m)≤2 ^ 32:=Nat.pow_le_pow_right (by decide) (by omega)
  omega
 cases m with
 | zero =>
  simp [a181_0,g9,he1]
  refine kx _ _ _ _ nofun fun hs'=>?_
  have hfu:fracN 32 l0 0=u:=hfr.symm
  simp [g5,he1]
  exact hK _ _ _ (.inl rfl) (by simp) ⟨_,rfl,by simp [he1,hfu,AV.still,AV.stills]⟩
 | succ m =>
  have hdc:=double_call (l:=l) (st:=st++[.cells none (l.map dv),.cells none [.sl st.length 1 0 l0.length none]]) (r:=st.length+1) (j:=st.length) (ty:=none) (tj:=none) (by omega) hld (by simp [hll]) (by simp) (by omega)
  have hc:=dbl_carry l hld
  have w1:IntKind.i64.wrap ((u:Int) * 2)=((u * 2 ^ 1:Nat):Int):=by rw [wrap_i64 (by omega) (by omega)];simp
  have hu2:u<2147483648:=by
   have:(2:Nat) ^ (32-(m+1))≤2 ^ 31:=Nat.pow_le_pow_right (by decide) (by omega)
   omega
  have wo:=or_low (a:=u) (b:=(dbl l).1) (k:=1) (by omega) (by omega)
  have w2:IntKind.i64.wrap (((32-(m+1):Nat):Int)+1)=((32-m:Nat):Int):=by rw [wrap_i64 (by omega) (by omega)];omega
  have c1:((32-(m+1):Nat):Int)<32:=by omega
  have wsh:shiftOp .shl .i64 (u:Int) 1=some (.int .i64 ((u * 2 ^ 1:Nat):Int)):=by
   simp [shiftOp,IntKind.bits];simpa using w1
  simp at hdc wo wsh
  obtain ⟨q,hq⟩:∃q:Nat,q=32-(m+1):=⟨_,rfl⟩
  rw [←hq] at g9 c1 w2
  simp [a181_0,g9,g5,g4,he1,c1,hdc,wsh,wo,w2]
  exact kn m _ _ _ (by omega) ⟨rfl,by omega,(dbl l).2,2 * u+(dbl l).1,by rw [dbl_length];exact hll,dbl_lt l,by rw [show 32-m=32-(m+1)+1 by omega,Nat.pow_succ];omega,by rw [←hfr];rfl,by simp,by simp [he1],by simp [he1];omega⟩
theorem fn166:A.fn 166=some a166:=by kernel_rfl
theorem prim166:A.prim 166=none:=by kernel_rfl
theorem fn158:A.fn 158=some a158:=by kernel_rfl
theorem prim158:A.prim 158=none:=by kernel_rfl
def sizeV:Option (List UInt8×List UInt8)→AV
 | none=>.tup [.int .u64 0,.bool false]
 | some p=>.tup [.int .u64 (sizeN p),.bool true]
theorem size_call {s:List UInt8} (hs:s.length≤1000000000) {st:St} (hst:StOk st) :
  runL A (.call 166 [.str s]) st=some ⟨.ret,⟨[sizeV (partsAv s)],[]⟩,st⟩:=by
 refine (task_of_aw (N:=34) prim166 fn166 rfl rfl hst ?_).1
 intro e he ha K hK
 have a0:=ha 0
 clear ha
 simp at a0
 have hp:=parts_call hs hst
 cases hv:partsAv s with
 | none =>
  simp [hv,partsV] at hp
  simp [a166,he,a0,hp]
  exact hK _ _ _ (.inl rfl) (by simp) ⟨_,rfl,by simp [he,hv,sizeV,AV.still,AV.stills]⟩
 | some p =>
  obtain ⟨x,y⟩:=p
  simp [hv,partsV] at hp
  obtain ⟨h1,h2,h3⟩:=partsAv_ok hv
  have hu:=parseUint_call h1 hst
  have hn:decN x<10 ^ 10:=by
   have h4:=okD_all h1
   have:=decN_lt x.length x rfl h4.2
   have:(10:Nat) ^ x.length≤10 ^ 10:=Nat.pow_le_pow_right (by decide) h4.1
   omega
  obtain ⟨n,hnn⟩:∃n,n=decN x:=⟨_,rfl⟩
  rw [←hnn] at hn hu
  by_cases hb:4294967295<n
  ·have hb':(4294967295:Int)<(n:Int):=by omega
   simp [a166,he,a0,hp,hu,hb,hb']
   exact hK _ _ _ (.inl rfl) (by simp) ⟨_,rfl,by simp [he,hv,sizeV,sizeN,←hnn,hb,AV.still,AV.stills]⟩
  ·have hb':¬(4294967295:Int)<(n:Int):=by omega
   have hf:=frac_lt h3
   have hfr:=fraction_call (by omega) h3 hst
   obtain ⟨f,hff⟩:∃f,f=fracN 32 (digsOf y) 0:=⟨_,rfl⟩
   rw [←hff] at hf hfr
   have wsh:shiftOp .shl .u64 (n:Int) 32=some (.int .u64 ((n * 2 ^ 32:Nat):Int)):=by
    simp [shiftOp,IntKind.bits];rw [wrap_u64 (by omega) (by omega)]
   have wf:IntKind.u64.wrap (f:Int)=(f:Int):=wrap_u64 (by omega) (by omega)
   have wo:=or_low64 (a:=n) (b:=f) (k:=32) (by omega) (by omega)
   simp at wo wsh
   simp [a166,he,a0,hp,hu,hb,hb',wsh,hfr,wf,wo]
   exact hK _ _ _ (.inl rfl) (by simp) ⟨_,rfl,by simp [he,hv,sizeV,sizeN,←hnn,hb,←hff,AV.still,AV.stills]⟩
def parseV:Option (List UInt8×List UInt8)→AV
 | none=>.tup [.int .i64 0,.bool false]
 | some p=>if 9223372036854775807<sizeN p then .tup [.int .i64 0,.bool false] else .tup [.int .i64 (sizeN p),.bool true]
theorem parse_call {s:List UInt8} (hs:s.length≤1000000000) {st:St} (hst:StOk st) :
  runL A (.call 158 [.str s]) st=some ⟨.ret,⟨[parseV (partsAv s)],[]⟩,st⟩:=by
 refine (task_of_aw (N:=19) prim158 fn158 rfl rfl hst ?_).1
 intro e he ha K hK
 have a0:=ha 0
 clear ha
 simp at a0
 have hp:=size_call hs hst
 cases hv:partsAv s with
 | none =>
  simp [hv,sizeV] at hp
  simp [a158,he,a0,hp]
  exact hK _ _ _ (.inl rfl) (by simp) ⟨_,rfl,by simp [he,hv,parseV,AV.still,AV.stills]⟩
 | some p =>
  simp [hv,sizeV] at hp
  obtain ⟨u,hu⟩:∃u,u=sizeN p:=⟨_,rfl⟩
  rw [←hu] at hp
  by_cases hb:9223372036854775807<u
  ·have hb':(9223372036854775807:Int)<(u:Int):=by omega
   simp [a158,he,a0,hp,hb,hb']
   exact hK _ _ _ (.inl rfl) (by simp) ⟨_,rfl,by simp [he,hv,parseV,←hu,hb,AV.still,AV.stills]⟩
  ·have hb':¬(9223372036854775807:Int)<(u:Int):=by omega
   have w:IntKind.i64.wrap (u:Int)=(u:Int):=wrap_i64 (by omega) (by omega)
   simp [a158,he,a0,hp,hb,hb',w]
   exact hK _ _ _ (.inl rfl) (by simp) ⟨_,rfl,by simp [he,hv,parseV,←hu,hb,AV.still,AV.stills]⟩
theorem tokOf_shift (c:UInt8) (l:List UInt8) (p p':Nat):tokOf (c::l) p'=({ (tokOf (c::l) p).1 with pos:=p' },(tokOf (c::l) p).2)∧(tokOf (c::l) p).1.pos=p:=by
 rw [tokOf_cons,tokOf_cons]
 split
 ·exact ⟨rfl,rfl⟩
 ·split<;>exact ⟨rfl,rfl⟩
theorem fn152:A.fn 152=some a152:=by kernel_rfl
theorem prim152:A.prim 152=none:=by kernel_rfl
theorem fn153:A.fn 153=some a153:=by kernel_rfl
theorem prim153:A.prim 153=none:=by kernel_rfl
theorem fn154:A.fn 154=some a154:=by kernel_rfl
theorem prim154:A.prim 154=none:=by kernel_rfl
theorem fn155:A.fn 155=some a155:=by kernel_rfl
theorem prim155:A.prim 155=none:=by kernel_rfl
theorem fn156:A.fn 156=some a156:=by kernel_rfl
theorem prim156:A.prim 156=none:=by kernel_rfl
theorem fn151:A.fn 151=some a151:=by kernel_rfl
theorem prim151:A.prim 151=none:=by kernel_rfl
theorem fn140:A.fn 140=some a140:=by kernel_rfl
theorem prim140:A.prim 140=none:=by kernel_rfl
theorem fn157:A.fn 157=some a157:=by kernel_rfl
theorem prim157:A.prim 157=none:=by kernel_rfl
theorem all_bytes {p:UInt8→Prop} (h:∀n:Fin 256,p (UInt8.ofNat n)) (c:UInt8):p c:=by
 have:=h ⟨c.toNat,c.toNat_lt⟩
 simpa using this
theorem gap_call {c:UInt8} {st:St} (hst:StOk st):runL A (.call 152 [byteV c]) st=some ⟨.ret,⟨[.bool (gapB c)],[]⟩,st⟩:=by
 refine (task_of_aw (N:=17) prim152 fn152 rfl rfl hst ?_).1
 intro e he ha K hK
 have a0:=ha 0
 clear ha
 simp [byteV] at a0
 have b1:∀n:Nat,n<256→(c.toNat=n↔c=UInt8.ofNat n):=fun n hn=>(byte_eq hn).symm
 have i1:∀n:Nat,((c.toNat:Int)=(n:Int))↔c.toNat=n:=fun n=>by omega
 by_cases h1:c.toNat=32
 ·have:gapB c=true:=by simp [gapB,(b1 32 (by decide)).1 h1]
  simp [a152,he,a0,h1]
  exact hK _ _ _ (.inl rfl) (by simp) ⟨_,rfl,by simp [he,this,AV.still]⟩
 ·have h1':¬(c.toNat:Int)=32:=by omega
  by_cases h2:c.toNat=9
  ·have:gapB c=true:=by simp [gapB,(b1 9 (by decide)).1 h2]
   simp [a152,he,a0,h1,h1',h2]
   exact hK _ _ _ (.inl rfl) (by simp) ⟨_,rfl,by simp [he,this,AV.still]⟩
  ·have h2':¬(c.toNat:Int)=9:=by omega
   by_cases h3:c.toNat=10
   ·have:gapB c=true:=by simp [gapB,(b1 10 (by decide)).1 h3]
    simp [a152,he,a0,h1,h1',h2,h2',h3]
    exact hK _ _ _ (.inl rfl) (by simp) ⟨_,rfl,by simp [he,this,AV.still]⟩
   ·have h3':¬(c.toNat:Int)=10:=by omega
    have hd:gapB c=decide (c.toNat=13):=by
     have e1:¬c=32:=fun h=>h1 ((b1 32 (by decide)).2 h)
     have e2:¬c=9:=fun h=>h2 ((b1 9 (by decide)).2 h)
     have e3:¬c=10:=fun h=>h3 ((b1 10 (by decide)).2 h)
     simp only [gapB,e1,e2,e3]
     have:=b1 13 (by decide)
     rw [Bool.eq_iff_iff];simp [this]
    simp [a152,he,a0,h1,h1',h2,h2',h3,h3']
    refine hK _ _ _ (.inl rfl) (by simp) ⟨_,rfl,?_⟩
    simp [he,hd,AV.still]
    omega
def nlB (c:UInt8):Bool:=!decide (c=10)
theorem nl_call {c:UInt8} {st:St} (hst:StOk st):runL A (.call 153 [byteV c]) st=some ⟨.ret,⟨[.bool (nlB c)],[]⟩,st⟩:=by
 refine (task_of_aw (N:=5) prim153 fn153 rfl rfl hst ?_).1
 intro e he ha K hK
 have a0:=ha 0
 clear ha
 simp [byteV] at a0
 have b1:=byte_eq (c:=c) (n:=10) (by decide)
 have b1':c=10↔c.toNat=10:=b1
 by_cases h:c.toNat=10
 ·simp [a153,he,a0,h]
  exact hK _ _ _ (.inl rfl) (by simp) ⟨_,rfl,by simp [he,nlB,b1'.2 h,AV.still]⟩
 ·have h':¬(c.toNat:Int)=10:=by omega
  have h2:¬c=10:=fun hh=>h (b1'.1 hh)
  simp [a153,he,a0,h,h']
  exact hK _ _ _ (.inl rfl) (by simp) ⟨_,rfl,by simp [he,nlB,h2,AV.still]⟩
theorem dig_call {c:UInt8} {st:St} (hst:StOk st):runL A (.call 156 [byteV c]) st=some ⟨.ret,⟨[.bool (digB c)],[]⟩,st⟩:=by
 refine (task_of_aw (N:=9) prim156 fn156 rfl rfl hst ?_).1
 intro e he ha K hK
 have a0:=ha 0
 clear ha
 simp [byteV] at a0
 by_cases h1:48≤c.toNat
 ·have h1':(48:Int)≤(c.toNat:Int):=by omega
  by_cases h2:c.toNat≤57
  ·have h2':(c.toNat:Int)≤57:=by omega
   have:digB c=true:=digB_iff.2 ⟨h1,h2⟩
   simp [a156,he,a0,h1,h1',h2,h2']
   exact hK _ _ _ (.inl rfl) (by simp) ⟨_,rfl,by simp [he,this,AV.still]⟩
  ·have h2':¬(c.toNat:Int)≤57:=by omega
   have:digB c=false:=by rw [←Bool.not_eq_true,digB_iff];omega
   simp [a156,he,a0,h1,h1',h2,h2']
   exact hK _ _ _ (.inl rfl) (by simp) ⟨_,rfl,by simp [he,this,AV.still]⟩
 ·have h1':¬(48:Int)≤(c.toNat:Int):=by omega
  have:digB c=false:=by rw [←Bool.not_eq_true,digB_iff];omega
  simp [a156,he,a0,h1,h1']
  exact hK _ _ _ (.inl rfl) (by simp) ⟨_,rfl,by simp [he,this,AV.still]⟩
set_option maxRecDepth 100000 in
theorem or32 (c:UInt8):IntKind.u8.wrap ((BitVec.ofInt IntKind.u8.bits (c.toNat:Int) ||| BitVec.ofInt IntKind.u8.bits 32).toNat:Int)=((c ||| 32).toNat:Int) :=
 all_bytes (p:=fun c=>IntKind.u8.wrap ((BitVec.ofInt IntKind.u8.bits (c.toNat:Int) ||| BitVec.ofInt IntKind.u8.bits 32).toNat:Int)=((c ||| 32).toNat:Int)) (by decide +kernel) c
theorem letB_or (c:UInt8):letB c=((decide (97≤(c ||| 32).toNat) && decide ((c ||| 32).toNat≤122)) || decide (c.toNat=95)) :=
 all_bytes (p:=fun c=>letB c=((decide (97≤(c ||| 32).toNat) && decide ((c ||| 32).toNat≤122)) || decide (c.toNat=95))) (by decide +kernel) c
theorem let_call {c:UInt8} {st:St} (hst:StOk st):runL A (.call 154 [byteV c]) st=some ⟨.ret,⟨[.bool (letB c)],[]⟩,st⟩:=by
 refine (task_of_aw (N:=15) prim154 fn154 rfl rfl hst ?_).1
 intro e he ha K hK
 have a0:=ha 0
 clear ha
 simp [byteV] at a0
 have ho:=or32 c
 have hl:=letB_or c
 obtain ⟨q,hq⟩:∃q:Nat,q=(c ||| 32).toNat:=⟨_,rfl⟩
 rw [←hq] at ho hl
 simp at ho
 by_cases h1:97≤q
 ·have h1':(97:Int)≤(q:Int):=by omega
  by_cases h2:q≤122
  ·have h2':(q:Int)≤122:=by omega
   simp [h1,h2] at hl
   simp [a154,he,a0,ho,h1,h1',h2,h2']
   exact hK _ _ _ (.inl rfl) (by simp) ⟨_,rfl,by simp [he,hl,AV.still]⟩
  ·have h2':¬(q:Int)≤122:=by omega
   simp [h1,h2] at hl
   simp [a154,he,a0,ho,h1,h1',h2,h2']
   exact hK _ _ _ (.inl rfl) (by simp) ⟨_,rfl,by simp [he,hl,AV.still];omega⟩
 ·have h1':¬(97:Int)≤(q:Int):=by omega
  simp [h1] at hl
  simp [a154,he,a0,ho,h1,h1']
  exact hK _ _ _ (.inl rfl) (by simp) ⟨_,rfl,by simp [he,hl,AV.still];omega⟩
theorem inn_call {c:UInt8} {st:St} (hst:StOk st):runL A (.call 155 [byteV c]) st=some ⟨.ret,⟨[.bool (innB c)],[]⟩,st⟩:=by
 refine (task_of_aw (N:=9) prim155 fn155 rfl rfl hst ?_).1
 intro e he ha K hK
 have a0:=ha 0
 clear ha
 simp at a0
 have h1:=let_call (c:=c) hst
 have h2:=dig_call (c:=c) hst
 cases hl:letB c with
 | true =>
  rw [hl] at h1
  simp [a155,he,a0,h1]
  exact hK _ _ _ (.inl rfl) (by simp) ⟨_,rfl,by simp [he,innB,hl,AV.still]⟩
 | false =>
  rw [hl] at h1
  simp [a155,he,a0,h1,h2]
  exact hK _ _ _ (.inl rfl) (by simp) ⟨_,rfl,by simp [he,innB,hl,AV.still]⟩
def w151_0:List Nat:=a151_0.writes
theorem run_call {p:UInt8→Bool} {g:FuncId} {s:List UInt8} {i:Nat} (hs:s.length≤1000000000) {st:St} (hst:StOk st) (hp:∀c,runL A (.call g [byteV c]) st=some ⟨.ret,⟨[.bool (p c)],[]⟩,st⟩) (hi:i≤s.length) :
  runL A (.call 151 [.str s,.int .i64 i,.func (.func g) [] []]) st=some ⟨.ret,⟨[.int .i64 (i+((s.drop i).takeWhile p).length:Nat)],[]⟩,st⟩:=by
 refine (task_of_aw (N:=21) prim151 fn151 rfl rfl hst ?_).1
 intro e he ha K hK
 have a0:=ha 0
 have a1:=ha 1
 have a2:=ha 2
 clear ha
 simp at a0 a1 a2
 simp [a151,he,a0]
 refine aw_loop (W:=w151_0) rfl (fun m e ds st'=>ds=[]∧st'=st∧∃j:Nat,j+m=s.length∧AX.ev e (.t 1)=.int .i64 j∧j+((s.drop j).takeWhile p).length=i+((s.drop i).takeWhile p).length) (s.length-i)
  ⟨rfl,rfl,i,by omega,by simp [a1],rfl⟩ ?_
 rintro m e1 ds st' hs' ⟨rfl,rfl,j,hm,g1,hj⟩ K1 kn kx
 have he1:e1.length=21:=by simp [hs'.1,he]
 have g0:=hs'.ev 0 rfl (v:=.str s) (by simp [a0])
 have g2:=hs'.ev 2 rfl (v:=.func (.func g) [] []) (by simp [a2])
 cases m with
 | zero =>
  have:j=s.length:=by omega
  subst this
  simp at hj
  simp [a151_0,g0,g1,he1]
  refine kx _ _ _ _ nofun fun hs'=>?_
  simp [g1,he1]
  exact hK _ _ _ (.inl rfl) (by simp) ⟨_,rfl,by simp [he1,AV.still];omega⟩
 | succ m =>
  have hlt:j<s.length:=by omega
  have hdr:s.drop j=s[j]::s.drop (j+1):=List.drop_eq_getElem_cons hlt
  obtain ⟨c,hc⟩:∃c,c=s[j]:=⟨_,rfl⟩
  rw [hdr,←hc,List.takeWhile_cons] at hj
  have hpc:=hp c
  have hn:¬(j:Int)<0:=by omega
  have w1:IntKind.i64.wrap ((j:Int)+1)=(j:Int)+1:=wrap_i64 (by omega) (by omega)
  cases hb:p c with
  | false =>
   rw [hb] at hpc
   simp [hb] at hj
   simp [a151_0,g0,g1,g2,he1,hlt,hn,←hc,hpc]
   refine kx _ _ _ _ nofun fun hs'=>?_
   simp [g1,he1]
   exact hK _ _ _ (.inl rfl) (by simp) ⟨_,rfl,by simp [he1,AV.still];omega⟩
  | true =>
   rw [hb] at hpc
   simp [hb] at hj
   simp [a151_0,g0,g1,g2,he1,hlt,hn,←hc,hpc,w1]
   exact kn m _ _ _ (by omega) ⟨rfl,rfl,j+1,by omega,by simp [he1],by omega⟩
/-! Gaps. -/
theorem skip_gaps:∀l:List UInt8,skipN false l=(l.takeWhile gapB).length+skipN false (l.drop (l.takeWhile gapB).length)
 | []=>by simp [skipN]
 | c::l=>by
  rw [List.takeWhile_cons]
  by_cases hg:gapB c=true
  ·have h35:¬c=35:=by intro h;subst h;revert hg;decide
   rw [if_pos hg,skipN,if_neg h35,if_pos hg,List.length_cons,List.drop_succ_cons,skip_gaps l]
   omega
  ·rw [if_neg hg];simp
theorem skip_com:∀l:List UInt8,skipN true l=(l.takeWhile nlB).length+skipN false (l.drop (l.takeWhile nlB).length)
 | []=>by simp [skipN]
 | c::l=>by
  rw [List.takeWhile_cons]
  by_cases hc:c=10
  ·subst hc
   have:nlB 10=false:=by decide
   rw [this]
   simp [skipN,gapB]
  ·have:nlB c=true:=by simp [nlB,hc]
   rw [this,if_pos rfl,skipN,List.length_cons,List.drop_succ_cons]
   have h:=skip_com l
   rw [show (!decide (c=10))=true by simp [hc],h];omega
theorem skip_35 (l:List UInt8):skipN false (35::l)=((35::l).takeWhile nlB).length+skipN false ((35::l).drop ((35::l).takeWhile nlB).length):=by
 have:nlB 35=true:=by decide
 rw [skipN,if_pos rfl,List.takeWhile_cons,this,if_pos rfl,List.length_cons,List.drop_succ_cons,skip_com];omega
def w140_0:List Nat:=a140_0.writes
theorem skip_call {s:List UInt8} {i:Nat} (hs:s.length≤1000000000) {st:St} (hst:StOk st) (hi:i≤s.length) :
  runL A (.call 140 [.str s,.int .i64 i]) st=some ⟨.ret,⟨[.int .i64 (i+skipN false (s.drop i):Nat)],[]⟩,st⟩:=by
 refine (task_of_aw (N:=22) prim140 fn140 rfl rfl hst ?_).1
 intro e he ha K hK
 have a0:=ha 0
 have a1:=ha 1
 clear ha
 simp at a0 a1
 simp [a140,he,a0]
 refine aw_loop (W:=w140_0) rfl (fun m e ds st'=>ds=[]∧st'=st∧∃j:Nat,j+m=s.length∧AX.ev e (.t 1)=.int .i64 j∧j+skipN false (s.drop j)=i+skipN false (s.drop i)) (s.length-i)
  ⟨rfl,rfl,i,by omega,by simp [a1],rfl⟩ ?_
 rintro m e1 ds st' hs' ⟨rfl,rfl,j,hm,g1,hj⟩ K1 kn kx
 have he1:e1.length=22:=by simp [hs'.1,he]
 have g0:=hs'.ev 0 rfl (v:=.str s) (by simp [a0])
 have r1:=run_call (p:=gapB) (g:=152) (s:=s) (i:=j) hs hst (fun c=>gap_call hst) (by omega)
 have hle1:=tw_le gapB s (i:=j) (by omega)
 have hg:=skip_gaps (s.drop j)
 rw [List.drop_drop] at hg
 obtain ⟨j1,hj1⟩:∃j1,j1=j+((s.drop j).takeWhile gapB).length:=⟨_,rfl⟩
 rw [←hj1] at r1 hle1 hg
 by_cases hend:s.length≤j1
 ·have:j1=s.length:=by omega
  have hend':(s.length:Int)≤(j1:Int):=by omega
  have hz:skipN false (s.drop j1)=0:=by rw [this];simp [skipN]
  simp [a140_0,g0,g1,he1,r1,hend,hend']
  refine kx _ _ _ _ nofun fun hs'=>?_
  exact hK _ _ _ (.inl rfl) (by simp) ⟨_,rfl,by simp [he1,AV.still];omega⟩
 ·have hlt:j1<s.length:=by omega
  have hend':¬(s.length:Int)≤(j1:Int):=by omega
  have hn:¬(j1:Int)<0:=by omega
  have hdr:s.drop j1=s[j1]::s.drop (j1+1):=List.drop_eq_getElem_cons hlt
  obtain ⟨c,hc⟩:∃c,c=s[j1]:=⟨_,rfl⟩
  rw [←hc] at hdr
  have b35:c=35↔c.toNat=35:=byte_eq (c:=c) (n:=35) (by decide)
  by_cases h35:c=35
  ·have h35':c.toNat=35:=b35.1 h35
   have r2:=run_call (p:=nlB) (g:=153) (s:=s) (i:=j1) hs hst (fun c=>nl_call hst) (by omega)
   have hle2:=tw_le nlB s (i:=j1) (by omega)
   have hk:=skip_35 (s.drop (j1+1))
   rw [←h35,←hdr,List.drop_drop] at hk
   have hpos:0<((s.drop j1).takeWhile nlB).length:=by
    rw [hdr,List.takeWhile_cons,h35,show nlB 35=true by decide];simp
   obtain ⟨j2,hj2⟩:∃j2,j2=j1+((s.drop j1).takeWhile nlB).length:=⟨_,rfl⟩
   rw [←hj2] at r2 hle2 hk
   simp [a140_0,g0,g1,he1,r1,hend,hend',hlt,hn,←hc,byteV,h35',r2]
   exact kn (s.length-j2) _ _ _ (by omega) ⟨rfl,rfl,j2,by omega,by simp [he1],by omega⟩
  ·have h35':¬c.toNat=35:=fun h=>h35 (b35.2 h)
   have h35'':¬(c.toNat:Int)=35:=by omega
   have hng:gapB c=false:=by
    have hd:(s.drop j).drop ((s.drop j).takeWhile gapB).length=c::s.drop (j1+1):=by rw [List.drop_drop,←hj1];exact hdr
    exact takeWhile_stop hd
   have hz:skipN false (s.drop j1)=0:=by rw [hdr,skipN,if_neg h35,if_neg (by rw [hng];simp)]
   simp [a140_0,g0,g1,he1,r1,hend,hend',hlt,hn,←hc,byteV,h35',h35'']
   refine kx _ _ _ _ nofun fun hs'=>?_
   exact hK _ _ _ (.inl rfl) (by simp) ⟨_,rfl,by simp [he1,AV.still];omega⟩
theorem number_call {s:List UInt8} {i:Nat} (hs:s.length≤1000000000) {st:St} (hst:StOk st) (hi:i≤s.length) :
  runL A (.call 157 [.str s,.int .i64 i]) st=some ⟨.ret,⟨[.int .i64 (i+numLen (s.drop i):Nat)],[]⟩,st⟩:=by
 refine (task_of_aw (N:=32) prim157 fn157 rfl rfl hst ?_).1
 intro e he ha K hK
 have a0:=ha 0
 have a1:=ha 1
 clear ha
 simp at a0 a1
 have r1:=run_call (p:=digB) (g:=156) (s:=s) (i:=i) hs hst (fun c=>dig_call hst) hi
 have hle1:=tw_le digB s hi
 have hnum:numLen (s.drop i)=numAfter ((s.drop i).takeWhile digB).length (s.drop (i+((s.drop i).takeWhile digB).length)):=by
  rw [numLen,List.drop_drop]
 obtain ⟨a,ha'⟩:∃a,a=((s.drop i).takeWhile digB).length:=⟨_,rfl⟩
 obtain ⟨j,hj⟩:∃j,j=i+a:=⟨_,rfl⟩
 rw [←ha'] at r1 hle1 hnum
 rw [←hj] at r1 hle1 hnum
 have w1:IntKind.i64.wrap ((j:Int)+1)=(j:Int)+1:=wrap_i64 (by omega) (by omega)
 have fin:∀(k:Nat) (E:Env),k=i+numLen (s.drop i)→(∃vs,resultsA st E a157.results=some vs∧oneOf vs=.int .i64 k)→K .ret E [] st:=by
  rintro k E hk ⟨vs,h1,h2⟩
  refine hK _ _ _ (.inl rfl) (by simp) ⟨vs,h1,?_⟩
  rw [h2,hk];simp [AV.still]
 by_cases h1:j+1<s.length
 ·have h1':(j:Int)+1<(s.length:Int):=by omega
  have hlt:j<s.length:=by omega
  have hn:¬(j:Int)<0:=by omega
  have hn1:¬(j:Int)+1<0:=by omega
  have ht1:((j:Int)+1).toNat=j+1:=by omega
  have hdr:s.drop j=s[j]::s[j+1]::s.drop (j+1+1):=by
   rw [List.drop_eq_getElem_cons hlt,List.drop_eq_getElem_cons h1]
  obtain ⟨c,hc⟩:∃c,c=s[j]:=⟨_,rfl⟩
  obtain ⟨d,hd⟩:∃d,d=s[j+1]:=⟨_,rfl⟩
  have hdr2:s.drop (j+1)=d::s.drop (j+1+1):=by rw [hd];exact List.drop_eq_getElem_cons h1
  rw [←hc,←hd] at hdr
  rw [hdr] at hnum
  simp only [numAfter] at hnum
  have b46:c=46↔c.toNat=46:=byte_eq (c:=c) (n:=46) (by decide)
  by_cases h46:c=46
  ·have h46':c.toNat=46:=b46.1 h46
   rw [if_pos h46,←hdr2] at hnum
   have hdc:=dig_call (c:=d) hst
   cases hdd:digB d with
   | true =>
    rw [hdd] at hdc
    rw [hdd,if_pos rfl] at hnum
    have r2:=run_call (p:=digB) (g:=156) (s:=s) (i:=j+1) hs hst (fun c=>dig_call hst) (by omega)
    simp at r2
    simp [a157,he,a0,a1,r1,w1,h1',hlt,hn,hn1,ht1,←hc,←hd,byteV,h46',h1]
    simp [byteV] at hdc
    simp [he,a0,hdc,r2,w1]
    exact fin (j+1+((s.drop (j+1)).takeWhile digB).length) _ (by omega) ⟨_,rfl,by simp [he]⟩
   | false =>
    rw [hdd] at hdc
    rw [hdd] at hnum
    simp at hnum
    simp [byteV] at hdc
    simp [a157,he,a0,a1,r1,w1,h1',hlt,hn,hn1,ht1,←hc,←hd,byteV,h46',h1,hdc]
    exact fin j _ (by omega) ⟨_,rfl,by simp [he]⟩
  ·have h46':¬c.toNat=46:=fun h=>h46 (b46.2 h)
   have h46'':¬(c.toNat:Int)=46:=by omega
   rw [if_neg h46] at hnum
   simp [a157,he,a0,a1,r1,w1,h1',hlt,hn,←hc,byteV,h46',h46'']
   exact fin j _ (by omega) ⟨_,rfl,by simp [he]⟩
 ·have h1':¬(j:Int)+1<(s.length:Int):=by omega
  have hnum2:numLen (s.drop i)=a:=by
   rw [hnum]
   cases hz:s.drop j with
   | nil=>rfl
   | cons c z =>
    have hlen:=congrArg List.length hz
    simp at hlen
    have:z=[]:=List.eq_nil_of_length_eq_zero (by omega)
    subst this
    simp [numAfter]
  simp [a157,he,a0,a1,r1,w1,h1']
  exact fin j _ (by omega) ⟨_,rfl,by simp [he]⟩
theorem prim150:A.prim 150=some (pureP fieldsA):=rfl
theorem prim168:A.prim 168=some (pureP indexByteA):=rfl
theorem fn139:A.fn 139=some a139:=by kernel_rfl
theorem prim139:A.prim 139=none:=by kernel_rfl
theorem fn159:A.fn 159=some a159:=by kernel_rfl
theorem prim159:A.prim 159=none:=by kernel_rfl
theorem fn167:A.fn 167=some a167:=by kernel_rfl
theorem prim167:A.prim 167=none:=by kernel_rfl
theorem fn182:A.fn 182=some a182:=by kernel_rfl
theorem prim182:A.prim 182=none:=by kernel_rfl
theorem fn141:A.fn 141=some a141:=by kernel_rfl
theorem prim141:A.prim 141=none:=by kernel_rfl
def allT:List UInt8:=[102,117,110,32,110,111,100,101,32,104,121,98,114,105,100,32,108,101,116,32,100,101,114,32,105,110,105,116,32,114,101,115,101,116,32,111,110,32,117,112,32,109,101,109,32,109,111,100,101,32,102,114,111,109,32,103,111,116,111,32,111,117,116,32,105,102,32,116,104,101,110,32,101,108,115,101,32,112,114,101,32,102,98,121,32,116,114,117,101,32,102,97,108,115,101,32,110,111,116,32,97,110,100,32,111,114,32,105,115,32,115,113,114,116,32,114,101,116,117,114,110,32,115,101,116,32,102,105,120,32,98,111,111,108]
set_option maxRecDepth 100000 in
theorem fields_all:Lib.fields allT=wordsL:=by decide +kernel
theorem fields_two:Lib.fields [45,62,32,60,61,32,61,61]=twosL:=by decide +kernel
theorem fields_all_call {st:St}:runL A (.call 150 [.str allT]) st=some ⟨.ret,⟨[.lst 1 (wordsL.map AV.str) .tight],[]⟩,st⟩ :=
 runL_pure prim150 (by
  have h:allT.length<4294967281∧(allT.all fun b=>decide (b.toNat<128))=true:=by decide +kernel
  simp only [fieldsA,if_pos h,fields_all])
theorem fields_two_call {st:St}:runL A (.call 150 [.str [45,62,32,60,61,32,61,61]]) st=some ⟨.ret,⟨[.lst 1 (twosL.map AV.str) .tight],[]⟩,st⟩ :=
 runL_pure prim150 (by
  have h:([45,62,32,60,61,32,61,61]:List UInt8).length<4294967281∧(([45,62,32,60,61,32,61,61]:List UInt8).all fun b=>decide (b.toNat<128))=true:=by decide +kernel
  simp only [fieldsA,if_pos h,fields_two])
/-! Words. -/
def esOf (ws:List (List UInt8)):List (AV×AV):=ws.map fun w=>(.str w,.bool true)
theorem find_in {x:List UInt8}:∀(ws:List (List UInt8)) (n:Nat),x∈ws→∃k,findKey (.str x) (esOf ws) n=some (some (k,.bool true))
 | [],n,h=>by simp at h
 | w::ws,n,h=>by
  show ∃k,findKey (.str x) ((.str w,.bool true)::esOf ws) n=_
  simp only [findKey,sameKey]
  by_cases hx:x=w
  ·subst hx;exact ⟨n,by simp⟩
  ·have hb:(x == w)=false:=by rw [beq_eq_false_iff_ne];exact hx
   rw [hb]
   rw [List.mem_cons] at h
   rcases h with h | h
   ·exact absurd h hx
   ·exact find_in ws (n+1) h
theorem find_out {x:List UInt8}:∀(ws:List (List UInt8)) (n:Nat),x ∉ ws→findKey (.str x) (esOf ws) n=some none
 | [],n,_=>rfl
 | w::ws,n,h=>by
  show findKey (.str x) ((.str w,.bool true)::esOf ws) n=_
  rw [List.mem_cons,not_or] at h
  have hb:(x == w)=false:=by rw [beq_eq_false_iff_ne];exact h.1
  simp only [findKey,sameKey,hb]
  exact find_out ws (n+1) h.2
def wEs:List (AV×AV):=esOf wordsL
def w139_0:List Nat:=a139_0.writes
theorem words_nodup:wordsL.Nodup:=by decide +kernel
theorem words_call {st:St}:runL A (.call 139 []) st=some ⟨.ret,⟨[.map st.length],[]⟩,st++[.map wEs]⟩:=by
 refine (task_of_aw_keep (N:=15) prim139 fn139 rfl rfl ?_).1
 intro e he ha K hK
 clear ha
 have hf:=fields_all_call (st:=st++[.map []])
 simp only [allT] at hf
 simp [a139,he,hf]
 refine aw_loop (W:=w139_0) rfl (fun m e ds st'=>ds=[]∧∃i:Nat,i+m=wordsL.length∧AX.ev e (.t 7)=.int .i64 i∧st'=st++[.map (esOf (wordsL.take i))]) wordsL.length
  ⟨rfl,0,by simp,by simp [he],by simp [esOf]⟩ ?_
 rintro m e1 ds st' hs' ⟨rfl,i,hm,g7,rfl⟩ K1 kn kx
 have he1:e1.length=15:=by simp [hs'.1,he]
 have g1:=hs'.ev 1 rfl (v:=.map st.length) (by simp [he])
 have g5:=hs'.ev 5 rfl (v:=.lst 1 (wordsL.map AV.str) .tight) (by simp [he])
 have g6:=hs'.ev 6 rfl (v:=.int .i64 wordsL.length) (by simp [he])
 have hwl:wordsL.length=30:=rfl
 cases m with
 | zero =>
  have:i=wordsL.length:=by omega
  subst this
  rw [List.take_length]
  simp [a139_0,g6,g7,he1]
  refine kx _ _ _ _ nofun fun hs'=>?_
  simp [g1,he1]
  exact hK _ _ (.inl rfl) ⟨_,rfl,by simp [he1]⟩
 | succ m =>
  have hi:i<wordsL.length:=by omega
  have hi':(i:Int)<(wordsL.length:Int):=by omega
  have hn:¬(i:Int)<0:=by omega
  have w1:IntKind.i64.wrap ((i:Int)+1)=(i:Int)+1:=wrap_i64 (by omega) (by omega)
  obtain ⟨w,hw⟩:∃w,w=wordsL[i]:=⟨_,rfl⟩
  have hnot:w ∉ wordsL.take i:=by
   intro hmem
   have hsp:wordsL.take i++wordsL.drop i=wordsL:=List.take_append_drop i wordsL
   have hnd:=words_nodup
   rw [←hsp,List.nodup_append] at hnd
   exact hnd.2.2 w hmem w (by rw [List.drop_eq_getElem_cons hi,hw];exact List.mem_cons_self ..) rfl
  have hfk:=find_out (x:=w) (wordsL.take i) 0 hnot
  have htk:esOf (wordsL.take (i+1))=esOf (wordsL.take i)++[(.str w,.bool true)]:=by
   rw [show wordsL.take (i+1)=wordsL.take i++[w] by rw [hw];simp]
   simp [esOf]
  simp [a139_0,g1,g5,g6,g7,he1,hi,hi',hn,←hw,hfk,keyKind,w1]
  exact kn m _ _ _ (by omega) ⟨rfl,i+1,by omega,by simp [he1],by rw [htk]⟩
theorem find_words (x:List UInt8):(∃k,findKey (.str x) wEs 0=some (some (k,.bool true))∧wordB x=true)∨findKey (.str x) wEs 0=some none∧wordB x=false:=by
 by_cases h:x∈wordsL
 ·obtain ⟨k,hk⟩:=find_in wordsL 0 h
  exact .inl ⟨k,hk,by simp [wordB,h]⟩
 ·exact .inr ⟨find_out wordsL 0 h,by simp [wordB,h]⟩
theorem pre_call {s w:List UInt8} {st:St} (hst:StOk st):runL A (.call 167 [.str s,.str w]) st=some ⟨.ret,⟨[.bool (preB w s)],[]⟩,st⟩:=by
 have h66:runL A (.call 182 [.str s,.str w]) st=some ⟨.ret,⟨[.bool (preB w s)],[]⟩,st⟩:=by
  refine (task_of_aw (N:=18) prim182 fn182 rfl rfl hst ?_).1
  intro e he ha K hK
  have a0:=ha 0
  have a1:=ha 1
  clear ha
  simp at a0 a1
  by_cases h:w.length≤s.length
  ·have h':(w.length:Int)≤(s.length:Int):=by omega
   simp [a182,he,a0,a1,h,h',bound]
   exact hK _ _ _ (.inl rfl) (by simp) ⟨_,rfl,by simp [he,preB,h,AV.still]⟩
  ·have h':¬(w.length:Int)≤(s.length:Int):=by omega
   simp [a182,he,a0,a1,h,h']
   exact hK _ _ _ (.inl rfl) (by simp) ⟨_,rfl,by simp [he,preB,h,AV.still]⟩
 refine (task_of_aw (N:=8) prim167 fn167 rfl rfl hst ?_).1
 intro e he ha K hK
 have a0:=ha 0
 have a1:=ha 1
 clear ha
 simp at a0 a1
 simp [a167,he,a0,a1,h66]
 exact hK _ _ _ (.inl rfl) (by simp) ⟨_,rfl,by simp [he,AV.still]⟩
theorem ones_index (c:UInt8):decide (0≤Lib.indexByte ones c)=decide (c∈ones) :=
 all_bytes (p:=fun c=>decide (0≤Lib.indexByte ones c)=decide (c∈ones)) (by decide +kernel) c
def w159_0:List Nat:=a159_0.writes
def firstTwo (s:List UInt8) (i:Nat):Option (List UInt8):=(twosL.drop i).find? fun w=>preB w s
theorem sign_call {c:UInt8} {l:List UInt8} {st:St} (hst:StOk st) :
  runL A (.call 159 [.str (c::l)]) st=some ⟨.ret,⟨[.str ((c::l).take (signLen (c::l)))],[]⟩,st⟩:=by
 refine (task_of_aw (N:=22) prim159 fn159 rfl rfl hst ?_).1
 intro e he ha K hK
 have a0:=ha 0
 clear ha
 simp at a0
 have hf:=fields_two_call (st:=st)
 simp [a159,he,a0,hf]
 have fin:∀E:Env,(∃vs,resultsA st E a159.results=some vs∧oneOf vs=.str ((c::l).take (signLen (c::l))))→K .ret E [] st:=by
  rintro E ⟨vs,h1,h2⟩
  refine hK _ _ _ (.inl rfl) (by simp) ⟨vs,h1,?_⟩
  rw [h2];simp [AV.still]
 have hsome:∀w,firstTwo (c::l) 0=some w→(c::l).take (signLen (c::l))=w:=by
  intro w hw
  cases l with
  | nil=>simp [firstTwo,twosL,pre_one] at hw
  | cons d r =>
   simp only [firstTwo,twosL,List.drop_zero,List.find?_cons,pre_two,List.find?_nil] at hw
   have h45:∀a b:UInt8,(decide (c=a) && decide (d=b))=true→c=a∧d=b:=by
    intro a b h;simpa using h
   split at hw
   ·rename_i h;obtain ⟨rfl,rfl⟩:=h45 _ _ h;cases hw;simp [signLen,twoB]
   ·split at hw
    ·rename_i h;obtain ⟨rfl,rfl⟩:=h45 _ _ h;cases hw;simp [signLen,twoB]
    ·split at hw
     ·rename_i h;obtain ⟨rfl,rfl⟩:=h45 _ _ h;cases hw;simp [signLen,twoB]
     ·cases hw
 have hnone:firstTwo (c::l) 0=none→(c::l).take (signLen (c::l))=if c∈ones then [c] else []:=by
  intro hw
  cases l with
  | nil=>simp only [signLen];split<;>simp
  | cons d r =>
   simp only [firstTwo,twosL,List.drop_zero,List.find?_cons,pre_two,List.find?_nil] at hw
   have:twoB c d=false:=by
    split at hw
    ·cases hw
    ·rename_i h1
     split at hw
     ·cases hw
     ·rename_i h2
      split at hw
      ·cases hw
      ·rename_i h3
       simp only [twoB,h1,h2,h3];rfl
   simp only [signLen,this]
   split
   ·rename_i h;cases h
   ·split<;>simp
 refine aw_loop (W:=w159_0) rfl (fun m e ds st'=>ds=[]∧st'=st∧∃i:Nat,i+m=3∧AX.ev e (.t 7)=.int .i64 i∧firstTwo (c::l) i=firstTwo (c::l) 0) 3
  ⟨rfl,rfl,0,by simp,by simp [he],rfl⟩ ?_
 rintro m e1 ds st' hs' ⟨rfl,rfl,i,hm,g7,hft⟩ K1 kn kx
 have he1:e1.length=22:=by simp [hs'.1,he]
 have g0:=hs'.ev 0 rfl (v:=.str (c::l)) (by simp [a0])
 have g5:=hs'.ev 5 rfl (v:=.lst 1 (twosL.map AV.str) .tight) (by simp [he])
 have g6:=hs'.ev 6 rfl (v:=.int .i64 3) (by simp [he,twosL])
 cases m with
 | zero =>
  have:i=3:=by omega
  subst this
  have hw:=hnone (by rw [←hft];rfl)
  have hix:runL A (.call 168 [.str [40,41,123,125,44,59,58,61,43,45,42,47,60,46],byteV c]) st'=some ⟨.ret,⟨[.int .i64 (Lib.indexByte ones c)],[]⟩,st'⟩ :=
   runL_pure prim168 (by
    have:=c.toNat_lt
    simp [indexByteA,byteV]
    exact ⟨by omega,by rfl⟩)
  simp [byteV] at hix
  have hon:=ones_index c
  simp [a159_0,g6,g7,he1]
  refine kx _ _ _ _ nofun fun hs'=>?_
  by_cases hc:c∈ones
  ·rw [if_pos hc] at hw
   have h0:0≤Lib.indexByte ones c:=by simpa [hc] using hon
   have hle1:(1:Int)≤(l.length:Int)+1:=by omega
   simp [g0,he1,byteV,hix,h0,bound,hle1]
   exact fin _ ⟨_,rfl,by rw [hw];simp [he1]⟩
  ·rw [if_neg hc] at hw
   have h0:¬0≤Lib.indexByte ones c:=by simpa [hc] using hon
   simp [g0,he1,byteV,hix,h0]
   exact fin _ ⟨_,rfl,by rw [hw];simp [he1]⟩
 | succ m =>
  have hi:i<3:=by omega
  have hi':(i:Int)<3:=by omega
  have hi2:i<twosL.length:=hi
  have hn:¬(i:Int)<0:=by omega
  have w1:IntKind.i64.wrap ((i:Int)+1)=(i:Int)+1:=wrap_i64 (by omega) (by omega)
  obtain ⟨w,hw⟩:∃w,w=twosL[i]:=⟨_,rfl⟩
  have hp:=pre_call (s:=c::l) (w:=w) hst
  have hdr:firstTwo (c::l) i=if preB w (c::l) then some w else firstTwo (c::l) (i+1):=by
   rw [firstTwo,List.drop_eq_getElem_cons hi2,List.find?_cons,←hw]
   cases preB w (c::l)<;>rfl
  cases hb:preB w (c::l) with
  | true =>
   rw [hb] at hp hdr
   have hr:=hsome w (by rw [←hft,hdr];rfl)
   simp [a159_0,g0,g5,g6,g7,he1,hi,hi',hi2,hn,←hw,hp]
   refine kx _ _ _ _ nofun fun hs'=>?_
   exact fin _ ⟨_,rfl,by rw [hr];simp [he1]⟩
  | false =>
   rw [hb] at hp hdr
   simp [a159_0,g0,g5,g6,g7,he1,hi,hi',hi2,hn,←hw,hp,w1]
   exact kn m _ _ _ (by omega) ⟨rfl,rfl,i+1,by omega,by simp [he1],by rw [←hft,hdr];simp⟩
/-! A token. -/
theorem valP_parse (o:Option (List UInt8×List UInt8)):parseV o=.tup [.int .i64 (match o with
  | none=>(0,false)
  | some p=>if 9223372036854775807<sizeN p then (0,false) else ((sizeN p:Int),true):Int×Bool).1,.bool (match o with
  | none=>(0,false)
  | some p=>if 9223372036854775807<sizeN p then (0,false) else ((sizeN p:Int),true):Int×Bool).2]:=by
 cases o with
 | none=>rfl
 | some p=>simp only [parseV];split<;>rfl
theorem dec_call {x:List UInt8} (hx:x.length≤1000000000) {st:St} (hst:StOk st) :
  runL A (.call 158 [.str x]) st=some ⟨.ret,⟨[.tup [.int .i64 (valP x).1,.bool (valP x).2]],[]⟩,st⟩:=by
 rw [parse_call hx hst,valP_parse];rfl
set_option maxHeartbeats 2000000 in
theorem token_call {s:List UInt8} {i r:Nat} (hs:s.length≤1000000) {st:St} (hst:StOk st) (hi:i<s.length) (hr:st[r]?=some (.map wEs)) :
  runL A (.call 141 [.str s,.int .i64 i,.map r]) st=some ⟨.ret,⟨[.tup [(tokOf (s.drop i) i).1.av,.bool (tokOf (s.drop i) i).2]],[]⟩,st⟩:=by
 refine (task_of_aw (N:=69) prim141 fn141 rfl rfl hst ?_).1
 intro e he ha K hK
 have a0:=ha 0
 have a1:=ha 1
 have a2:=ha 2
 clear ha
 simp at a0 a1 a2
 have hrl:=(List.getElem?_eq_some_iff.1 hr).1
 have hdr:s.drop i=s[i]::s.drop (i+1):=List.drop_eq_getElem_cons hi
 obtain ⟨c,hc⟩:∃c,c=s[i]:=⟨_,rfl⟩
 rw [←hc] at hdr
 have hn:¬(i:Int)<0:=by omega
 have st1:StOk (st++[.cells none [.int .i64 0,.str [],.int .i64 0,.int .i64 0]]):=hst.snoc rfl
 have hcell:∀a b c d,StOk (st++[.cells none [.int .i64 0,.str [],.int .i64 0,.int .i64 0],.cells none [.int .i64 a,.str b,.int .i64 c,.int .i64 d]]):=fun a b c d=>by
  have:=st1.snoc (o:=.cells none [.int .i64 a,.str b,.int .i64 c,.int .i64 d]) rfl
  simpa using this
 have hlet:=let_call (c:=c) (hcell 0 [] 0 i)
 simp [byteV] at hlet
 have hr':∀xs,(st++xs)[r]?=some (.map wEs):=fun xs=>by rw [List.getElem?_append_left hrl];exact hr
 have fin:∀(E:Env) (k:Nat) (x:List UInt8) (v:Int) (ok:Bool) (st':St),st'=st++[.cells none [.int .i64 k,.str x,.int .i64 v,.int .i64 i],.cells none [.int .i64 k,.str x,.int .i64 v,.int .i64 i]] →
   E.length=69→AX.ev E (.t 6)=.ptr st.length 0→AX.ev E (.t 7)=.bool ok→tokOf (s.drop i) i=(⟨k,x,v,i⟩,ok)→K .ret E [] st':=by
  rintro E k x v ok st' rfl hE h6 h7 htok
  refine hK _ _ _ (.inl rfl) (by simp) ⟨[.agg [.int .i64 k,.str x,.int .i64 v,.int .i64 i],.bool ok],?_,?_⟩
  ·have h7':E[7]'(by omega)=.bool ok:=by simpa [AX.ev,List.getD_eq_getElem?_getD,hE] using h7
   have h6':E[6]'(by omega)=.ptr st.length 0:=by simpa [AX.ev,List.getD_eq_getElem?_getD,hE] using h6
   simp [a141,resultsA,h6,h6',h7',hE,resA,takeVar]
  ·rw [htok];simp [oneOf,AV.still,AV.stills,Tok.av]
 rw [hdr,tokOf_cons,←hdr] at fin
 cases hl:letB c with
 | true =>
  rw [hl] at hlet
  simp only [hl,if_true] at fin
  have hrun:=run_call (p:=innB) (g:=155) (s:=s) (i:=i) (by omega) (hcell 0 [] 0 i) (fun c=>inn_call (hcell 0 [] 0 i)) (by omega)
  have hle:=tw_le innB s (i:=i) (by omega)
  have htake:(s.take (i+((s.drop i).takeWhile innB).length)).drop i=(s.drop i).takeWhile innB:=by
   rw [List.drop_take,Nat.add_sub_cancel_left]
   exact take_tw innB (s.drop i)
  obtain ⟨j,hj⟩:∃j,j=i+((s.drop i).takeWhile innB).length:=⟨_,rfl⟩
  obtain ⟨x,hx⟩:∃x,x=(s.drop i).takeWhile innB:=⟨_,rfl⟩
  have hij:(i:Int)≤(j:Int):=by omega
  have hij':i≤j:=by omega
  have hjs:(j:Int)≤(s.length:Int):=by rw [hj];omega
  have hjs':j≤s.length:=by rw [hj];exact hle
  rw [←hj] at hrun htake
  rw [←hx] at htake fin
  by_cases h16:x.length≤16
  ·have h16':(x.length:Int)≤16:=by omega
   rcases find_words x with ⟨k,hf,hb⟩ | ⟨hf,hb⟩
   ·simp [a141,he,a0,a1,a2,hi,hn,←hc,byteV,hlet,hrun,takeVar,putCells,bound,hij,hij',hjs,hjs',htake,hr',hf,keyKind,mapOf,h16,h16']
    exact fin _ 3 x 0 true _ (by simp) (by simp [he]) (by simp [he]) (by simp [he]) (by simp [hb,h16])
   ·simp [a141,he,a0,a1,a2,hi,hn,←hc,byteV,hlet,hrun,takeVar,putCells,bound,hij,hij',hjs,hjs',htake,hr',hf,keyKind,mapOf,h16,h16']
    exact fin _ 1 x 0 true _ (by simp) (by simp [he]) (by simp [he]) (by simp [he]) (by simp [hb,h16])
  ·have h16':¬(x.length:Int)≤16:=by omega
   rcases find_words x with ⟨k,hf,hb⟩ | ⟨hf,hb⟩
   ·simp [a141,he,a0,a1,a2,hi,hn,←hc,byteV,hlet,hrun,takeVar,putCells,bound,hij,hij',hjs,hjs',htake,hr',hf,keyKind,mapOf,h16,h16']
    exact fin _ 3 x 0 false _ (by simp) (by simp [he]) (by simp [he]) (by simp [he]) (by simp [hb,h16])
   ·simp [a141,he,a0,a1,a2,hi,hn,←hc,byteV,hlet,hrun,takeVar,putCells,bound,hij,hij',hjs,hjs',htake,hr',hf,keyKind,mapOf,h16,h16']
    exact fin _ 1 x 0 false _ (by simp) (by simp [he]) (by simp [he]) (by simp [he]) (by simp [hb,h16])
 | false =>
  rw [hl] at hlet
  have hdig:=dig_call (c:=c) (hcell 0 [] 0 i)
  simp [byteV] at hdig
  simp only [hl,Bool.false_eq_true,if_false] at fin
  cases hd:digB c with
  | true =>
   rw [hd] at hdig
   simp only [hd,if_true] at fin
   have hnum:=number_call (s:=s) (i:=i) (by omega) (hcell 0 [] 0 i) (by omega)
   have hle:i+numLen (s.drop i)≤s.length:=by
    have:=numLen_le (s.drop i)
    rw [List.length_drop] at this;omega
   have htake:(s.take (i+numLen (s.drop i))).drop i=(s.drop i).take (numLen (s.drop i)):=by
    rw [List.drop_take,Nat.add_sub_cancel_left]
   obtain ⟨j,hj⟩:∃j,j=i+numLen (s.drop i):=⟨_,rfl⟩
   obtain ⟨x,hx⟩:∃x,x=(s.drop i).take (numLen (s.drop i)):=⟨_,rfl⟩
   have hij:(i:Int)≤(j:Int):=by omega
   have hij':i≤j:=by omega
   have hjs:(j:Int)≤(s.length:Int):=by rw [hj];omega
   have hjs':j≤s.length:=by rw [hj];exact hle
   rw [←hj] at hnum htake
   rw [←hx] at htake fin
   have hxl:x.length≤1000000000:=by rw [hx,List.length_take];omega
   have hdec:=fun a b c d=>dec_call (x:=x) hxl (hcell a b c d)
   simp [a141,he,a0,a1,a2,hi,hn,←hc,byteV,hlet,hdig,hnum,takeVar,putCells,bound,hij,hij',hjs,hjs',htake,hdec]
   exact fin _ 2 x (valP x).1 (valP x).2 _ (by simp) (by simp [he]) (by simp [he]) (by simp [he]) rfl
  | false =>
   rw [hd] at hdig
   simp only [hd,Bool.false_eq_true,if_false] at fin
   have hsg:=fun a b c' d=>sign_call (c:=c) (l:=s.drop (i+1)) (hcell a b c' d)
   have htake:(s.take s.length).drop i=c::s.drop (i+1):=by rw [List.take_length,hdr]
   obtain ⟨x,hx⟩:∃x,x=(c::s.drop (i+1)).take (signLen (c::s.drop (i+1))):=⟨_,rfl⟩
   rw [←hdr] at hx
   simp only [←hdr,←hx] at hsg fin
   have hle:(i:Int)≤(s.length:Int):=by omega
   have hle':i≤s.length:=by omega
   have hxn:decide (signLen (s.drop i)≠0)=!decide (x=[]):=by
    rw [Bool.eq_iff_iff]
    simp [hx,hdr]
   rw [hxn] at fin
   simp [a141,he,a0,a1,a2,hi,hn,←hc,byteV,hlet,hdig,takeVar,putCells,bound,hle,hle',hsg]
   exact fin _ 4 x 0 (!decide (x=[])) _ (by simp) (by simp [he]) (by simp [he]) (by simp [he]) rfl
theorem fn120:A.fn 120=some a120:=by kernel_rfl
theorem prim120:A.prim 120=none:=by kernel_rfl
theorem fn138:A.fn 138=some a138:=by kernel_rfl
theorem prim138:A.prim 138=none:=by kernel_rfl
theorem fn83:A.fn 83=some a83:=by kernel_rfl
theorem prim83:A.prim 83=none:=by kernel_rfl
theorem tokens_call {s:List UInt8} {st:St} (hst:StOk st):runL A (.call 120 [.str s]) st=some ⟨.ret,⟨[.func (.func 138) [] [.iptr (.str s)]],[]⟩,st⟩:=by
 refine (task_of_aw (N:=4) prim120 fn120 rfl rfl hst ?_).1
 intro e he ha K hK
 have a0:=ha 0
 clear ha
 simp at a0
 simp [a120,he,a0]
 exact hK _ _ _ (.inl rfl) (by simp) ⟨_,rfl,by simp [he,AV.still,AV.lowB,AV.lowsB]⟩
def nextAt (s:List UInt8) (i:Nat):Nat:=i+(tokOf (s.drop i) i).1.text.length+skipN false (s.drop (i+(tokOf (s.drop i) i).1.text.length))
theorem low_wEs (n:Nat):AObj.lowB n (.map wEs)=true:=by
 simp only [AObj.lowB,List.all_eq_true]
 intro x hx
 simp only [wEs,esOf,List.mem_map] at hx
 obtain ⟨w,_,rfl⟩:=hx
 rfl
def w138_0:List Nat:=a138_0.writes
theorem toks_run {s:List UInt8} {r:Nat} (hs:s.length≤1000000) {st0:St} (J:Nat→St→Prop) (S:St→Prop)
  (hok:∀i st,J i st→StOk st)
  (hJ:∀i st o,J i st→AObj.lowB (st.length+1) o=true→J i (st++[o]))
  (hround:∀i st,i<s.length→J i st→∃b st',runL A (.round r [(tokOf (s.drop i) i).1.av,.bool (tokOf (s.drop i) i).2]) st=some ⟨.ret,⟨[.bool b],[]⟩,st'⟩∧Steady st0.length st st' ∧
   (b=true→(tokOf (s.drop i) i).2=true∧J (nextAt s i) st')∧(b=false→S st'))
  (hend:∀st,J s.length st→∃b st',runL A (.round r [(endTok s.length).av,.bool true]) st=some ⟨.ret,⟨[.bool b],[]⟩,st'⟩∧S st')
  (h0:J (skipN false s) st0) :
  ∃st3,runL A (.seqc 138 [.func (.yield r) [] [],.iptr (.str s)]) st0=some ⟨.ret,⟨[.tup []],[]⟩,st3⟩∧S st3:=by
 refine Exists.elim (task_of_aw_keep_ex (A:=A) (f:=138) (F:=a138) (args:=[.func (.yield r) [] [],.iptr (.str s)]) (v:=.tup []) (N:=38) (st:=st0) S prim138 fn138 rfl rfl ?_) fun st3 h=>⟨st3,h.2.2,h.1⟩
 intro e he ha K hK
 have a0:=ha 0
 have a1:=ha 1
 clear ha
 simp at a0 a1
 have hw:=words_call (st:=st0)
 have h1:=hJ _ _ _ h0 (low_wEs _)
 have hsk:=skip_call (s:=s) (i:=0) (by omega) (hok _ _ h1) (by omega)
 simp at hsk
 have hsl:=skipN_le false s
 simp [a138,he,a0,a1,hw,hsk]
 refine aw_loop (W:=w138_0) rfl (fun m e ds st0'=>ds=[]∧∃i:Nat,i+m=s.length∧J i st0'∧st0'[st0.length]?=some (.map wEs)∧AX.ev e (.t 4)=.int .i64 i) (s.length-skipN false s)
  ⟨rfl,skipN false s,by omega,h1,by simp,by simp [he]⟩ ?_
 rintro m e1 ds st' hs' ⟨rfl,i,hm,hJi,hmap,g4⟩ K1 kn kx
 have he1:e1.length=38:=by simp [hs'.1,he]
 have g0:=hs'.ev 0 rfl (v:=.func (.yield r) [] []) (by simp [he,a0])
 have g1:=hs'.ev 1 rfl (v:=.iptr (.str s)) (by simp [he,a1])
 have g3:=hs'.ev 3 rfl (v:=.map st0.length) (by simp [he])
 by_cases hi:i<s.length
 ·have htok:=token_call (s:=s) (i:=i) hs (hok _ _ hJi) hi hmap
  obtain ⟨x,hx⟩:∃x,x=(tokOf (s.drop i) i).1:=⟨_,rfl⟩
  have hJ2:=hJ _ _ (.cells none x.av.cells) hJi (by have:=tok_low (st'.length+1) x;simpa [Tok.av,AObj.lowB,AV.lowB] using this)
  obtain ⟨b,st2,hr,hsd,hb1,hb2⟩:=hround _ _ hi hJ2
  rw [←hx] at hr htok
  simp [Tok.av] at hr htok
  have hmap2:st2[st0.length]?=some (.map wEs):=hsd _ _ (Nat.le_refl _) nofun (Steady.app 0 _ _ _ _ (Nat.zero_le _) nofun hmap)
  have hlen:st0.length≤st'.length:=by have:=(List.getElem?_eq_some_iff.1 hmap).1;omega
  have hc:st2[st'.length]?=some (.cells none x.av.cells):=hsd _ _ hlen nofun (by simp)
  simp [Tok.av] at hc
  cases b with
  | false =>
   simp [a138_0,g0,g1,g3,g4,he1,hi,htok,hr]
   refine kx _ _ _ _ nofun fun hs'=>?_
   exact hK _ _ _ (.inl rfl) (hb2 rfl) ⟨_,rfl,rfl⟩
  | true =>
   obtain ⟨hb,hJn⟩:=hb1 rfl
   have hle:i+x.text.length≤s.length:=by
    have hd:=List.drop_eq_getElem_cons hi
    have:=tokOf_le (c:=s[i]) (l:=s.drop (i+1)) (p:=i) (x:=x) (by rw [←hd,hx,←hb])
    rw [←hd,List.length_drop] at this;omega
   have hsk:=skip_call (s:=s) (i:=i+x.text.length) (by omega) (hok _ _ hJn) hle
   simp at hsk
   have w1:IntKind.i64.wrap ((i:Int)+x.text.length)=(i:Int)+x.text.length:=wrap_i64 (by omega) (by omega)
   have hnx:nextAt s i=i+x.text.length+skipN false (s.drop (i+x.text.length)):=by rw [nextAt,hx]
   have hpos:0<x.text.length:=by
    have hd:=List.drop_eq_getElem_cons hi
    have:=tokOf_pos (c:=s[i]) (l:=s.drop (i+1)) (pos:=i) (by rw [←hd];exact hb)
    rwa [←hd,←hx] at this
   have hsl:=skipN_le false (s.drop (i+x.text.length))
   rw [List.length_drop] at hsl
   rw [hnx] at hJn
   simp [a138_0,g0,g1,g3,g4,he1,hi,htok,hr,hc,w1,hsk]
   exact kn (s.length-(i+x.text.length+skipN false (s.drop (i+x.text.length)))) _ _ _ (by omega) ⟨rfl,_,by omega,hJn,hmap2,by simp [he1]⟩
 ·have:i=s.length:=by omega
  subst this
  obtain ⟨b,st2,hr,hS⟩:=hend _ hJi
  simp [Tok.av,endTok] at hr
  simp [a138_0,g0,g1,g4,he1]
  refine kx _ _ _ _ nofun fun hs'=>?_
  simp [g0,g1,he1,putCells,hr]
  exact hK _ _ _ (.inr rfl) hS ⟨_,rfl,rfl⟩
attribute [simp] outAv_cells outAv_isCell
def E9 (e:Env) (b:Nat):Prop:=e.length=26∧AX.ev e (.t 2)=.ptr b 0∧AX.ev e (.t 3)=.ptr (b+1) 0∧AX.ev e (.t 4)=.ptr (b+2) 0
def C9 (st0:St) (env:Env) (us:List Tok) (ap:Ap) (s:LoopState) (p:Option APend) (f1 f2:Int):St :=
 st0++[.cells none [.lst 4 [] .tight],.cells none [.int .i64 f1,.int .i64 f2],.cells none [outAv us ap],.defr (some []),.loop s p 83 0 [13,14] env (st0.length+3)]
theorem C9_len {st0 env us ap s p f1 f2}:(C9 st0 env us ap s p f1 f2).length=st0.length+5:=by simp [C9]
theorem out_low {st:St} {b:Nat} {us:List Tok} {ap:Ap} (h:OwnW st b 4 (some 55) ap us.length):AV.lowB st.length (outAv us ap)=true:=by
 unfold outAv
 split
 ·rfl
 ·exact own_low h (lows_all fun x hx=>by obtain ⟨t,_,rfl⟩:=List.mem_map.1 hx;exact tok_low _ t)
theorem lex_round {st0:St} {env:Env} (hE:E9 env st0.length) {us:List Tok} {ap:Ap} {x:Tok} {ok:Bool} {l st:St} (hst:st=C9 st0 env us ap .ready none 0 0++l) (hok:StOk st) (how:OwnW st (st0.length+5) 4 (some 55) ap us.length)
  (h0:us=[]→ap=.tight) (hlen:us.length<1000000) :
  ∃b st',runL A (.round (st0.length+4) [x.av,.bool ok]) st=some ⟨.ret,⟨[.bool b],[]⟩,st'⟩∧Steady (st0.length+5) st st'∧b=ok ∧
   (ok=true→∃ap' l',st'=C9 st0 env (us++[x]) ap' .ready none 0 0++l'∧StOk st'∧Own st' (st0.length+5) 4 (some 55) ap' (us++[x]).length) ∧
   (ok=false→∃us' ap' l',st'=C9 st0 env us' ap' .done (some .ret) 1 x.pos++l'):=by
 obtain ⟨he,h2,h3,h4⟩:=hE
 have hlp:st[st0.length+4]?=some (.loop .ready none 83 0 [13,14] env (st0.length+3)):=by rw [hst];simp [C9]
 have hlt:=(List.getElem?_eq_some_iff.1 hlp).1
 refine Exists.elim (round_of_aw2 (A:=A) (fn:=83) (r:=st0.length+4) (F:=a83) (site:=0) (ps:=[13,14]) (env:=env) (d:=st0.length+3) (pend:=none) (args:=[x.av,.bool ok]) (st:=st)
  (asg:=(a83.sites.getD 0 (.skip,.skip)).1) (body:=(a83.sites.getD 0 (.skip,.skip)).2) (env1:=((((env.set 13 x.av).set 14 (.bool ok)).set 5 (.ptr st.length 0)).set 6 (.bool ok))) (st1:=st++[.cells none x.av.cells])
  (G:=fun b st'=>Steady (st0.length+5) st st'∧b=ok ∧
   (ok=true→∃ap' l',st'=C9 st0 env (us++[x]) ap' .ready none 0 0++l'∧StOk st'∧Own st' (st0.length+5) 4 (some 55) ap' (us++[x]).length) ∧
   (ok=false→∃us' ap' l',st'=C9 st0 env us' ap' .done (some .ret) 1 x.pos++l'))
  fn83 rfl rfl hlp (by simp [a83,he,Tok.av,putCells]) (by rw [List.getElem?_append_left hlt];exact hlp) ?_) (fun b ⟨st',h,hb⟩=>⟨b,st',h,hb⟩)
 intro K hn hr _
 simp only [a83,List.getD_cons_zero]
 obtain ⟨l1,hl1⟩:∃l1,l1=l++[.cells none x.av.cells]:=⟨_,rfl⟩
 have hS:(st++[AObj.cells none x.av.cells]).set (st0.length+4) (.loop .busy none 83 0 [13,14] env (st0.length+3))=C9 st0 env us ap .busy none 0 0++l1:=by
  rw [hst,hl1];simp [C9,set_base]
 have hsd:Steady (st0.length+5) st (C9 st0 env us ap .busy none 0 0++l1):=by
  rw [←hS];exact (Steady.app _ _ _).trans (Steady.set (by omega))
 rw [hS]
 have hx:(C9 st0 env us ap .busy none 0 0++l1)[st.length]?=some (.cells none x.av.cells):=by
  rw [←hS,List.getElem?_set_ne (by omega)];simp
 simp [Tok.av] at hx
 cases ok with
 | false =>
  simp [C9,Tok.av] at hx ⊢
  simp [C9,he,h2,h3,h4,hx,Tok.av,putCells,set_base,get_base]
  refine hr _ _ (by simp) ⟨?_,rfl,nofun,fun _=>⟨us,ap,l1,by simp [C9,set_base]⟩⟩
  refine hsd.trans ?_
  refine Steady.trans ?_ (Steady.set (by omega))
  have:=Steady.suffix (b:=st0.length+5) (x:=C9 st0 env us ap .busy none 0 0) (y:=C9 st0 env us ap .busy none 1 x.pos) (l:=l1) C9_len C9_len
  simpa [C9] using this
 | true =>
  have hok1:StOk (C9 st0 env us ap .busy none 0 0++l1):=by
   rw [←hS]
   have hk:=hok.snoc (o:=.cells none x.av.cells) (by have:=tok_low (st.length+1) x;simpa [Tok.av,AObj.lowB,AV.lowB] using this)
   exact hk.set' (by have:=hk.get (i:=st0.length+4) (by rw [List.getElem?_append_left hlt];exact hlp);simpa [AObj.lowB] using this)
  have how1:OwnW (C9 st0 env us ap .busy none 0 0++l1) (st0.length+5) 4 (some 55) ap us.length:=by
   rw [←hS];exact (how.app _).set (by omega)
  obtain ⟨ap',st2,hap,ho',hg,hsd2⟩:=own_app_out (x:=x) (by simp [C9_len]) how1 h0 hlen rfl
  obtain ⟨l2,rfl⟩:=hg.split C9_len
  have hok2:=hg.ok hok1
  have hlow:=out_low ho'.weak
  simp [C9,Tok.av] at hx hap ⊢
  simp [C9,he,h2,h3,h4,hx,hap,Tok.av,putCells,set_base,get_base]
  have hfin:C9 st0 env (us++[x]) ap' .ready none 0 0++l2=((C9 st0 env us ap .busy none 0 0++l2).set (st0.length+2) (.cells none [outAv (us++[x]) ap'])).set (st0.length+4) (.loop .ready none 83 0 [13,14] env (st0.length+3)):=by
   simp [C9,set_base]
  refine hn _ _ (by simp) ⟨?_,rfl,fun _=>⟨ap',l2,by simp [C9,set_base],?_,?_⟩,nofun⟩
  ·have h:=(hsd.trans hsd2).trans ((Steady.set (i:=st0.length+2) (o:=.cells none [outAv (us++[x]) ap']) (by omega)).trans (Steady.set (i:=st0.length+4) (o:=.loop .ready none 83 0 [13,14] env (st0.length+3)) (by omega)))
   rw [←hfin] at h
   simpa [C9,set_base] using h
  ·have h:StOk (C9 st0 env (us++[x]) ap' .ready none 0 0++l2):=by
    rw [hfin]
    refine (hok2.set' (by simpa [AObj.lowB,AV.lowsB] using hlow)).set' ?_
    have:=hok2.get (i:=st0.length+4) (o:=.loop .busy none 83 0 [13,14] env (st0.length+3)) (by simp [C9])
    simpa [AObj.lowB] using this
   simpa [C9,set_base] using h
  ·have h:Own (C9 st0 env (us++[x]) ap' .ready none 0 0++l2) (st0.length+5) 4 (some 55) ap' (us++[x]).length:=by
    rw [hfin]
    exact (ho'.set (by omega)).set (by omega)
   simpa [C9,set_base] using h
theorem lex_call {s:List UInt8} (hs:s.length≤281474976710656) {st:St} (hst:StOk st):runL A (.call 83 [.str s]) st=some ⟨.ret,⟨[.tup [(lexP s).1,(lexP s).2]],[]⟩,st⟩:=by
 refine (task_of_aw_d (N:=26) prim83 fn83 rfl rfl hst ?_).1
 intro e he ha K hK
 have a0:=ha 0
 have hlow:AV.lowsB (st.length+5) e=true:=lows_args ha rfl
 clear ha
 simp at a0
 by_cases hbig:20000<s.length
 ·have hbig':(20000:Int)<(s.length:Int):=by omega
  simp [a83,he,a0,hbig,hbig',putCells,set_base,get_base]
  exact hK _ _ _ _ _ (.inl rfl) (by simp;rfl) (by simp) ⟨[noToks,flt 10 0],by simp [a83,he,takeVar,noToks,flt],by simp [lexP,hbig,noToks,flt,AV.stills,AV.still]⟩
 ·have hbig':¬(20000:Int)<(s.length:Int):=by omega
  have hst1:StOk (st++[.cells none [.lst 4 [] .tight],.cells none [.int .i64 0,.int .i64 0],.cells none [.lst 4 [] .tight]]):=by
   have:=((hst.snoc (o:=.cells none [.lst 4 [] .tight]) rfl).snoc (o:=.cells none [.int .i64 0,.int .i64 0]) rfl).snoc (o:=.cells none [.lst 4 [] .tight]) rfl
   simpa using this
  have ht:=tokens_call (s:=s) hst1
  simp [a83,he,a0,hbig,hbig',ht]
  generalize hE:(List.set _ 12 _:Env)=E
  have hEv:E9 E st.length:=by subst hE;exact ⟨by simp [he],by simp [he],by simp [he],by simp [he]⟩
  have hf:AX.ev E (.t 12)=.func (.func 138) [] [.iptr (.str s)]:=by subst hE;simp [he]
  have hlE:AV.lowsB (st.length+5) E=true:=by
   subst hE
   repeat' refine lows_set ?_ (by simp [AV.lowB,AV.lowsB])
   exact hlow
  obtain ⟨he1,h2,h3,h4⟩:=hEv
  clear hE
  have hok0:StOk (C9 st E [] .tight .ready none 0 0):=by
   have h:=(hst1.snoc (o:=.defr (some [])) rfl).snoc (o:=.loop .ready none 83 0 [13,14] E (st.length+3)) (by simp [AObj.lowB];exact hlE)
   simpa [C9,outAv] using h
  obtain ⟨st3,hr,hS⟩:=toks_run (s:=s) (r:=st.length+4) (st0:=C9 st E [] .tight .ready none 0 0) (by omega)
   (fun i st'=>∃us ap l,st'=C9 st E us ap .ready none 0 0++l∧StOk st'∧OwnW st' (st.length+5) 4 (some 55) ap us.length∧(us=[]→ap=.tight)∧i≤s.length∧us.length≤i∧lexK s 0=(lexS (s.drop i) i).map (us++·))
   (fun st'=>(∃q us ap l,lexK s 0=.error q∧st'=C9 st E us ap .done (some .ret) 1 q++l) ∨
    ∃us ap l,lexK s 0=.ok us∧us≠[]∧st'=C9 st E us ap .ready none 0 0++l∧Own st' (st.length+5) 4 (some 55) ap us.length)
   (fun i st' h=>by obtain ⟨us,ap,l,_,h,_⟩:=h;exact h)
   (fun i st' o h hlo=>by
    obtain ⟨us,ap,l,rfl,h1,h2,h3⟩:=h
    exact ⟨us,ap,l++[o],by simp,h1.snoc hlo,h2.app _,h3⟩)
   (fun i st' hi h=>by
    obtain ⟨us,ap,l,h0,h1,h2,h3,h4,h5,h6⟩:=h
    obtain ⟨b,st2,hr,hsd,hb,hok,hbad⟩:=lex_round ⟨he1,by assumption,by assumption,by assumption⟩ (x:=(tokOf (s.drop i) i).1) (ok:=(tokOf (s.drop i) i).2) h0 h1 h2 h3 (by omega)
    have hd:=List.drop_eq_getElem_cons hi
    obtain ⟨c,hc⟩:∃c,c=s[i]:=⟨_,rfl⟩
    rw [←hc] at hd
    refine ⟨b,st2,hr,by rw [C9_len];exact hsd,fun hb'=>?_,fun hb'=>?_⟩
    ·rw [hb] at hb'
     obtain ⟨ap',l',g1,g2,g3⟩:=hok hb'
     have htk:tokOf (c::s.drop (i+1)) i=((tokOf (s.drop i) i).1,true):=by rw [←hd,←hb']
     have hle:=tokOf_le htk
     have hpos:=tokOf_pos (c:=c) (l:=s.drop (i+1)) (pos:=i) (by rw [htk])
     rw [htk] at hpos
     rw [←hd,List.length_drop] at hle
     have hsk:=skipN_le false (s.drop (i+(tokOf (s.drop i) i).1.text.length))
     rw [List.length_drop] at hsk
     refine ⟨hb',us++[(tokOf (s.drop i) i).1],ap',l',g1,g2,g3.weak,by simp,?_,?_,?_⟩
     ·unfold nextAt;omega
     ·simp at hpos ⊢;unfold nextAt;omega
     ·rw [h6,hd,lexS_tok htk,←hd,List.drop_drop,lexK,List.drop_drop,map_map']
      simp [nextAt]
    ·rw [hb] at hb'
     obtain ⟨us',ap',l',g1⟩:=hbad hb'
     refine .inl ⟨i,us',ap',l',?_,?_⟩
     ·rw [h6,hd,lexS_bad (by rw [←hd];exact hb')];rfl
     ·rw [g1,hd,(tokOf_shift c (s.drop (i+1)) i i).2])
   (fun st' h=>by
    obtain ⟨us,ap,l,h0,h1,h2,h3,h4,h5,h6⟩:=h
    obtain ⟨b,st2,hr,hsd,hb,hok,hbad⟩:=lex_round ⟨he1,by assumption,by assumption,by assumption⟩ (x:=endTok s.length) (ok:=true) h0 h1 h2 h3 (by omega)
    obtain ⟨ap',l',g1,g2,g3⟩:=hok rfl
    refine ⟨b,st2,hr,.inr ⟨_,ap',l',?_,by simp,g1,g3⟩⟩
    rw [h6,List.drop_length,lexS_nil];rfl)
   ⟨[], .tight, [], by simp, hok0, .inl rfl, fun _ => rfl, skipN_le false s, by simp, by
     have:∀x:Except Nat (List Tok),x.map ([]++·)=x:=fun x=>by cases x<;>rfl
     rw [this,lexK];simp⟩
  rcases hS with ⟨q,us,ap,l,hx,rfl⟩ | ⟨us,ap,l,hx,hne,rfl,how⟩
  ·refine aw_range (s:=.done) (pend:=some .ret) (f':=83) (site':=0) (ps':=[13,14]) (env':=E) (d':=st.length+3) (st3:=C9 st E us ap .done (some .ret) 1 q++l) hf (by simpa [C9,outAv,Nat.add_assoc] using hr) (by simp [C9,Nat.add_assoc]) (by simp) ?_
   simp [pendEx,C9,Nat.add_assoc]
   exact hK _ _ _ _ _ (.inl rfl) (by simp;rfl) (by simp) ⟨[noToks,flt 1 q],by simp [a83,h2,h3,takeVar,noToks,flt],by simp [lexP,hbig,hx,noToks,flt,AV.stills,AV.still]⟩
  ·refine aw_range (s:=.ready) (pend:=none) (f':=83) (site':=0) (ps':=[13,14]) (env':=E) (d':=st.length+3) (st3:=C9 st E us ap .ready none 0 0++l) hf (by simpa [C9,outAv,Nat.add_assoc] using hr) (by simp [C9,Nat.add_assoc]) (by simp) ?_
   simp [pendEx,C9,h2,h3,h4,he1,Nat.add_assoc,putCells,set_base,get_base]
   have hst2:=fun S:St=>still_toks (n:=st.length) (st:=S) hne how (by omega)
   exact hK _ _ _ _ _ (.inl rfl) (by simp;rfl) (by simp) ⟨[outAv us ap,flt 0 0],by simp [a83,h2,h3,he1,takeVar,flt],by
    simp only [oneOf]
    rw [still_tup2 (hst2 _) (b':=flt 0 0) (by simp [flt,AV.still,AV.stills])]
    simp [lexP,hbig,hx]⟩
end Go.Proofs.YtgkhmmlemgikjaaGreatDoor.Lx
