/- Part Kr. No condition. -/
import Derived.Test.YtgkhmmlemgikjaaGreatDoorKe
import Derived.Test.YtgkhmmlemgikjaaGreatDoorEh
import Derived.Test.YtgkhmmlemgikjaaGreatDoorEd
import Derived.Test.YtgkhmmlemgikjaaGreatDoorKa
import Derived.Lib.ItoaLen
import Derived.Test.YtgkhmmlemgikjaaGreatDoorKo
set_option linter.unusedVariables false
set_option linter.unusedSimpArgs false
namespace Go.Proofs.YtgkhmmlemgikjaaGreatDoor
open Go Ai
theorem fn110:A.fn 110=some a110:=by kernel_rfl
theorem prim110:A.prim 110=none:=by kernel_rfl
theorem fn61:A.fn 61=some a61:=by kernel_rfl
theorem prim61:A.prim 61=none:=by kernel_rfl
def w61_0:List Nat:=a61_0.writes
theorem prim134:A.prim 134=some (copyA 72 4):=rfl
theorem prim36:A.prim 36=some (stringA 72 5):=rfl
def Buf (r:Nat) (st:St) (a b:AV) (bs:Sx):Prop :=
 (bs=[]∧(b=.nilSl∨b=.lst 1 [] .tight))∨∃id,r<id∧a=.ptr r 0∧b=.lst 1 (bs.map byteV) (.tok id)∧st[id]?=some (.tok 1 bs.length (some 5))∧bs≠[]
structure WrOk (r:Nat) (D X:AV) (st:St) (bs:Sx):Prop where
 cell:∃a b,st[r]?=some (.cells (some 72) [a,b,D,X])∧(a=.nilPtr∨a=.ptr r 0)∧Buf r st a b bs
 ok:StOk st
structure WKeep (r:Nat) (st st':St):Prop where
 t:st'.take r=st.take r
 l:st.length≤st'.length
theorem WKeep.refl {r:Nat} {st:St}:WKeep r st st:=⟨rfl,Nat.le_refl _⟩
theorem WKeep.trans {r:Nat} {a b c:St} (h:WKeep r a b) (g:WKeep r b c):WKeep r a c:=⟨g.t.trans h.t,Nat.le_trans h.l g.l⟩
def Puts (r:Nat) (D X:AV) (f:Nat) (args:List AV) (T:Sx):Prop :=
 ∀(st:St) (bs:Sx),WrOk r D X st bs→bs.length+T.length≤Ai.great→∃st',runL A (.call f args) st=some ⟨.ret,⟨[.tup []],[]⟩,st'⟩∧WrOk r D X st' (bs++T)∧WKeep r st st'
theorem ofBytes_byteV:∀l:Sx,ofBytes (l.map byteV)=some l
 | []=>rfl
 | b::l=>by
  have:=b.toNat_lt
  simp [byteV,ofBytes,ofBytes_byteV l];omega
theorem callDef_ex {A:AProg} {f:FuncId} {F:AFunc} {args:List AV} {N:Nat} {st:St} (G:Option AV×St→Prop) {u:Option AV} (hf:A.fn f=some F) (hN:args.length+(F.ntmps-args.length)=N) (hb:startsRec F.body=false)
  (h:∀e:Env,e.length=N→(∀i,AX.ev e (.t i)=args.getD i .undef)→∀K:PostQ,
   (∀x e st' q,defOut F st.length u x e st'=some q→G q→K x e [] st')→AW A f none F.body e [] st K) :
  ∃q,G q∧callDef A (runL A) f args u st=some q:=by
 obtain ⟨x,e',ds',st',hx,rfl,q,h1,h2⟩:=h (args++List.replicate (F.ntmps-args.length) .undef) (by simpa using hN) env_ev
  (fun x e ds st'=>ds=[]∧∃q,defOut F st.length u x e st'=some q∧G q) (fun x e st' q h1 h2=>⟨rfl,q,h1,h2⟩)
 have:defBody (runL A) f F args u st=(some ⟨x,⟨e',[]⟩,st'⟩,u):=by
  unfold defBody
  split
  ·rename_i d d' d'' c hc;rw [hc] at hb;cases hb
  ·rw [show env0 args F.ntmps=args++List.replicate (F.ntmps-args.length) .undef from rfl,hx]
 refine ⟨q,h2,?_⟩
 simp only [callDef,hf,this]
 exact h1
theorem low_byteV {n:Nat} (l:Sx):AV.lowsB n (l.map byteV)=true:=lows_all fun x hx=>by obtain ⟨b,_,rfl⟩:=List.mem_map.1 hx;rfl
section
variable {r:Nat} {D X:AV} {st:St} {bs:Sx}
theorem WrOk.lt (h:WrOk r D X st bs):r<st.length:=by
 obtain ⟨a,b,h1,_⟩:=h.cell
 exact (List.getElem?_eq_some_iff.1 h1).1
theorem app_buf {a b:AV} {cs:List AV} {ty:Option TypeId} (hr:st[r]?=some (.cells ty cs)) (hb:Buf r st (.ptr r 0) b bs) (s:Sx) (hl:bs.length+s.length≤Ai.great) :
  ∃b' st2,appendA 1 1 (some 5) st b (.str s)=some (.val b' st2)∧b'.isCell=true∧st2[r]?=some (.cells ty cs)∧(∀o,Buf r (st2.set r o) (.ptr r 0) b' (bs++s))∧WKeep r st st2∧(StOk st→StOk st2)∧AV.lowB st2.length b'=true:=by
 have hlt:=(List.getElem?_eq_some_iff.1 hr).1
 by_cases hs:s=[]
 ·subst hs
  rcases hb with ⟨rfl,rfl | rfl⟩ | ⟨id,h1,h2,rfl,h4,h5⟩
  ·exact ⟨.lst 1 [] .tight,st,by simp [appendA,elemsOf,AV.asLst,Ai.great],rfl,hr,fun _=>.inl ⟨rfl,.inr rfl⟩,.refl,_root_.id,rfl⟩
  ·exact ⟨.lst 1 [] .tight,st,by simp [appendA,elemsOf,AV.asLst,Ai.great],rfl,hr,fun _=>.inl ⟨rfl,.inr rfl⟩,.refl,_root_.id,rfl⟩
  ·have ht:tokIs st id 1 bs.length=true:=by simp [tokIs,h4]
   have hg:bs.length≤Ai.great:=by simpa using hl
   have hid:=(List.getElem?_eq_some_iff.1 h4).1
   refine ⟨.lst 1 (bs.map byteV) (.tok id),st,by simp [appendA,elemsOf,AV.asLst,ht,hg],rfl,hr,fun o=>.inr ⟨id,h1,rfl,by simp,?_,by simpa using h5⟩,.refl,_root_.id,?_⟩
   ·rw [List.getElem?_set_ne (by omega),h4];simp
   ·have:=low_byteV (n:=st.length) bs
    simp [AV.lowB,hid] at this ⊢;exact this
 ·have hsp:s.map byteV≠[]:=by simpa using hs
  have key:∀b,(b=.nilSl∨b=.lst 1 [] .tight)→s.length≤Ai.great→∃b' st2,appendA 1 1 (some 5) st b (.str s)=some (.val b' st2)∧b'.isCell=true∧st2[r]?=some (.cells ty cs)∧(∀o,Buf r (st2.set r o) (.ptr r 0) b' ([]++s))∧WKeep r st st2∧(StOk st→StOk st2)∧AV.lowB st2.length b'=true:=by
   intro b hb hl
   refine ⟨.lst 1 (s.map byteV) (.tok st.length),st++[.tok 1 s.length (some 5)],?_,rfl,?_,fun o=>.inr ⟨st.length,hlt,rfl,by simp,?_,by simpa using hs⟩,⟨?_,by simp⟩,fun h=>h.snoc rfl,?_⟩
   ·rcases hb with rfl | rfl<;>simp [appendA,elemsOf,AV.asLst,hs,hl]
   ·rw [List.getElem?_append_left hlt];exact hr
   ·rw [List.getElem?_set_ne (by omega)];simp
   ·rw [List.take_append_of_le_length (by omega)]
   ·have:=low_byteV (n:=st.length+1) s
    simp [AV.lowB] at this ⊢;exact this
  rcases hb with ⟨rfl,hb⟩ | ⟨id,h1,h2,rfl,h4,h5⟩
  ·exact key b hb (by simpa using hl)
  ·have ht:tokIs st id 1 bs.length=true:=by simp [tokIs,h4]
   have hy:tokTy st id=some 5:=by simp [tokTy,h4]
   have hid:=(List.getElem?_eq_some_iff.1 h4).1
   refine ⟨.lst 1 ((bs++s).map byteV) (.tok id),st.set id (.tok 1 (bs.length+s.length) (some 5)),?_,rfl,?_,fun o=>.inr ⟨id,h1,rfl,rfl,?_,by simp [h5]⟩,⟨?_,by simp⟩,fun h=>h.set' rfl,?_⟩
   ·simp [appendA,elemsOf,AV.asLst,hs,ht,hy,hl]
   ·rw [List.getElem?_set_ne (by omega)];exact hr
   ·rw [List.getElem?_set_ne (by omega)];simp [hid]
   ·rw [List.take_set];exact List.set_eq_of_length_le (by simp;omega)
   ·have:=low_byteV (n:=st.length) (bs++s)
    simp [AV.lowB,hid] at this ⊢;exact this
theorem copy_call {b:AV} {a:AV} (h:st[r]?=some (.cells (some 72) [a,b,D,X])) (ha:a=.nilPtr∨a=.ptr r 0):runL A (.call 134 [.ptr r 0]) st=some ⟨.ret,⟨[.tup []],[]⟩,st.set r (.cells (some 72) [.ptr r 0,b,D,X])⟩:=by
 rcases ha with rfl | rfl
 ·rw [runL_eq];simp only [layer,prim134,copyA,bldOf,h,if_true,List.length_cons,List.length_nil,Nat.zero_add,Nat.reduceAdd]
 ·have hs:st.set r (.cells (some 72) [.ptr r 0,b,D,X])=st:=by
   apply List.ext_getElem?
   intro i
   by_cases hi:i=r
   ·subst hi;rw [List.getElem?_set_self (List.getElem?_eq_some_iff.1 h).1,h]
   ·rw [List.getElem?_set_ne (fun e=>hi e.symm)]
  rw [hs,runL_eq];simp only [layer,prim134,copyA,bldOf,h,if_true]
theorem ws110 (hD:D.isCell=true) (hX:X.isCell=true) (s:Sx) {st:St} {bs:Sx} (h:WrOk r D X st bs) (hl:bs.length+s.length≤Ai.great) :
  ∃st',runL A (.call 110 [.ptr r 0,.str s]) st=some ⟨.ret,⟨[.tup [.int .i64 s.length,.nilIface]],[]⟩,st'⟩∧WrOk r D X st' (bs++s)∧WKeep r st st':=by
 obtain ⟨a,b,h1,ha',hb⟩:=h.cell
 have hlt:=h.lt
 have hc:=copy_call h1 ha'
 have lw:AObj.lowB st.length (.cells (some 72) [a,b,D,X])=true:=h.ok.get h1
 simp only [AObj.lowB,AV.lowsB,Bool.and_true,Bool.and_eq_true] at lw
 have ok1:StOk (st.set r (.cells (some 72) [.ptr r 0,b,D,X])):=h.ok.set' (by simp [AObj.lowB,AV.lowsB,AV.lowB,hlt,lw])
 have hr1:(st.set r (.cells (some 72) [.ptr r 0,b,D,X]))[r]?=some (.cells (some 72) [.ptr r 0,b,D,X]):=by simp [hlt]
 have hb1:Buf r (st.set r (.cells (some 72) [.ptr r 0,b,D,X])) (.ptr r 0) b bs:=by
  rcases hb with h2 | ⟨id,g1,g2,g3,g4,g5⟩
  ·exact .inl h2
  ·exact .inr ⟨id,g1,rfl,g3,by rw [List.getElem?_set_ne (by omega)];exact g4,g5⟩
 obtain ⟨b',st2,p1,p2,p3,p4,p5,p6,p7⟩:=app_buf (a:=a) hr1 hb1 s hl
 have hbc:b.isCell=true:=by
  rcases hb with ⟨_,rfl | rfl⟩ | ⟨id,_,_,rfl,_⟩<;>rfl
 have hl2:st.length≤st2.length:=by have:=p5.l;simpa using this
 obtain ⟨st',hG,hc2,_⟩:=task_of_aw_keep_ex (A:=A) (f:=110) (F:=a110) (args:=[.ptr r 0,.str s]) (v:=.tup [.int .i64 s.length,.nilIface]) (N:=19) (st:=st)
  (fun st'=>st'=st2.set r (.cells (some 72) [.ptr r 0,b',D,X])) prim110 fn110 rfl rfl (by
   intro e he ha K hK
   have a0:=ha 0
   have a1:=ha 1
   clear ha
   simp at a0 a1
   simp [a110,he,a0,a1,hc,hr1,hbc,hD,hX,p1,p2,p3,Ai.beq_refl,hlt]
   exact hK _ _ _ (.inl rfl) (by simp) ⟨_,rfl,by simp [he]⟩)
 subst hG
 have hlt2:r<st2.length:=by omega
 refine ⟨_,hc2,⟨⟨.ptr r 0,b',by simp [hlt2],.inr rfl,p4 _⟩,(p6 ok1).set' ?_⟩,⟨?_,by simpa using hl2⟩⟩
 ·have d1:=AV.low_le hl2 D lw.2.2.1
  have d2:=AV.low_le hl2 X lw.2.2.2
  simp [AObj.lowB,AV.lowsB,AV.lowB,hlt2,p7,d1,d2]
 ·rw [List.take_set,List.set_eq_of_length_le (by simp;omega),p5.t,List.take_set,List.set_eq_of_length_le (by simp;omega)]
theorem put_aw (hD:D.isCell=true) (hX:X.isCell=true) {l:List Sx} {ap:Ap} (h:WrOk r D X st bs) (hl:bs.length+l.flatten.length≤Ai.great) (hn:l.length≤1000) {e:Env} (he:e.length=18) (a0:AX.ev e (.t 0)=.ptr r 0) (a1:AX.ev e (.t 1)=.lst 1 (strs l) ap) {K:PostQ}
  (hK:∀e2 st',WrOk r D X st' (bs++l.flatten)→WKeep r st st'→K .nrm e2 [] st'):AW A 61 none a61.body e [] st K:=by
 simp [a61,he,a0,a1,strs_length]
 refine aw_loop (W:=w61_0) rfl (fun m e ds st'=>ds=[]∧∃i:Nat,i+m=l.length∧AX.ev e (.t 8)=.int .i64 i∧WrOk r D X st' (bs++(l.take i).flatten)∧WKeep r st st') l.length
  ⟨rfl,0,by simp,by simp [he],by simpa using h,.refl⟩ ?_
 rintro m e1 ds st' hs ⟨rfl,i,hm,g8,hw,hk⟩ K1 kn kx
 have he1:e1.length=18:=by simp [hs.1,he]
 have g0:=hs.ev 0 rfl (v:=.ptr r 0) (by simp [he,a0])
 have g6:=hs.ev 6 rfl (v:=.lst 1 (strs l) ap) (by simp [he])
 have g7:=hs.ev 7 rfl (v:=.int .i64 l.length) (by simp [he])
 by_cases hi:i<l.length
 ·obtain ⟨s,hsx⟩:∃s,s=l[i]:=⟨_,rfl⟩
  have hg:=strs_get hi
  rw [←hsx] at hg
  have ht:(l.take (i+1)).flatten=(l.take i).flatten++s:=by
   have e1:l.take (i+1)=l.take i++[l[i]]:=by simp
   rw [e1,List.flatten_append,hsx];simp
  have hle:(l.take (i+1)).flatten.length≤l.flatten.length:=by
   conv=>rhs;rw [←List.take_append_drop (i+1) l,List.flatten_append,List.length_append]
   omega
  rw [ht,List.length_append] at hle
  obtain ⟨s2,c2,w2,k2⟩:=ws110 hD hX s hw (by rw [List.length_append];omega)
  have w1:IntKind.i64.wrap ((i:Int)+1)=(i:Int)+1:=wrap_i64 (by omega) (by omega)
  simp [a61_0,g0,g6,g7,g8,he1,hi,hg,strs_length,c2,w1]
  exact kn (m-1) _ _ _ (by omega) ⟨rfl,i+1,by omega,by simp [he1],by rw [ht,←List.append_assoc];exact w2,hk.trans k2⟩
 ·obtain rfl:i=l.length:=by omega
  rw [List.take_length] at hw
  simp [a61_0,g7,g8,he1]
  exact kx _ _ _ _ nofun fun hs'=>hK _ _ hw hk
theorem put61 (hD:D.isCell=true) (hX:X.isCell=true) (l:List Sx) (ap:Ap) (hn:l.length≤1000):Puts r D X 61 [.ptr r 0,.lst 1 (strs l) ap] l.flatten:=fun st bs h hl=>by
 obtain ⟨q,⟨s',h1,h2,h3⟩,h4,_⟩:=task_tail (A:=A) (st:=st) (f:=61) (args:=[.ptr r 0,.lst 1 (strs l) ap]) (N:=18) (fun q=>∃s',q=(⟨.ret,⟨[.tup []],[]⟩,s'⟩:Res)∧WrOk r D X s' (bs++l.flatten)∧WKeep r st s') prim61 fn61 rfl (by
  intro e he ha K hK
  have a0:=ha 0
  have a1:=ha 1
  clear ha
  simp at a0 a1
  exact put_aw hD hX h hl hn he a0 a1 fun e2 st' w k=>hK _ _ _ _ _ (by simp [tailA,runDefs,a61,resultsA,oneOf]) ⟨_,rfl,w,k⟩)
 subst h1
 exact ⟨s',h4,h2,h3⟩
theorem put_def (hD:D.isCell=true) (hX:X.isCell=true) (l:List Sx) (ap:Ap) (hn:l.length≤1000) (h:WrOk r D X st bs) (hl:bs.length+l.flatten.length≤Ai.great) :
  ∃st',callDef A (runL A) 61 [.ptr r 0,.lst 1 (strs l) ap] none st=some (none,st')∧WrOk r D X st' (bs++l.flatten)∧WKeep r st st':=by
 obtain ⟨q,⟨s',h1,h2,h3⟩,h4⟩:=callDef_ex (A:=A) (st:=st) (f:=61) (args:=[.ptr r 0,.lst 1 (strs l) ap]) (N:=18) (u:=none) (fun q=>∃s',q=((none,s'):Option AV×St)∧WrOk r D X s' (bs++l.flatten)∧WKeep r st s') fn61 rfl rfl (by
  intro e he ha K hK
  have a0:=ha 0
  have a1:=ha 1
  clear ha
  simp at a0 a1
  exact put_aw hD hX h hl hn he a0 a1 fun e2 st' w k=>hK _ _ _ _ (by simp [defOut,a61,resultsA]) ⟨_,rfl,w,k⟩)
 subst h1
 exact ⟨s',h4,h2,h3⟩
theorem str_call (h:WrOk r D X st bs) (hne:bs≠[]) (hl:bs.length≤Ai.great) :
  ∃st',runL A (.call 36 [.ptr r 0]) st=some ⟨.ret,⟨[.str bs],[]⟩,st'⟩∧st'.take r=st.take r:=by
 obtain ⟨a,b,h1,ha',hb⟩:=h.cell
 rcases hb with ⟨h2,_⟩ | ⟨id,g1,g2,rfl,g4,g5⟩
 ·exact absurd h2 hne
 ·have hne':bs.map byteV≠[]:=by simpa using hne
  refine ⟨(st.set id .dead).set r (.cells (some 72) [a,.lst 1 (bs.map byteV) .no,D,X]),?_,?_⟩
  ·have hc:bs.map byteV≠[]∧id≠r∧(bs.map byteV).length≤Ai.great:=⟨hne',by omega,by simpa using hl⟩
   rw [runL_eq];simp only [layer,prim36,stringA,bldOf,h1,if_true,hc,g4,List.length_map,ofBytes_byteV,Option.map_some,ne_eq,not_false_eq_true,and_self,hl,true_and]
  ·rw [List.take_set,List.take_set,List.set_eq_of_length_le (by simp;omega),List.set_eq_of_length_le (by simp;omega)]
theorem str_nil (h1:st[r]?=some (.cells (some 72) [.nilPtr,.nilSl,D,X])):runL A (.call 36 [.ptr r 0]) st=some ⟨.ret,⟨[.str []],[]⟩,st⟩:=by
 rw [runL_eq];simp only [layer,prim36,stringA,bldOf,h1,if_true]
end
end Go.Proofs.YtgkhmmlemgikjaaGreatDoor
namespace Go.Proofs.YtgkhmmlemgikjaaGreatDoor
open Go Ai
def byteOf (n:Nat):UInt8:=UInt8.ofNat (48+n)
def fr:Nat→Nat→List UInt8
 | 0,_=>[]
 | n+1,b=>byteOf (b * 10 / 4294967296)::fr n (b * 10 % 4294967296)
def trim0 (l:List UInt8):List UInt8:=Lib.trimRightB l 48
def shortF (q:Int) (k:Nat):List UInt8 :=
 let s:=(if q<0 then [45] else [])++Lib.decDigits (q.natAbs / 4294967296)
 let f:=trim0 (fr k (q.natAbs % 4294967296))
 if f=[] then s else s++46::f
def clamp (n:Int):Nat:=if n<0 then 0 else if 32<n then 32 else n.toNat
theorem fr_length:∀n b,(fr n b).length=n
 | 0,_=>rfl
 | n+1,b=>by simp [fr,fr_length n]
theorem dec_len (u:Nat) (h:u<18446744073709551616):(Lib.decDigits u).length≤20:=by
 rw [Lib.decDigits_length];exact Lib.nDigits_le20 u h
theorem trim0_snoc (l:List UInt8):trim0 (l++[48])=trim0 l:=by
 simp [trim0,Lib.trimRightB]
theorem trim0_keep {l:List UInt8} {c:UInt8} (h:c≠48):trim0 (l++[c])=l++[c]:=by
 simp [trim0,Lib.trimRightB,h]
theorem trim0_zeros (l:List UInt8):∀k,trim0 (l++List.replicate k 48)=trim0 l
 | 0=>by simp
 | k+1=>by
  rw [List.replicate_succ',←List.append_assoc,trim0_snoc,trim0_zeros l k]
theorem fr_zero:∀k,fr k 0=List.replicate k 48
 | 0=>rfl
 | k+1=>by simp [fr,fr_zero k,List.replicate_succ];decide
theorem wrap_u64 {n:Int} (h0:0≤n) (h1:n<18446744073709551616):IntKind.u64.wrap n=n:=by
 simp [IntKind.wrap,IntKind.signed,IntKind.bits];omega
theorem wrap_u8 {n:Int} (h0:0≤n) (h1:n<256):IntKind.u8.wrap n=n:=by
 simp [IntKind.wrap,IntKind.signed,IntKind.bits];omega
theorem tmodN {u:Nat} {b:Int}:(u:Int).tmod b=(u:Int) % b:=Int.tmod_eq_emod_of_nonneg (by omega)
attribute [simp] tmodN
end Go.Proofs.YtgkhmmlemgikjaaGreatDoor
namespace Go.Proofs.YtgkhmmlemgikjaaGreatDoor
open Go Ai
theorem runL_pure {f:FuncId} {h:List AV→Option AV} {args:List AV} {v:AV} {st:St} (hp:A.prim f=some (pureP h)) (hv:h args=some v):runL A (.call f args) st=some ⟨.ret,⟨[v],[]⟩,st⟩:=by
 rw [runL_eq];simp only [layer,hp,pureP,hv,Option.map_some]
theorem prim146:A.prim 146=some (pureP fmtUintA):=rfl
theorem prim162:A.prim 162=some (pureP trimRightA):=rfl
theorem prim114:A.prim 114=some (pureP joinA):=rfl
theorem fmt_call {u:Nat} (hu:u<18446744073709551616) {st:St}:runL A (.call 146 [.int .u64 u,.int .i64 10]) st=some ⟨.ret,⟨[.str (Lib.decDigits u)],[]⟩,st⟩ :=
 runL_pure prim146 (by simp [fmtUintA,decF_eq 20 u (by omega) (by omega)];omega)
theorem trim_call {s:List UInt8} (hs:s.length≤9223372036854775807) {st:St}:runL A (.call 162 [.str s,.str [48]]) st=some ⟨.ret,⟨[.str (trim0 s)],[]⟩,st⟩ :=
 runL_pure prim162 (by simp [trimRightA,hs,trim0])
theorem strsA_map:∀l:List (List UInt8),strsA (l.map AV.str)=some l
 | []=>rfl
 | s::l=>by simp [strsA,strsA_map l]
theorem join_call {l:List (List UInt8)} {sep:List UInt8} {ap:Ap} (hl:(Lib.join l sep).length≤140737488355328) (hn:l.length≤140737488355328) {st:St} :
  runL A (.call 114 [.lst 1 (l.map AV.str) ap,.str sep]) st=some ⟨.ret,⟨[.str (Lib.join l sep)],[]⟩,st⟩ :=
 runL_pure prim114 (by simp [joinA,strsA_map,hl,hn])
theorem fn145:A.fn 145=some a145:=by kernel_rfl
theorem prim145:A.prim 145=none:=by kernel_rfl
theorem fn147:A.fn 147=some a147:=by kernel_rfl
theorem prim147:A.prim 147=none:=by kernel_rfl
theorem fn148:A.fn 148=some a148:=by kernel_rfl
theorem prim148:A.prim 148=none:=by kernel_rfl
theorem fn135:A.fn 135=some a135:=by kernel_rfl
theorem prim135:A.prim 135=none:=by kernel_rfl
theorem fn111:A.fn 111=some a111:=by kernel_rfl
theorem prim111:A.prim 111=none:=by kernel_rfl
theorem sign_call {q:Int} (hq0:-9223372036854775808≤q) (hq1:q≤9223372036854775807) {st:St} (hst:StOk st) :
  runL A (.call 145 [.int .i64 q]) st=some ⟨.ret,⟨[.tup [.str (if q<0 then [45] else []),.int .u64 (q.natAbs:Nat)]],[]⟩,st⟩:=by
 refine (task_of_aw (N:=11) prim145 fn145 rfl rfl hst ?_).1
 intro e he ha K hK
 have a0:=ha 0
 clear ha
 simp at a0
 by_cases hq:q<0
 ·have w2:IntKind.u64.wrap q=q+18446744073709551616:=by
   simp [IntKind.wrap,IntKind.signed,IntKind.bits];omega
  have w3:IntKind.u64.wrap (0-(q+18446744073709551616))=(q.natAbs:Int):=by
   simp [IntKind.wrap,IntKind.signed,IntKind.bits];omega
  have w3':IntKind.u64.wrap (-(q+18446744073709551616))=(q.natAbs:Int):=by
   simp [IntKind.wrap,IntKind.signed,IntKind.bits];omega
  simp [a145,he,a0,hq,w2,w3,w3']
  exact hK _ _ _ (.inl rfl) (by simp) ⟨_,rfl,by simp [he,hq,AV.stills]⟩
 ·have w2:IntKind.u64.wrap q=(q.natAbs:Int):=by rw [wrap_u64 (by omega) (by omega)];omega
  simp [a145,he,a0,hq,w2]
  exact hK _ _ _ (.inl rfl) (by simp) ⟨_,rfl,by simp [he,hq,AV.stills]⟩
theorem and_mask {u:Nat} (h:u<18446744073709551616):IntKind.u64.wrap ((BitVec.ofInt IntKind.u64.bits (u:Int) &&& BitVec.ofInt IntKind.u64.bits 4294967295).toNat:Int)=((u % 4294967296:Nat):Int):=by
 have e1:(BitVec.ofInt IntKind.u64.bits (u:Int) &&& BitVec.ofInt IntKind.u64.bits 4294967295).toNat=u % 4294967296:=by
  have h1:(BitVec.ofInt IntKind.u64.bits (u:Int)).toNat=u:=by
   simp [IntKind.bits,BitVec.toNat_ofInt];omega
  have h2:(BitVec.ofInt IntKind.u64.bits 4294967295).toNat=2 ^ 32-1:=by simp [IntKind.bits]
  rw [BitVec.toNat_and,h1,h2,Nat.and_two_pow_sub_one_eq_mod]
 rw [e1]
 exact wrap_u64 (by omega) (by omega)
theorem shr32 {u:Nat} (h:u<18446744073709551616):shiftOp .shr .u64 (u:Int) 32=some (.int .u64 (u / 4294967296:Nat)):=by
 simp [shiftOp,IntKind.bits]
 rw [Int.fdiv_eq_ediv_of_nonneg _ (by omega)]
def w147_0:List Nat:=a147_0.writes
theorem behind_call {u k:Nat} (hu:u<18446744073709551616) (hk:k≤32) {st:St} (hst:StOk st) :
  runL A (.call 147 [.int .u64 u,.int .i64 k]) st=some ⟨.ret,⟨[.str (trim0 (fr k (u % 4294967296)))],[]⟩,st⟩:=by
 refine (task_of_aw (N:=31) prim147 fn147 rfl rfl hst ?_).1
 intro e he ha K hK
 have a0:=ha 0
 have a1:=ha 1
 clear ha
 simp at a0 a1
 have wm0:=and_mask hu
 simp at wm0
 simp [a147,he,a0,wm0]
 refine aw_loop (W:=w147_0) rfl (fun m e ds st'=>ds=[]∧∃(out:List UInt8) (low:Nat) (ap:Ap),m+out.length=k∧low<4294967296∧trim0 (out++fr m low)=trim0 (fr k (u % 4294967296))∧Grew st.length st st' ∧
   AX.ev e (.t 5)=.lst 1 (out.map byteV) ap∧AX.ev e (.t 6)=.int .u64 low∧Own st' st.length 1 (some 5) ap out.length) k
  ⟨rfl,[],u % 4294967296,.tight,by simp,by omega,rfl,.refl,by simp [he],by simp [he],.nil⟩ ?_
 rintro m e1 ds st' hs ⟨rfl,out,low,ap,hm,hlow,htr,hgr,g5,g6,ho⟩ K1 kn kx
 have he1:e1.length=31:=by simp [hs.1,he]
 have g1:=hs.ev 1 rfl (v:=.int .i64 k) (by simp [a1])
 have fin:trim0 out=trim0 (fr k (u % 4294967296))→∀(E:Env),AX.ev E (.t 5)=.lst 1 (out.map byteV) ap→E.length=31→AW A 147 none (.seq (.reg [⟨(some 28),.mov (.t 5),none⟩,⟨(some 29),.convStr (.t 28),none⟩,⟨(some 30),.call (.k (.func (.func 162) [] [])) [(.t 29),(.k (.str [48]))],none⟩,⟨(some 4),.mov (.t 30),none⟩]) .ret) E [] st' K:=by
  intro ht E h5 hE
  have ht49:=trim_call (s:=out) (st:=st') (by omega)
  simp [h5,hE,ofBytes_byteV,ht49]
  exact hK _ _ _ (.inl rfl) (by have:=hgr.take;simpa using this) ⟨_,rfl,by simp [hE,ht]⟩
 by_cases hl0:low=0
 ·subst hl0
  rw [fr_zero,trim0_zeros] at htr
  simp [a147_0,g1,g5,g6,he1]
  refine kx _ _ _ _ nofun fun hs'=>?_
  simp only [blk_exit,if_true,sq_nrm]
  exact fin htr _ (by simp [g5]) (by simp [he1])
 ·cases m with
  | zero =>
   simp [fr] at htr
   have hlk:¬out.length<k:=by omega
   have hl1:0<low:=by omega
   simp [a147_0,g1,g5,g6,he1,hl1,hlk]
   refine kx _ _ _ _ nofun fun hs'=>?_
   simp only [blk_exit,if_true,sq_nrm]
   exact fin htr _ (by simp [g5]) (by simp [he1])
  | succ m =>
   have hlk:out.length<k:=by omega
   have hl1:0<low:=by omega
   have hq:low * 10 / 4294967296<10:=by omega
   have w0:IntKind.u64.wrap ((low:Int) * 10)=((low * 10:Nat):Int):=by rw [wrap_u64 (by omega) (by omega)];simp
   have wsh:shiftOp .shr .u64 ((low:Int) * 10) 32=some (.int .u64 (low * 10 / 4294967296:Nat)):=by
    have:=shr32 (u:=low * 10) (by omega);simpa using this
   have w2:IntKind.u8.wrap ((low * 10 / 4294967296:Nat):Int)=((low * 10 / 4294967296:Nat):Int):=wrap_u8 (by omega) (by omega)
   have w3:IntKind.u8.wrap (48+((low * 10 / 4294967296:Nat):Int))=48+((low * 10 / 4294967296:Nat):Int):=wrap_u8 (by omega) (by omega)
   have w2':IntKind.u8.wrap ((low:Int) * 10 / 4294967296)=(low:Int) * 10 / 4294967296:=wrap_u8 (by omega) (by omega)
   have w3':IntKind.u8.wrap (48+(low:Int) * 10 / 4294967296)=48+(low:Int) * 10 / 4294967296:=wrap_u8 (by omega) (by omega)
   have wm:=and_mask (u:=low * 10) (by omega)
   simp at wm
   have hbv:AV.int .u8 (48+(low:Int) * 10 / 4294967296)=byteV (byteOf (low * 10 / 4294967296)):=by
    simp [byteV,byteOf];omega
   obtain ⟨ap',st1,hap,ho',hg1,_⟩:=append_own (bytes:=1) (ap0:=.tight) (ys:=[byteV (byteOf (low * 10 / 4294967296))]) (es:=out.map byteV) hgr.len (by simpa using ho.weak) (by simp) (by simp [Ai.great];omega) (by omega)
   rw [←hbv] at hap
   simp [a147_0,g1,g5,g6,he1,hl1,hlk,w0,wsh,w2,w3,w2',w3',hap,wm]
   exact kn m _ _ _ (by omega) ⟨rfl,out++[byteOf (low * 10 / 4294967296)],low * 10 % 4294967296,ap',by simp;omega,by omega,by rw [←htr];simp [fr],hgr.trans hg1,by simp [he1,hbv],by simp [he1],by simpa using ho'⟩
theorem join_empty:∀l:List (List UInt8),Lib.join l []=l.flatten
 | []=>rfl
 | x::l=>by rw [Lib.join_cons];simp [Lib.joinTail]
theorem text_call {l:List (List UInt8)} {ap:Ap} (hl:l.flatten.length≤140737488355328) (hn:l.length≤140737488355328) {st:St} (hst:StOk st) :
  runL A (.call 148 [.lst 1 (l.map AV.str) ap]) st=some ⟨.ret,⟨[.str l.flatten],[]⟩,st⟩:=by
 refine (task_of_aw (N:=5) prim148 fn148 rfl rfl hst ?_).1
 intro e he ha K hK
 have a0:=ha 0
 clear ha
 simp at a0
 have hj:=join_call (l:=l) (sep:=[]) (ap:=ap) (by rw [join_empty];exact hl) hn (st:=st)
 rw [join_empty] at hj
 simp [a148,he,a0,hj]
 exact hK _ _ _ (.inl rfl) (by simp) ⟨_,rfl,by simp [he]⟩
theorem trim0_len (l:List UInt8):(trim0 l).length≤l.length:=by
 simp only [trim0,Lib.trimRightB,List.length_reverse]
 have:=(List.dropWhile_sublist (fun b:UInt8=>b == 48) (l:=l.reverse)).length_le
 simpa using this
theorem dec_short_call {q n:Int} (hq0:-9223372036854775808≤q) (hq1:q≤9223372036854775807) {st:St} (hst:StOk st) :
  runL A (.call 135 [.int .i64 q,.int .i64 n]) st=some ⟨.ret,⟨[.str (shortF q (clamp n))],[]⟩,st⟩:=by
 refine (task_of_aw (N:=33) prim135 fn135 rfl rfl hst ?_).1
 intro e he ha K hK
 have a0:=ha 0
 have a1:=ha 1
 clear ha
 simp at a0 a1
 have hu64:q.natAbs<18446744073709551616:=by omega
 have hk:clamp n≤32:=by simp only [clamp];split;omega;split<;>omega
 have h39:=sign_call hq0 hq1 hst
 have h40:=fmt_call (u:=q.natAbs / 4294967296) (by omega) (st:=st)
 have h41:=behind_call hu64 hk hst
 have hsh:=shr32 hu64
 have hmm:(if (0:Int)<(if 32<n then 32 else n) then (if 32<n then 32 else n) else 0)=((clamp n:Nat):Int):=by
  simp only [clamp]
  by_cases h1:n<0
  ·simp [h1,show ¬32<n by omega,show ¬0<n by omega]
  ·by_cases h2:32<n
   ·simp [h1,h2]
   ·simp [h1,h2];omega
 have hl1:(Lib.decDigits (q.natAbs / 4294967296)).length≤20:=dec_len _ (by omega)
 have hl2:(trim0 (fr (clamp n) (q.natAbs % 4294967296))).length≤32:=by
  have:=trim0_len (fr (clamp n) (q.natAbs % 4294967296));rw [fr_length] at this;omega
 obtain ⟨s,hs⟩:∃s:List UInt8,s=if q<0 then [45] else []:=⟨_,rfl⟩
 have hsl:s.length≤1:=by rw [hs];split<;>simp
 rw [←hs] at h39
 by_cases hz:trim0 (fr (clamp n) (q.natAbs % 4294967296))=[]
 ·have h42:=text_call (l:=[s,Lib.decDigits (q.natAbs / 4294967296)]) (ap:=.tight) (by simp;omega) (by simp) hst
  simp at h42
  simp at h40 hsh
  simp [a135,he,a0,a1,h39,hsh,h40,hmm,h41,hz,h42]
  exact hK _ _ _ (.inl rfl) (by simp) ⟨_,rfl,by simp [he,shortF,hz,hs]⟩
 ·have h42:=text_call (l:=[s,Lib.decDigits (q.natAbs / 4294967296),[46],trim0 (fr (clamp n) (q.natAbs % 4294967296))]) (ap:=.tight) (by simp;omega) (by simp) hst
  simp at h42
  simp at h40 hsh
  simp [a135,he,a0,a1,h39,hsh,h40,hmm,h41,hz,h42]
  exact hK _ _ _ (.inl rfl) (by simp) ⟨_,rfl,by simp [he,shortF,hz,hs]⟩
theorem print_call {q:Int} (hq0:-9223372036854775808≤q) (hq1:q≤9223372036854775807) {st:St} (hst:StOk st) :
  runL A (.call 111 [.int .i64 q]) st=some ⟨.ret,⟨[.str (shortF q 32)],[]⟩,st⟩:=by
 refine (task_of_aw (N:=5) prim111 fn111 rfl rfl hst ?_).1
 intro e he ha K hK
 have a0:=ha 0
 clear ha
 simp at a0
 have h36:=dec_short_call (n:=32) hq0 hq1 hst
 have hc:clamp 32=32:=rfl
 rw [hc] at h36
 simp [a111,he,a0,h36]
 exact hK _ _ _ (.inl rfl) (by simp) ⟨_,rfl,by simp [he]⟩
end Go.Proofs.YtgkhmmlemgikjaaGreatDoor
namespace Go.Proofs.YtgkhmmlemgikjaaGreatDoor
open Go Ai
theorem fn62:A.fn 62=some a62:=by kernel_rfl
theorem prim62:A.prim 62=none:=by kernel_rfl
theorem fn63:A.fn 63=some a63:=by kernel_rfl
theorem prim63:A.prim 63=none:=by kernel_rfl
theorem fn60:A.fn 60=some a60:=by kernel_rfl
theorem prim60:A.prim 60=none:=by kernel_rfl
theorem fn35:A.fn 35=some a35:=by kernel_rfl
theorem prim35:A.prim 35=none:=by kernel_rfl
def a35t:ACode:=(.seq (.plan [⟨1,⟨some 30,.fieldAddr 0 1 false (.t 6),none⟩,[]⟩,⟨2,⟨some 31,.load 1 false (.t 30),none⟩,[]⟩,⟨7,⟨some 7,.valloc 4,none⟩,[]⟩,⟨0,⟨some 29,.call (.k (.func (.func 62) [] [])) [],none⟩,[2]⟩,⟨3,⟨some 32,.lookup 0 (.agg [(.str []),(.int .i64 0),(.int .i64 0),(.int .i64 0)]) true (.t 29) (.t 31),none⟩,[]⟩,⟨4,⟨some 28,.mov (.t 32),none⟩,[]⟩,⟨5,⟨some 33,.extract (.t 28) 0,none⟩,[]⟩,⟨6,⟨some 34,.extract (.t 28) 1,none⟩,[]⟩,⟨8,⟨some 7,.vbox 4 7 (.t 33),none⟩,[]⟩,⟨9,⟨some 8,.mov (.t 34),none⟩,[]⟩]) (.seq (.plan [⟨1,⟨some 37,.fieldAddr 0 1 false (.t 6),none⟩,[]⟩,⟨2,⟨some 38,.load 1 false (.t 37),none⟩,[]⟩,⟨0,⟨some 36,.call (.k (.func (.func 63) [] [])) [],none⟩,[2]⟩,⟨3,⟨some 39,.lookup 0 (.str []) true (.t 36) (.t 38),none⟩,[]⟩,⟨4,⟨some 35,.mov (.t 39),none⟩,[]⟩,⟨5,⟨some 40,.extract (.t 35) 0,none⟩,[]⟩,⟨6,⟨some 41,.extract (.t 35) 1,none⟩,[]⟩,⟨7,⟨some 9,.mov (.t 40),none⟩,[]⟩,⟨8,⟨some 10,.mov (.t 41),none⟩,[]⟩]) (.block 0 (.seq (.reg [⟨some 46,.mov (.t 8),none⟩,⟨some 45,.mov (.t 46),none⟩]) (.cond (.t 45) (.seq (.reg [⟨some 47,.mov (.t 0),none⟩,⟨some 48,.fieldAddr 1 1 false (.t 6),none⟩,⟨some 49,.load 1 false (.t 48),none⟩,⟨some 50,.fieldAddr 2 1 false (.t 7),none⟩,⟨some 51,.load 1 false (.t 50),none⟩,⟨some 52,.call (.k (.func (.func 35) [] [])) [(.t 47),(.t 49),(.t 51)],none⟩]) (.seq (.reg [⟨some 53,.mov (.t 0),none⟩,⟨some 54,.fieldAddr 0 1 false (.t 7),none⟩,⟨some 55,.load 1 false (.t 54),none⟩,⟨some 56,.mkLit 1 [(.str []),(.str []),(.str [])] [(0,1,(.k (.str [32]))),(1,1,(.t 55)),(2,1,(.k (.str [32])))] false,none⟩,⟨some 57,.call (.k (.func (.func 61) [] [])) [(.t 53),(.t 56)],none⟩]) (.reg [⟨some 58,.mov (.t 0),none⟩,⟨some 59,.fieldAddr 2 1 false (.t 6),none⟩,⟨some 60,.load 1 false (.t 59),none⟩,⟨some 61,.fieldAddr 3 1 false (.t 7),none⟩,⟨some 62,.load 1 false (.t 61),none⟩,⟨some 63,.call (.k (.func (.func 35) [] [])) [(.t 58),(.t 60),(.t 62)],none⟩]))) (.seq (.reg [⟨some 65,.mov (.t 10),none⟩,⟨some 64,.mov (.t 65),none⟩]) (.cond (.t 64) (.seq (.reg [⟨some 66,.mov (.t 0),none⟩,⟨some 67,.mov (.t 9),none⟩,⟨some 68,.mkLit 1 [(.str [])] [(0,1,(.t 67))] false,none⟩,⟨some 69,.call (.k (.func (.func 61) [] [])) [(.t 66),(.t 68)],none⟩]) (.reg [⟨some 70,.mov (.t 0),none⟩,⟨some 71,.fieldAddr 1 1 false (.t 6),none⟩,⟨some 72,.load 1 false (.t 71),none⟩,⟨some 73,.call (.k (.func (.func 35) [] [])) [(.t 70),(.t 72),(.k (.int .i64 6))],none⟩])) (.seq (.reg [⟨some 75,.fieldAddr 0 1 false (.t 6),none⟩,⟨some 76,.load 1 false (.t 75),none⟩,⟨some 77,.bin .eql (.t 76) (.k (.int .i64 15)),none⟩,⟨some 74,.mov (.t 77),none⟩]) (.cond (.t 74) (.seq (.reg [⟨some 78,.mov (.t 0),none⟩,⟨some 79,.mkLit 1 [(.str [])] [(0,1,(.k (.str [105,102,32])))] false,none⟩,⟨some 80,.call (.k (.func (.func 61) [] [])) [(.t 78),(.t 79)],none⟩]) (.seq (.reg [⟨some 81,.mov (.t 0),none⟩,⟨some 82,.fieldAddr 1 1 false (.t 6),none⟩,⟨some 83,.load 1 false (.t 82),none⟩,⟨some 84,.call (.k (.func (.func 35) [] [])) [(.t 81),(.t 83),(.k (.int .i64 0))],none⟩]) (.seq (.reg [⟨some 85,.mov (.t 0),none⟩,⟨some 86,.mkLit 1 [(.str [])] [(0,1,(.k (.str [32,116,104,101,110,32])))] false,none⟩,⟨some 87,.call (.k (.func (.func 61) [] [])) [(.t 85),(.t 86)],none⟩]) (.seq (.reg [⟨some 88,.mov (.t 0),none⟩,⟨some 89,.fieldAddr 2 1 false (.t 6),none⟩,⟨some 90,.load 1 false (.t 89),none⟩,⟨some 91,.call (.k (.func (.func 35) [] [])) [(.t 88),(.t 90),(.k (.int .i64 0))],none⟩]) (.seq (.reg [⟨some 92,.mov (.t 0),none⟩,⟨some 93,.mkLit 1 [(.str [])] [(0,1,(.k (.str [32,101,108,115,101,32])))] false,none⟩,⟨some 94,.call (.k (.func (.func 61) [] [])) [(.t 92),(.t 93)],none⟩]) (.reg [⟨some 95,.mov (.t 0),none⟩,⟨some 96,.fieldAddr 3 1 false (.t 6),none⟩,⟨some 97,.load 1 false (.t 96),none⟩,⟨some 98,.call (.k (.func (.func 35) [] [])) [(.t 95),(.t 97),(.k (.int .i64 0))],none⟩])))))) (.reg [⟨some 42,.mov (.t 0),none⟩,⟨some 43,.load 9 true (.t 6),none⟩,⟨some 44,.call (.k (.func (.func 64) [] [])) [(.t 42),(.t 43)],none⟩]))))))))))
def fmEs:List (AV×AV):=[(.int .i64 6,.agg [.str [43],.int .i64 4,.int .i64 4,.int .i64 5]),(.int .i64 7,.agg [.str [45],.int .i64 4,.int .i64 4,.int .i64 5]),(.int .i64 8,.agg [.str [42],.int .i64 5,.int .i64 5,.int .i64 6]),(.int .i64 9,.agg [.str [47],.int .i64 5,.int .i64 5,.int .i64 6]),
 (.int .i64 10,.agg [.str [60],.int .i64 3,.int .i64 4,.int .i64 4]),(.int .i64 11,.agg [.str [60,61],.int .i64 3,.int .i64 4,.int .i64 4]),(.int .i64 12,.agg [.str [61,61],.int .i64 3,.int .i64 4,.int .i64 4]),(.int .i64 13,.agg [.str [97,110,100],.int .i64 2,.int .i64 2,.int .i64 3]),
 (.int .i64 14,.agg [.str [111,114],.int .i64 1,.int .i64 1,.int .i64 2]),(.int .i64 17,.agg [.str [45,62],.int .i64 0,.int .i64 1,.int .i64 0]),(.int .i64 18,.agg [.str [102,98,121],.int .i64 0,.int .i64 1,.int .i64 0])]
def pfEs:List (AV×AV):=[(.int .i64 4,.str [45]),(.int .i64 5,.str [110,111,116,32]),(.int .i64 16,.str [112,114,101,32]),(.int .i64 21,.str [115,113,114,116,32])]
theorem forms_call {s:St}:runL A (.call 62 []) s=some ⟨.ret,⟨[.map s.length],[]⟩,s++[.map fmEs]⟩:=by
 refine (task_of_aw_keep (N:=14) prim62 fn62 rfl rfl (args:=[]) (st:=s) (st':=s++[.map fmEs]) ?_).1
 intro e he ha K hK
 clear ha
 simp [a62,he,findKey,sameKey,keyKind,isc_int]
 exact hK _ _ (.inl rfl) ⟨_,rfl,by simp [he]⟩
theorem prefs_call {s:St}:runL A (.call 63 []) s=some ⟨.ret,⟨[.map s.length],[]⟩,s++[.map pfEs]⟩:=by
 refine (task_of_aw_keep (N:=3) prim63 fn63 rfl rfl (args:=[]) (st:=s) (st':=s++[.map pfEs]) ?_).1
 intro e he ha K hK
 clear ha
 simp [a63,he,findKey,sameKey,keyKind,isc_int]
 exact hK _ _ (.inl rfl) ⟨_,rfl,by simp [he]⟩
def tightF (k:Int):Int:=if k=15∨k=17∨k=18 then 0 else if k=14 then 1 else if k=13 then 2 else if k=10∨k=11∨k=12 then 3 else if k=6∨k=7 then 4 else if k=8∨k=9 then 5 else if k=4∨k=5∨k=16∨k=21 then 6 else 7
theorem kinds21 {k:Int} (h0:1≤k) (h1:k≤21):k=1∨k=2∨k=3∨k=4∨k=5∨k=6∨k=7∨k=8∨k=9∨k=10∨k=11∨k=12∨k=13∨k=14∨k=15∨k=16∨k=17∨k=18∨k=19∨k=20∨k=21:=by omega
set_option maxHeartbeats 1000000 in
theorem tight_call {x:Ex} (h0:1≤x.k) (h1:x.k≤21) {st:St} (hst:StOk st):runL A (.call 60 [x.av]) st=some ⟨.ret,⟨[.int .i64 (tightF x.k)],[]⟩,st⟩:=by
 have hf:=fun s=>forms_call (s:=s)
 have hp:=fun s=>prefs_call (s:=s)
 refine (task_of_aw (N:=28) prim60 fn60 rfl rfl hst ?_).1
 intro e he ha K hK
 have a0:=ha 0
 clear ha
 simp at a0
 simp only [Ex.av,Ex.cs] at a0
 obtain ⟨k,hk⟩:∃k,k=x.k:=⟨_,rfl⟩
 rw [←hk] at a0 h0 h1 hK
 rcases kinds21 h0 h1 with h | h | h | h | h | h | h | h | h | h | h | h | h | h | h | h | h | h | h | h | h<;>subst h <;>
  simp [a60,he,a0,hf,hp,fmEs,pfEs,findKey,sameKey,keyKind,mapOf,Ai.beq_refl] <;>
  exact hK _ _ _ (.inl rfl) (by simp) ⟨_,rfl,by simp [he,tightF,AV.still]⟩
end Go.Proofs.YtgkhmmlemgikjaaGreatDoor
namespace Go.Proofs.YtgkhmmlemgikjaaGreatDoor
open Go Ai
theorem fn64:A.fn 64=some a64:=by kernel_rfl
theorem prim64:A.prim 64=none:=by kernel_rfl
def w64_0:List Nat:=a64_0.writes
def zEx:Ex:=⟨0,0,0,0,[],[],0,[],.tight,0⟩
def signF (k:Int):Sx:=if k=6 then [43] else if k=7 then [45] else if k=8 then [42] else if k=9 then [47] else if k=10 then [60] else if k=11 then [60,61] else if k=12 then [61,61] else if k=13 then [97,110,100] else if k=14 then [111,114] else if k=17 then [45,62] else [102,98,121]
def oneW (k:Int):Int:=if tightF k=3 then 4 else if tightF k=0 then 1 else tightF k
def nextW (k:Int):Int:=if tightF k=3 then 4 else if tightF k=0 then 0 else tightF k+1
def argsT (E:Int→Int→Sx):List Int→Sx
 | []=>[]
 | a::l=>E a 0++l.flatMap fun b=>[44,32]++E b 0
def ownF (E:Int→Int→Sx) (x:Ex):Sx :=
 if x.k=1 then shortF x.v 32 else if x.k=2 then (if x.v=1 then [116,114,117,101] else [102,97,108,115,101]) else if x.k=3 then x.n
 else if x.k=4 then [45]++E x.a 6 else if x.k=5 then [110,111,116,32]++E x.a 6 else if x.k=16 then [112,114,101,32]++E x.a 6 else if x.k=21 then [115,113,114,116,32]++E x.a 6
 else if x.k=15 then [105,102,32]++(E x.a 0++([32,116,104,101,110,32]++(E x.b 0++([32,101,108,115,101,32]++E x.c 0))))
 else if x.k=19 then (x.n++[40])++(argsT E x.args++[41])
 else if x.k=20 then x.n++([32,105,115,32]++x.s)
 else E x.a (oneW x.k)++([32]++signF x.k++[32]++E x.b (nextW x.k))
def shE (xs:List Ex):Nat→Int→Int→Sx
 | 0,_,_=>[]
 | f+1,e,w=>if tightF (xs.getD e.toNat zEx).k<w then [40]++(ownF (shE xs f) (xs.getD e.toNat zEx)++[41]) else ownF (shE xs f) (xs.getD e.toNat zEx)
theorem argsT_snoc (E:Int→Int→Sx) (l:List Int) (a:Int):argsT E (l++[a])=argsT E l++((if l=[] then [] else [44,32])++E a 0):=by
 cases l with
 | nil=>simp [argsT]
 | cons b l=>simp [argsT]
theorem argsT_take (E:Int→Int→Sx) (l:List Int) (i:Nat):(argsT E (l.take i)).length≤(argsT E l).length:=by
 cases l with
 | nil=>simp
 | cons a l =>
  cases i with
  | zero=>simp [argsT]
  | succ i =>
   simp only [List.take_succ_cons,argsT,List.length_append]
   have:((l.take i).flatMap fun b=>[44,32]++E b 0).length≤(l.flatMap fun b=>[44,32]++E b 0).length:=by
    conv=>rhs;rw [←List.take_append_drop i l,List.flatMap_append,List.length_append]
    omega
   omega
theorem WrOk.snoc {r:Nat} {D X:AV} {st:St} {bs:Sx} {o:AObj} (h:WrOk r D X st bs) (ho:AObj.lowB (st.length+1) o=true):WrOk r D X (st++[o]) bs∧WKeep r st (st++[o]):=by
 obtain ⟨a,b,h1,h2,h3⟩:=h.cell
 have hlt:=h.lt
 refine ⟨⟨⟨a,b,by rw [List.getElem?_append_left hlt];exact h1,h2,?_⟩,h.ok.snoc ho⟩,⟨List.take_append_of_le_length (by omega),by simp⟩⟩
 rcases h3 with h3 | ⟨id,g1,g2,g3,g4,g5⟩
 ·exact .inl h3
 ·exact .inr ⟨id,g1,g2,g3,by rw [List.getElem?_append_left (List.getElem?_eq_some_iff.1 g4).1];exact g4,g5⟩
theorem puts_of {r:Nat} {D X:AV} {f:Nat} {ar:List AV} {T:Sx} {F:AFunc} {N:Nat} (hp:A.prim f=none) (hf:A.fn f=some F) (hk:F.keep=true) (hr:F.results=[]) (hN:ar.length+(F.ntmps-ar.length)=N)
  (h:∀(st:St) (bs:Sx),WrOk r D X st bs→bs.length+T.length≤Ai.great→∀e:Env,e.length=N→(∀i,AX.ev e (.t i)=ar.getD i .undef)→∀K:PostQ,
   (∀x e s',(x=.ret∨x=.nrm)→WrOk r D X s' (bs++T)→WKeep r st s'→K x e [] s')→AW A f none F.body e [] st K):Puts r D X f ar T:=fun st bs hw hl=>by
 obtain ⟨q,⟨s',h1,h2,h3⟩,h4,_⟩:=task_tail (A:=A) (st:=st) (fun q=>∃s',q=(⟨.ret,⟨[.tup []],[]⟩,s'⟩:Res)∧WrOk r D X s' (bs++T)∧WKeep r st s') hp hf hN
  (fun e he ha K hK=>h st bs hw hl e he ha K (fun x e s' hx hq hkp=>hK x e [] s' ⟨.ret,⟨[.tup []],[]⟩,s'⟩ (by
    rcases hx with rfl | rfl<;>simp [tailA,runDefs,hk,hr,resultsA,oneOf]) ⟨s',rfl,hq,hkp⟩))
 subst h1
 exact ⟨s',h4,h2,h3⟩
section
variable {r:Nat} {D X:AV} {E:Int→Int→Sx}
theorem atom_loop (hD:D.isCell=true) (hX:X.isCell=true) {args:List Int} {ap:Ap} (hal:args.length≤1048576) (IH:∀c∈args,Puts r D X 35 [.ptr r 0,.int .i64 c,.int .i64 0] (E c 0)) {st:St} {bs:Sx} (h:WrOk r D X st bs) (hl:bs.length+(argsT E args).length≤Ai.great)
  {e:Env} (he:e.length=67) (a0:AX.ev e (.t 0)=.ptr r 0) (a48:AX.ev e (.t 48)=.lst 1 (ints args) ap) (a49:AX.ev e (.t 49)=.int .i64 args.length) (a50:AX.ev e (.t 50)=.int .i64 0) {K:PostQ}
  (hK:∀e2 st',Same w64_0 e e2→WrOk r D X st' (bs++argsT E args)→WKeep r st st'→K (.exit 1) e2 [] st'):AW A 64 none (.loop a64_0) e [] st K:=by
 refine aw_loop (W:=w64_0) rfl (fun m e ds st'=>ds=[]∧∃i:Nat,i+m=args.length∧AX.ev e (.t 50)=.int .i64 i∧WrOk r D X st' (bs++argsT E (args.take i))∧WKeep r st st') args.length
  ⟨rfl,0,by simp,by simp [a50],by simpa [argsT] using h,.refl⟩ ?_
 rintro m e1 ds st' hs ⟨rfl,i,hm,g50,hw,hk⟩ K1 kn kx
 have he1:e1.length=67:=by simp [hs.1,he]
 have g0:=hs.ev 0 rfl a0
 have g48:=hs.ev 48 rfl a48
 have g49:=hs.ev 49 rfl a49
 by_cases hi:i<args.length
 ·obtain ⟨c,hc⟩:∃c,c=args[i]:=⟨_,rfl⟩
  have hg:=ints_get hi
  rw [←hc] at hg
  have hce:Puts r D X 35 [.ptr r 0,.int .i64 c,.int .i64 0] (E c 0):=IH c (by rw [hc];exact List.getElem_mem hi)
  have htk:args.take (i+1)=args.take i++[c]:=by rw [hc];simp
  have hsn:=argsT_snoc E (args.take i) c
  rw [←htk] at hsn
  have w1:IntKind.i64.wrap ((i:Int)+1)=(i:Int)+1:=wrap_i64 (by omega) (by omega)
  have w0:IntKind.i64.wrap (1:Int)=1:=wrap_i64 (by omega) (by omega)
  by_cases h0:i=0
  ·subst h0
   have h1:argsT E (args.take (0+1))=E c 0:=by rw [htk];simp [argsT]
   have hle1:=argsT_take E args (0+1)
   rw [h1] at hle1
   simp only [List.take_zero,argsT,List.append_nil] at hw
   obtain ⟨s2,c2,w2,k2⟩:=hce _ _ hw (by omega)
   simp [a64_0,g0,g48,g49,g50,he1,hi,hg,ints_length,c2,w0]
   exact kn (m-1) _ _ _ (by omega) ⟨rfl,1,by omega,by simp [he1],by rw [h1];exact w2,hk.trans k2⟩
  ·have hne:¬(args.take i=[]):=by
    intro e;have:=congrArg List.length e;rw [List.length_take,List.length_nil] at this;omega
   rw [if_neg hne] at hsn
   have hle:=argsT_take E args (i+1)
   rw [hsn] at hle
   simp only [List.length_append,List.length_cons,List.length_nil] at hle
   have hi0:0<i:=by omega
   obtain ⟨s2,c2,w2,k2⟩:=put61 hD hX [[44,32]] .tight (by simp) _ _ hw (by simp only [List.length_append,List.flatten_cons,List.flatten_nil,List.append_nil,List.length_cons,List.length_nil];omega)
   obtain ⟨s3,c3,w3,k3⟩:=hce _ _ w2 (by simp only [List.length_append,List.flatten_cons,List.flatten_nil,List.append_nil,List.length_cons,List.length_nil];omega)
   simp only [strs,List.map_cons,List.map_nil] at c2
   simp [a64_0,g0,g48,g49,g50,he1,hi,hg,hi0,ints_length,c2,c3,w1]
   exact kn (m-1) _ _ _ (by omega) ⟨rfl,i+1,by omega,by simp [he1],by rw [hsn];simpa using w3,hk.trans (k2.trans k3)⟩
 ·obtain rfl:i=args.length:=by omega
  rw [List.take_length] at hw
  simp [a64_0,g49,g50,he1]
  exact kx _ _ _ _ nofun fun hs'=>hK _ _ hs' hw hk
set_option maxHeartbeats 1000000 in
theorem atom64 (hD:D.isCell=true) (hX:X.isCell=true) {x:Ex} (hx:x.Ok) (hk:x.k=1∨x.k=2∨x.k=3∨x.k=19∨x.k=20) (hv:-9223372036854775808≤x.v∧x.v≤9223372036854775807) (hb:x.k=2→x.v=0∨x.v=1)
  (IH:x.k=19→∀c∈x.args,Puts r D X 35 [.ptr r 0,.int .i64 c,.int .i64 0] (E c 0)):Puts r D X 64 [.ptr r 0,x.av] (ownF E x):=by
 refine puts_of (N:=67) prim64 fn64 rfl rfl rfl ?_
 intro st bs hw hl e he ha K hK
 have a0:=ha 0
 have a1:=ha 1
 clear ha
 simp [Ex.av,Ex.cs] at a0 a1
 rcases hk with h | h | h | h | h
 ·have cp:=print_call hv.1 hv.2 hw.ok
  have e1:ownF E x=shortF x.v 32:=by simp [ownF,h]
  rw [e1] at hl hK
  obtain ⟨s2,c2,w2,k2⟩:=put61 hD hX [shortF x.v 32] .tight (by simp) _ _ hw (by simpa using hl)
  simp only [strs,List.map_cons,List.map_nil] at c2
  simp [a64,he,a0,a1,h,cp,c2]
  exact hK _ _ _ (.inr rfl) (by simpa using w2) k2
 ·have e1:ownF E x=if x.v=1 then [116,114,117,101] else [102,97,108,115,101]:=by simp [ownF,h]
  rw [e1] at hl hK
  rcases hb h with h2 | h2
  ·rw [h2] at hl hK a1
   simp at hl hK
   obtain ⟨s2,c2,w2,k2⟩:=put61 hD hX [[102,97,108,115,101]] .tight (by simp) _ _ hw (by simpa using hl)
   simp only [strs,List.map_cons,List.map_nil] at c2
   simp [a64,he,a0,a1,h,c2]
   exact hK _ _ _ (.inr rfl) (by simpa using w2) k2
  ·rw [h2] at hl hK a1
   simp at hl hK
   obtain ⟨s2,c2,w2,k2⟩:=put61 hD hX [[116,114,117,101]] .tight (by simp) _ _ hw (by simpa using hl)
   simp only [strs,List.map_cons,List.map_nil] at c2
   simp [a64,he,a0,a1,h,c2]
   exact hK _ _ _ (.inr rfl) (by simpa using w2) k2
 ·have e1:ownF E x=x.n:=by simp [ownF,h]
  rw [e1] at hl hK
  obtain ⟨s2,c2,w2,k2⟩:=put61 hD hX [x.n] .tight (by simp) _ _ hw (by simpa using hl)
  simp only [strs,List.map_cons,List.map_nil] at c2
  simp [a64,he,a0,a1,h,c2]
  exact hK _ _ _ (.inr rfl) (by simpa using w2) k2
 ·have e1:ownF E x=(x.n++[40])++(argsT E x.args++[41]):=by simp [ownF,h]
  rw [e1] at hl hK
  simp only [List.length_append] at hl
  obtain ⟨s2,c2,w2,k2⟩:=put61 hD hX [x.n,[40]] .tight (by simp) _ _ hw (by simp only [List.length_append,List.flatten_cons,List.flatten_nil,List.append_nil];omega)
  simp only [strs,List.map_cons,List.map_nil] at c2
  simp [a64,he,a0,a1,h,c2,ints_length]
  refine atom_loop hD hX (args:=x.args) (ap:=x.ap) hx.args (IH h) w2 (by simp only [List.length_append,List.flatten_cons,List.flatten_nil,List.append_nil];omega) (by simp [he]) (by simp [he,a0]) (by simp [he]) (by simp [he]) (by simp [he]) fun e2 s3 hs3 w3 k3=>?_
  have he2:e2.length=67:=by simp [hs3.1,he]
  have b0:=hs3.ev 0 rfl (v:=.ptr r 0) (by simp [he,a0])
  obtain ⟨s4,c4,w4,k4⟩:=put61 hD hX [[41]] .tight (by simp) _ _ w3 (by simp only [List.length_append,List.flatten_cons,List.flatten_nil,List.append_nil] at hl ⊢;omega)
  simp only [strs,List.map_cons,List.map_nil] at c4
  simp [he2,b0,c4]
  exact hK _ _ _ (.inr rfl) (by simpa using w4) (k2.trans (k3.trans k4))
 ·have e1:ownF E x=x.n++([32,105,115,32]++x.s):=by simp [ownF,h]
  rw [e1] at hl hK
  obtain ⟨s2,c2,w2,k2⟩:=put61 hD hX [x.n,[32,105,115,32],x.s] .tight (by simp) _ _ hw (by simpa using hl)
  simp only [strs,List.map_cons,List.map_nil] at c2
  simp [a64,he,a0,a1,h,c2]
  exact hK _ _ _ (.inr rfl) (by simpa using w2) k2
end
end Go.Proofs.YtgkhmmlemgikjaaGreatDoor
namespace Go.Proofs.YtgkhmmlemgikjaaGreatDoor
open Go Ai
theorem two_find {k:Int} (h:k=6∨k=7∨k=8∨k=9∨k=10∨k=11∨k=12∨k=13∨k=14∨k=17∨k=18) :
  (∃j,findKey (.int .i64 k) fmEs 0=some (some (j,.agg [.str (signF k),.int .i64 (tightF k),.int .i64 (oneW k),.int .i64 (nextW k)])))∧findKey (.int .i64 k) pfEs 0=some none ∧
   (∀(E:Int→Int→Sx) (x:Ex),x.k=k→ownF E x=E x.a (oneW k)++([32]++signF k++[32]++E x.b (nextW k))∧partsF x=[x.a,x.b]):=by
 rcases h with rfl | rfl | rfl | rfl | rfl | rfl | rfl | rfl | rfl | rfl | rfl<;>exact ⟨⟨_,rfl⟩,rfl,fun E x h=>⟨by simp [ownF,h],by simp [partsF,manyF,h]⟩⟩
def prefF (k:Int):Sx:=if k=4 then [45] else if k=5 then [110,111,116,32] else if k=16 then [112,114,101,32] else [115,113,114,116,32]
theorem one_find {k:Int} (h:k=4∨k=5∨k=16∨k=21) :
  (∃j,findKey (.int .i64 k) pfEs 0=some (some (j,.str (prefF k))))∧findKey (.int .i64 k) fmEs 0=some none∧(∀(E:Int→Int→Sx) (x:Ex),x.k=k→ownF E x=prefF k++E x.a 6∧partsF x=[x.a]):=by
 rcases h with rfl | rfl | rfl | rfl<;>exact ⟨⟨_,rfl⟩,rfl,fun E x h=>⟨by simp [ownF,prefF,h],by simp [partsF,manyF,h]⟩⟩
theorem no_find {k:Int} (h:k=1∨k=2∨k=3∨k=19∨k=20∨k=15):findKey (.int .i64 k) pfEs 0=some none∧findKey (.int .i64 k) fmEs 0=some none:=by
 rcases h with rfl | rfl | rfl | rfl | rfl | rfl<;>exact ⟨rfl,rfl⟩
theorem fm_low {m:Nat}:AObj.lowB m (.map fmEs)=true:=rfl
theorem pf_low {m:Nat}:AObj.lowB m (.map pfEs)=true:=rfl
section
variable {r:Nat} {D X:AV} {E:Int→Int→Sx}
set_option maxHeartbeats 1000000 in
theorem body35 (hD:D.isCell=true) (hX:X.isCell=true) {x:Ex} (hx:x.Ok) (h0:1≤x.k) (h1:x.k≤21) (hv:-9223372036854775808≤x.v∧x.v≤9223372036854775807) (hb:x.k=2→x.v=0∨x.v=1)
  (IH:∀c∈partsF x,∀w,Puts r D X 35 [.ptr r 0,.int .i64 c,.int .i64 w] (E c w)) {st:St} {bs:Sx} (h:WrOk r D X st bs) (hl:bs.length+(ownF E x).length≤Ai.great)
  {e:Env} (he:e.length=99) (a0:AX.ev e (.t 0)=.ptr r 0) (a6:AX.ev e (.t 6)=.iptr x.av) {ds:List ADef} {K:PostQ}
  (hK:∀e2 st',WrOk r D X st' (bs++ownF E x)→WKeep r st st'→K .nrm e2 ds st'):AW A 35 none a35t e ds st K:=by
 have hf:=fun s=>forms_call (s:=s)
 have hp:=fun s=>prefs_call (s:=s)
 obtain ⟨q1,k1⟩:=h.snoc fm_low
 obtain ⟨q2,k2⟩:=q1.snoc pf_low
 rw [List.append_assoc] at q2 k2
 replace k2:=k1.trans k2
 simp only [List.cons_append,List.nil_append] at q2 k2
 clear q1 k1 h
 have atomC:x.k=1∨x.k=2∨x.k=3∨x.k=19∨x.k=20→AW A 35 none a35t e ds st K:=by
  intro hk
  have nf:=no_find (k:=x.k) (by omega)
  have n15:¬x.k=15:=by omega
  obtain ⟨s3,c3,w3,k3⟩:=atom64 hD hX hx hk hv hb (fun h19 c hc=>IH c (by simp [partsF,manyF,h19,hc]) 0) _ _ q2 hl
  simp only [Ex.av,Ex.cs] at a6 c3
  simp [a35t,he,a0,a6,hf,hp,nf.1,nf.2,keyKind,mapOf,n15,c3,Ai.beq_refl]
  exact hK _ _ w3 (k2.trans k3)
 have oneC:x.k=4∨x.k=5∨x.k=16∨x.k=21→AW A 35 none a35t e ds st K:=by
  intro hk
  obtain ⟨⟨j,n1⟩,n2,n3⟩:=one_find hk
  obtain ⟨e1,e2⟩:=n3 E x rfl
  rw [e1] at hl hK
  rw [List.length_append] at hl
  rw [e2] at IH
  obtain ⟨s3,c3,w3,k3⟩:=put61 hD hX [prefF x.k] .tight (by simp) _ _ q2 (by simp only [List.flatten_cons,List.flatten_nil,List.append_nil];omega)
  simp only [strs,List.map_cons,List.map_nil,List.flatten_cons,List.flatten_nil,List.append_nil] at c3 w3
  obtain ⟨s4,c4,w4,k4⟩:=IH x.a (by simp) 6 _ _ w3 (by rw [List.length_append];omega)
  simp only [Ex.av,Ex.cs] at a6
  simp [a35t,he,a0,a6,hf,hp,n1,n2,keyKind,mapOf,c3,c4,Ai.beq_refl]
  exact hK _ _ (by simpa using w4) (k2.trans (k3.trans k4))
 have twoC:(x.k=6∨x.k=7∨x.k=8∨x.k=9∨x.k=10∨x.k=11∨x.k=12∨x.k=13∨x.k=14∨x.k=17∨x.k=18)→AW A 35 none a35t e ds st K:=by
  intro hk
  obtain ⟨⟨j,n1⟩,n2,n3⟩:=two_find hk
  obtain ⟨e1,e2⟩:=n3 E x rfl
  rw [e1] at hl hK
  simp only [List.length_append] at hl
  rw [e2] at IH
  obtain ⟨s3,c3,w3,k3⟩:=IH x.a (by simp) (oneW x.k) _ _ q2 (by omega)
  obtain ⟨s4,c4,w4,k4⟩:=put61 hD hX [[32],signF x.k,[32]] .tight (by simp) _ _ w3 (by simp only [List.length_append,List.flatten_cons,List.flatten_nil,List.append_nil];omega)
  simp only [strs,List.map_cons,List.map_nil,List.flatten_cons,List.flatten_nil,List.append_nil] at c4 w4
  obtain ⟨s5,c5,w5,k5⟩:=IH x.b (by simp) (nextW x.k) _ _ w4 (by simp only [List.length_append];omega)
  simp only [Ex.av,Ex.cs] at a6
  simp [a35t,he,a0,a6,hf,hp,n1,n2,keyKind,mapOf,c3,c4,c5,Ai.beq_refl]
  exact hK _ _ (by simpa using w5) (k2.trans (k3.trans (k4.trans k5)))
 have ifC:x.k=15→AW A 35 none a35t e ds st K:=by
  intro hk
  have nf:=no_find (k:=15) (by simp)
  have e1:ownF E x=[105,102,32]++(E x.a 0++([32,116,104,101,110,32]++(E x.b 0++([32,101,108,115,101,32]++E x.c 0)))):=by simp [ownF,hk]
  have e2:partsF x=[x.a,x.b,x.c]:=by simp [partsF,manyF,hk]
  rw [e1] at hl hK
  simp only [List.length_append] at hl
  rw [e2] at IH
  obtain ⟨s3,c3,w3,k3⟩:=put61 hD hX [[105,102,32]] .tight (by simp) _ _ q2 (by simp only [List.flatten_cons,List.flatten_nil,List.append_nil];omega)
  obtain ⟨s4,c4,w4,k4⟩:=IH x.a (by simp) 0 _ _ w3 (by simp only [List.length_append,List.flatten_cons,List.flatten_nil,List.append_nil];omega)
  obtain ⟨s5,c5,w5,k5⟩:=put61 hD hX [[32,116,104,101,110,32]] .tight (by simp) _ _ w4 (by simp only [List.length_append,List.flatten_cons,List.flatten_nil,List.append_nil];omega)
  obtain ⟨s6,c6,w6,k6⟩:=IH x.b (by simp) 0 _ _ w5 (by simp only [List.length_append,List.flatten_cons,List.flatten_nil,List.append_nil];omega)
  obtain ⟨s7,c7,w7,k7⟩:=put61 hD hX [[32,101,108,115,101,32]] .tight (by simp) _ _ w6 (by simp only [List.length_append,List.flatten_cons,List.flatten_nil,List.append_nil];omega)
  obtain ⟨s8,c8,w8,k8⟩:=IH x.c (by simp) 0 _ _ w7 (by simp only [List.length_append,List.flatten_cons,List.flatten_nil,List.append_nil];omega)
  simp only [strs,List.map_cons,List.map_nil] at c3 c5 c7
  simp only [Ex.av,Ex.cs] at a6
  simp [a35t,he,a0,a6,hf,hp,nf.1,nf.2,keyKind,mapOf,hk,c3,c4,c5,c6,c7,c8,Ai.beq_refl]
  exact hK _ _ (by simpa using w8) (k2.trans (k3.trans (k4.trans (k5.trans (k6.trans (k7.trans k8))))))
 rcases kinds21 h0 h1 with h | h | h | h | h | h | h | h | h | h | h | h | h | h | h | h | h | h | h | h | h
 all_goals first
  | exact ifC h
  | exact atomC (by omega)
  | exact oneC (by omega)
  | exact twoC (by omega)
set_option maxHeartbeats 1000000 in
theorem expr35 {p:Pg} (hp:p.Ok) (hm:onesF p.xs 0=true) (hv:∀x∈p.xs,-9223372036854775808≤x.v∧x.v≤9223372036854775807) (hD:D.isCell=true) :
  ∀(f a:Nat),a<f→a<p.xs.length→∀w:Int,Puts r D (.lst 9 (p.xs.map Ex.av) p.xap) 35 [.ptr r 0,.int .i64 a,.int .i64 w] (shE p.xs f a w)
 | 0,_,h,_,_=>by omega
 | f+1,a,hn,ha',w=>fun st bs hw hl=>by
  have hX:(AV.lst 9 (p.xs.map Ex.av) p.xap).isCell=true:=rfl
  obtain ⟨x,hx⟩:∃x,x=p.xs[a]:=⟨_,rfl⟩
  have hok:x.Ok:=by rw [hx];exact hp.ex _ (List.getElem_mem ha')
  have hvx:=hv x (by rw [hx];exact List.getElem_mem ha')
  have hone:=ones_get p.xs 0 a ha' hm
  rw [←hx,Nat.zero_add] at hone
  have hpt:=one_parts hone
  have hk:1≤x.k∧x.k≤21:=by unfold oneF at hone;simp only [Bool.and_eq_true,decide_eq_true_eq] at hone;exact hone.1.1.1.1.1
  have hb:x.k=2→x.v=0∨x.v=1:=fun h2=>by
   unfold oneF at hone
   simp only [Bool.and_eq_true] at hone
   have:=hone.2
   simp [h2] at this
   omega
  have hg:p.xs.getD (a:Int).toNat zEx=x:=by simp [List.getD_eq_getElem?_getD,ha',hx]
  have IH:∀c∈partsF x,∀w,Puts r D (.lst 9 (p.xs.map Ex.av) p.xap) 35 [.ptr r 0,.int .i64 c,.int .i64 w] (shE p.xs f c w):=fun c hc w=>by
   obtain ⟨h1,h2⟩:=hpt c hc
   obtain ⟨b,rfl⟩:∃b:Nat,c=b:=⟨c.toNat,by omega⟩
   exact expr35 hp hm hv hD f b (by omega) (by omega) w
  have g1:(p.xs.map Ex.av)[a]'(by simpa using ha')=.agg x.cs:=by rw [xs_get ha',hx]
  have ct:=tight_call hk.1 hk.2 hw.ok
  rw [shE,hg] at hl ⊢
  obtain ⟨b1,b2,hr,hb1,hb2⟩:=hw.cell
  have hlt:=hw.lt
  by_cases ht:tightF x.k<w
  ·rw [if_pos ht] at hl ⊢
   simp only [List.length_append] at hl
   obtain ⟨s2,c2,w2,k2⟩:=put61 hD hX [[40]] .tight (by simp) _ _ hw (by simp only [List.flatten_cons,List.flatten_nil,List.append_nil];omega)
   simp only [strs,List.map_cons,List.map_nil,List.flatten_cons,List.flatten_nil,List.append_nil] at c2 w2
   obtain ⟨q,⟨s',h1,h2,h3⟩,h4,_⟩:=task_tail (A:=A) (st:=st) (f:=35) (args:=[.ptr r 0,.int .i64 a,.int .i64 w]) (N:=99) (fun q=>∃s',q=(⟨.ret,⟨[.tup []],[]⟩,s'⟩:Res)∧WrOk r D (.lst 9 (p.xs.map Ex.av) p.xap) s' (bs++([40]++(ownF (shE p.xs f) x++[41])))∧WKeep r st s') prim35 fn35 rfl (by
    intro e he ha K hK
    have a0:=ha 0
    have a1:=ha 1
    have a2:=ha 2
    clear ha
    simp at a0 a1 a2
    simp only [Ex.av,Ex.cs] at ct g1
    change AW A 35 none (.seq _ (.seq _ a35t)) _ _ _ _
    simp [he,a0,a1,a2,hr,ha',g1,ct,ht,c2,Ai.beq_refl]
    refine body35 hD hX hok hk.1 hk.2 hvx hb IH w2 (by simp only [List.length_append];omega) (by simp [he]) (by simp [he,a0]) (by simp [he,Ex.av,Ex.cs]) fun e2 s3 w3 k3=>?_
    obtain ⟨s4,c4,w4,k4⟩:=put_def hD hX [[41]] .tight (by simp) w3 (by simp only [List.length_append,List.flatten_cons,List.flatten_nil,List.append_nil] at hl ⊢;omega)
    simp only [strs,List.map_cons,List.map_nil,List.flatten_cons,List.flatten_nil,List.append_nil] at c4 w4
    exact hK _ _ _ _ _ (by simp [tailA,runDefs,leaveD,modeOf,runCalls,c4,lastA,envGone,a35,resultsA,oneOf]) ⟨_,rfl,by simpa using w4,k2.trans (k3.trans k4)⟩)
   subst h1
   exact ⟨s',h4,h2,h3⟩
  ·rw [if_neg ht] at hl ⊢
   obtain ⟨q,⟨s',h1,h2,h3⟩,h4,_⟩:=task_tail (A:=A) (st:=st) (f:=35) (args:=[.ptr r 0,.int .i64 a,.int .i64 w]) (N:=99) (fun q=>∃s',q=(⟨.ret,⟨[.tup []],[]⟩,s'⟩:Res)∧WrOk r D (.lst 9 (p.xs.map Ex.av) p.xap) s' (bs++ownF (shE p.xs f) x)∧WKeep r st s') prim35 fn35 rfl (by
    intro e he ha K hK
    have a0:=ha 0
    have a1:=ha 1
    have a2:=ha 2
    clear ha
    simp at a0 a1 a2
    simp only [Ex.av,Ex.cs] at ct g1
    change AW A 35 none (.seq _ (.seq _ a35t)) _ _ _ _
    simp [he,a0,a1,a2,hr,ha',g1,ct,ht,Ai.beq_refl]
    refine body35 hD hX hok hk.1 hk.2 hvx hb IH hw hl (by simp [he]) (by simp [he,a0]) (by simp [he,Ex.av,Ex.cs]) fun e2 s3 w3 k3=>?_
    exact hK _ _ _ _ _ (by simp [tailA,runDefs,a35,resultsA,oneOf]) ⟨_,rfl,w3,k3⟩)
   subst h1
   exact ⟨s',h4,h2,h3⟩
end
end Go.Proofs.YtgkhmmlemgikjaaGreatDoor
namespace Go.Proofs.YtgkhmmlemgikjaaGreatDoor
open Go Ai
theorem fn65:A.fn 65=some a65:=by kernel_rfl
theorem prim65:A.prim 65=none:=by kernel_rfl
theorem fn66:A.fn 66=some a66:=by kernel_rfl
theorem prim66:A.prim 66=none:=by kernel_rfl
theorem fn112:A.fn 112=some a112:=by kernel_rfl
theorem prim112:A.prim 112=none:=by kernel_rfl
theorem fn113:A.fn 113=some a113:=by kernel_rfl
theorem prim113:A.prim 113=none:=by kernel_rfl
def typeT (t:Int):Sx:=if t=1 then [102,105,120] else if t=2 then [98,111,111,108] else [63]
theorem type_call {t:Int} {st:St} (hst:StOk st):runL A (.call 65 [.int .i64 t]) st=some ⟨.ret,⟨[.str (typeT t)],[]⟩,st⟩:=by
 refine (task_of_aw (N:=8) prim65 fn65 rfl rfl hst ?_).1
 intro e he ha K hK
 have a0:=ha 0
 clear ha
 simp at a0
 by_cases h1:t=1
 ·simp [a65,he,a0,h1]
  exact hK _ _ _ (.inl rfl) (by simp) ⟨_,rfl,by simp [he,typeT,h1,AV.still]⟩
 ·by_cases h2:t=2
  ·simp [a65,he,a0,h2]
   exact hK _ _ _ (.inl rfl) (by simp) ⟨_,rfl,by simp [he,typeT,h2,AV.still]⟩
  ·simp [a65,he,a0,h1,h2]
   exact hK _ _ _ (.inl rfl) (by simp) ⟨_,rfl,by simp [he,typeT,h1,h2,AV.still]⟩
def itemB (E:Int→Sx) (x:It):Sx :=
 if x.k=1 then [108,101,116,32]++((x.n)++([58,32]++((typeT x.t)++([32,61,32]++(E x.e)))))
 else if x.k=2 then [100,101,114,32]++((x.n)++([32,61,32]++(E x.e++([32,105,110,105,116,32]++(E x.f)))))
 else if x.k=3 then [114,101,115,101,116,32]++((x.n)++([32,111,110,32]++(E x.f++([32,61,32]++(E x.e)))))
 else if x.k=4 then [109,101,109,32]++((x.n)++([58,32]++((typeT x.t)++([32,105,110,105,116,32]++(E x.e)))))
 else if x.k=5 then [111,110,32]++(E x.f++([32,115,101,116,32]++((x.n)++([32,61,32]++(E x.e)))))
 else if x.k=6 then [109,111,100,101,32]++((x.n)++([32,123]++((Lib.join x.ss [44,32])++([125]))))
 else if x.k=7 then [102,114,111,109,32]++((x.n)++([46]++((x.s)++([32,111,110,32]++(E x.f++([32,103,111,116,111,32]++((x.x))))))))
 else [111,117,116,32]++((x.n))
def itemT (E:Int→Sx) (x:It):Sx:=[32,32]++(itemB E x++[59,10])
section
variable {r:Nat} {D X:AV} {E:Int→Sx}
theorem clos_e {x:It} (h:Puts r D X 35 [.ptr r 0,.int .i64 x.e,.int .i64 0] (E x.e)):Puts r D X 112 [.iptr (.ptr r 0),.iptr x.av] (E x.e):=by
 refine puts_of (N:=6) prim112 fn112 rfl rfl rfl ?_
 intro st bs hw hl e he ha K hK
 have a0:=ha 0
 have a1:=ha 1
 clear ha
 simp [It.av,It.cs] at a0 a1
 obtain ⟨s2,c2,w2,k2⟩:=h _ _ hw hl
 simp [a112,he,a0,a1,c2]
 exact hK _ _ _ (.inr rfl) w2 k2
theorem clos_f {x:It} (h:Puts r D X 35 [.ptr r 0,.int .i64 x.f,.int .i64 0] (E x.f)):Puts r D X 113 [.iptr (.ptr r 0),.iptr x.av] (E x.f):=by
 refine puts_of (N:=6) prim113 fn113 rfl rfl rfl ?_
 intro st bs hw hl e he ha K hK
 have a0:=ha 0
 have a1:=ha 1
 clear ha
 simp [It.av,It.cs] at a0 a1
 obtain ⟨s2,c2,w2,k2⟩:=h _ _ hw hl
 simp [a113,he,a0,a1,c2]
 exact hK _ _ _ (.inr rfl) w2 k2
set_option maxHeartbeats 1000000 in
theorem item66_1 (hD:D.isCell=true) (hX:X.isCell=true) {x:It} (hx:x.Ok) (hk:x.k=1) (hE:Puts r D X 35 [.ptr r 0,.int .i64 x.e,.int .i64 0] (E x.e)):Puts r D X 66 [.ptr r 0,x.av] (itemT E x):=by
 refine puts_of (N:=113) prim66 fn66 rfl rfl rfl ?_
 intro st bs hw hl e he ha K hK
 have a0:=ha 0
 have a1:=ha 1
 clear ha
 simp at a0 a1
 have e1:itemT E x=[32,32]++([108,101,116,32]++((x.n)++([58,32]++((typeT x.t)++([32,61,32]++(E x.e++([59,10]))))))):=by simp [itemT,itemB,hk]
 rw [e1] at hl hK
 simp only [List.length_append] at hl
 obtain ⟨s1,c1,w1,k1⟩:=put61 hD hX [[32,32]] .tight (by simp) _ _ hw (by simp only [List.length_append,List.flatten_cons,List.flatten_nil,List.append_nil];omega)
 simp only [strs,List.map_cons,List.map_nil,List.flatten_cons,List.flatten_nil,List.append_nil] at c1 w1
 have ct:=type_call (t:=x.t) w1.ok
 obtain ⟨s2,c2,w2,k2⟩:=put61 hD hX [[108,101,116,32],(x.n),[58,32],(typeT x.t),[32,61,32]] .tight (by simp) _ _ w1 (by simp only [List.length_append,List.flatten_cons,List.flatten_nil,List.append_nil];omega)
 simp only [strs,List.map_cons,List.map_nil] at c2
 simp only [List.flatten_cons,List.flatten_nil,List.append_nil] at w2
 obtain ⟨s3,c3,w3,k3⟩:=clos_e hE _ _ w2 (by simp only [List.length_append,List.flatten_cons,List.flatten_nil,List.append_nil];omega)
 simp only [It.av,It.cs,hk] at c3
 obtain ⟨s4,c4,w4,k4⟩:=put61 hD hX [[59,10]] .tight (by simp) _ _ w3 (by simp only [List.length_append,List.flatten_cons,List.flatten_nil,List.append_nil];omega)
 simp only [strs,List.map_cons,List.map_nil] at c4
 simp only [List.flatten_cons,List.flatten_nil,List.append_nil] at w4
 simp only [It.av,It.cs] at a1
 simp [a66,he,a0,a1,hk,c1,ct,c2,c3,c4,Ai.beq_refl]
 exact hK _ _ _ (.inr rfl) (by simpa using w4) (k1.trans (k2.trans (k3.trans k4)))
set_option maxHeartbeats 1000000 in
theorem item66_2 (hD:D.isCell=true) (hX:X.isCell=true) {x:It} (hx:x.Ok) (hk:x.k=2) (hE:Puts r D X 35 [.ptr r 0,.int .i64 x.e,.int .i64 0] (E x.e)) (hF:Puts r D X 35 [.ptr r 0,.int .i64 x.f,.int .i64 0] (E x.f)):Puts r D X 66 [.ptr r 0,x.av] (itemT E x):=by
 refine puts_of (N:=113) prim66 fn66 rfl rfl rfl ?_
 intro st bs hw hl e he ha K hK
 have a0:=ha 0
 have a1:=ha 1
 clear ha
 simp at a0 a1
 have e1:itemT E x=[32,32]++([100,101,114,32]++((x.n)++([32,61,32]++(E x.e++([32,105,110,105,116,32]++(E x.f++([59,10]))))))):=by simp [itemT,itemB,hk]
 rw [e1] at hl hK
 simp only [List.length_append] at hl
 obtain ⟨s1,c1,w1,k1⟩:=put61 hD hX [[32,32]] .tight (by simp) _ _ hw (by simp only [List.length_append,List.flatten_cons,List.flatten_nil,List.append_nil];omega)
 simp only [strs,List.map_cons,List.map_nil,List.flatten_cons,List.flatten_nil,List.append_nil] at c1 w1
 obtain ⟨s2,c2,w2,k2⟩:=put61 hD hX [[100,101,114,32],(x.n),[32,61,32]] .tight (by simp) _ _ w1 (by simp only [List.length_append,List.flatten_cons,List.flatten_nil,List.append_nil];omega)
 simp only [strs,List.map_cons,List.map_nil] at c2
 simp only [List.flatten_cons,List.flatten_nil,List.append_nil] at w2
 obtain ⟨s3,c3,w3,k3⟩:=clos_e hE _ _ w2 (by simp only [List.length_append,List.flatten_cons,List.flatten_nil,List.append_nil];omega)
 simp only [It.av,It.cs,hk] at c3
 obtain ⟨s4,c4,w4,k4⟩:=put61 hD hX [[32,105,110,105,116,32]] .tight (by simp) _ _ w3 (by simp only [List.length_append,List.flatten_cons,List.flatten_nil,List.append_nil];omega)
 simp only [strs,List.map_cons,List.map_nil] at c4
 simp only [List.flatten_cons,List.flatten_nil,List.append_nil] at w4
 obtain ⟨s5,c5,w5,k5⟩:=clos_f hF _ _ w4 (by simp only [List.length_append,List.flatten_cons,List.flatten_nil,List.append_nil];omega)
 simp only [It.av,It.cs,hk] at c5
 obtain ⟨s6,c6,w6,k6⟩:=put61 hD hX [[59,10]] .tight (by simp) _ _ w5 (by simp only [List.length_append,List.flatten_cons,List.flatten_nil,List.append_nil];omega)
 simp only [strs,List.map_cons,List.map_nil] at c6
 simp only [List.flatten_cons,List.flatten_nil,List.append_nil] at w6
 simp only [It.av,It.cs] at a1
 simp [a66,he,a0,a1,hk,c1,c2,c3,c4,c5,c6,Ai.beq_refl]
 exact hK _ _ _ (.inr rfl) (by simpa using w6) (k1.trans (k2.trans (k3.trans (k4.trans (k5.trans k6)))))
set_option maxHeartbeats 1000000 in
theorem item66_3 (hD:D.isCell=true) (hX:X.isCell=true) {x:It} (hx:x.Ok) (hk:x.k=3) (hE:Puts r D X 35 [.ptr r 0,.int .i64 x.e,.int .i64 0] (E x.e)) (hF:Puts r D X 35 [.ptr r 0,.int .i64 x.f,.int .i64 0] (E x.f)):Puts r D X 66 [.ptr r 0,x.av] (itemT E x):=by
 refine puts_of (N:=113) prim66 fn66 rfl rfl rfl ?_
 intro st bs hw hl e he ha K hK
 have a0:=ha 0
 have a1:=ha 1
 clear ha
 simp at a0 a1
 have e1:itemT E x=[32,32]++([114,101,115,101,116,32]++((x.n)++([32,111,110,32]++(E x.f++([32,61,32]++(E x.e++([59,10]))))))):=by simp [itemT,itemB,hk]
 rw [e1] at hl hK
 simp only [List.length_append] at hl
 obtain ⟨s1,c1,w1,k1⟩:=put61 hD hX [[32,32]] .tight (by simp) _ _ hw (by simp only [List.length_append,List.flatten_cons,List.flatten_nil,List.append_nil];omega)
 simp only [strs,List.map_cons,List.map_nil,List.flatten_cons,List.flatten_nil,List.append_nil] at c1 w1
 obtain ⟨s2,c2,w2,k2⟩:=put61 hD hX [[114,101,115,101,116,32],(x.n),[32,111,110,32]] .tight (by simp) _ _ w1 (by simp only [List.length_append,List.flatten_cons,List.flatten_nil,List.append_nil];omega)
 simp only [strs,List.map_cons,List.map_nil] at c2
 simp only [List.flatten_cons,List.flatten_nil,List.append_nil] at w2
 obtain ⟨s3,c3,w3,k3⟩:=clos_f hF _ _ w2 (by simp only [List.length_append,List.flatten_cons,List.flatten_nil,List.append_nil];omega)
 simp only [It.av,It.cs,hk] at c3
 obtain ⟨s4,c4,w4,k4⟩:=put61 hD hX [[32,61,32]] .tight (by simp) _ _ w3 (by simp only [List.length_append,List.flatten_cons,List.flatten_nil,List.append_nil];omega)
 simp only [strs,List.map_cons,List.map_nil] at c4
 simp only [List.flatten_cons,List.flatten_nil,List.append_nil] at w4
 obtain ⟨s5,c5,w5,k5⟩:=clos_e hE _ _ w4 (by simp only [List.length_append,List.flatten_cons,List.flatten_nil,List.append_nil];omega)
 simp only [It.av,It.cs,hk] at c5
 obtain ⟨s6,c6,w6,k6⟩:=put61 hD hX [[59,10]] .tight (by simp) _ _ w5 (by simp only [List.length_append,List.flatten_cons,List.flatten_nil,List.append_nil];omega)
 simp only [strs,List.map_cons,List.map_nil] at c6
 simp only [List.flatten_cons,List.flatten_nil,List.append_nil] at w6
 simp only [It.av,It.cs] at a1
 simp [a66,he,a0,a1,hk,c1,c2,c3,c4,c5,c6,Ai.beq_refl]
 exact hK _ _ _ (.inr rfl) (by simpa using w6) (k1.trans (k2.trans (k3.trans (k4.trans (k5.trans k6)))))
set_option maxHeartbeats 1000000 in
theorem item66_4 (hD:D.isCell=true) (hX:X.isCell=true) {x:It} (hx:x.Ok) (hk:x.k=4) (hE:Puts r D X 35 [.ptr r 0,.int .i64 x.e,.int .i64 0] (E x.e)):Puts r D X 66 [.ptr r 0,x.av] (itemT E x):=by
 refine puts_of (N:=113) prim66 fn66 rfl rfl rfl ?_
 intro st bs hw hl e he ha K hK
 have a0:=ha 0
 have a1:=ha 1
 clear ha
 simp at a0 a1
 have e1:itemT E x=[32,32]++([109,101,109,32]++((x.n)++([58,32]++((typeT x.t)++([32,105,110,105,116,32]++(E x.e++([59,10]))))))):=by simp [itemT,itemB,hk]
 rw [e1] at hl hK
 simp only [List.length_append] at hl
 obtain ⟨s1,c1,w1,k1⟩:=put61 hD hX [[32,32]] .tight (by simp) _ _ hw (by simp only [List.length_append,List.flatten_cons,List.flatten_nil,List.append_nil];omega)
 simp only [strs,List.map_cons,List.map_nil,List.flatten_cons,List.flatten_nil,List.append_nil] at c1 w1
 have ct:=type_call (t:=x.t) w1.ok
 obtain ⟨s2,c2,w2,k2⟩:=put61 hD hX [[109,101,109,32],(x.n),[58,32],(typeT x.t),[32,105,110,105,116,32]] .tight (by simp) _ _ w1 (by simp only [List.length_append,List.flatten_cons,List.flatten_nil,List.append_nil];omega)
 simp only [strs,List.map_cons,List.map_nil] at c2
 simp only [List.flatten_cons,List.flatten_nil,List.append_nil] at w2
 obtain ⟨s3,c3,w3,k3⟩:=clos_e hE _ _ w2 (by simp only [List.length_append,List.flatten_cons,List.flatten_nil,List.append_nil];omega)
 simp only [It.av,It.cs,hk] at c3
 obtain ⟨s4,c4,w4,k4⟩:=put61 hD hX [[59,10]] .tight (by simp) _ _ w3 (by simp only [List.length_append,List.flatten_cons,List.flatten_nil,List.append_nil];omega)
 simp only [strs,List.map_cons,List.map_nil] at c4
 simp only [List.flatten_cons,List.flatten_nil,List.append_nil] at w4
 simp only [It.av,It.cs] at a1
 simp [a66,he,a0,a1,hk,c1,ct,c2,c3,c4,Ai.beq_refl]
 exact hK _ _ _ (.inr rfl) (by simpa using w4) (k1.trans (k2.trans (k3.trans k4)))
set_option maxHeartbeats 1000000 in
theorem item66_5 (hD:D.isCell=true) (hX:X.isCell=true) {x:It} (hx:x.Ok) (hk:x.k=5) (hE:Puts r D X 35 [.ptr r 0,.int .i64 x.e,.int .i64 0] (E x.e)) (hF:Puts r D X 35 [.ptr r 0,.int .i64 x.f,.int .i64 0] (E x.f)):Puts r D X 66 [.ptr r 0,x.av] (itemT E x):=by
 refine puts_of (N:=113) prim66 fn66 rfl rfl rfl ?_
 intro st bs hw hl e he ha K hK
 have a0:=ha 0
 have a1:=ha 1
 clear ha
 simp at a0 a1
 have e1:itemT E x=[32,32]++([111,110,32]++(E x.f++([32,115,101,116,32]++((x.n)++([32,61,32]++(E x.e++([59,10]))))))):=by simp [itemT,itemB,hk]
 rw [e1] at hl hK
 simp only [List.length_append] at hl
 obtain ⟨s1,c1,w1,k1⟩:=put61 hD hX [[32,32]] .tight (by simp) _ _ hw (by simp only [List.length_append,List.flatten_cons,List.flatten_nil,List.append_nil];omega)
 simp only [strs,List.map_cons,List.map_nil,List.flatten_cons,List.flatten_nil,List.append_nil] at c1 w1
 obtain ⟨s2,c2,w2,k2⟩:=put61 hD hX [[111,110,32]] .tight (by simp) _ _ w1 (by simp only [List.length_append,List.flatten_cons,List.flatten_nil,List.append_nil];omega)
 simp only [strs,List.map_cons,List.map_nil] at c2
 simp only [List.flatten_cons,List.flatten_nil,List.append_nil] at w2
 obtain ⟨s3,c3,w3,k3⟩:=clos_f hF _ _ w2 (by simp only [List.length_append,List.flatten_cons,List.flatten_nil,List.append_nil];omega)
 simp only [It.av,It.cs,hk] at c3
 obtain ⟨s4,c4,w4,k4⟩:=put61 hD hX [[32,115,101,116,32],(x.n),[32,61,32]] .tight (by simp) _ _ w3 (by simp only [List.length_append,List.flatten_cons,List.flatten_nil,List.append_nil];omega)
 simp only [strs,List.map_cons,List.map_nil] at c4
 simp only [List.flatten_cons,List.flatten_nil,List.append_nil] at w4
 obtain ⟨s5,c5,w5,k5⟩:=clos_e hE _ _ w4 (by simp only [List.length_append,List.flatten_cons,List.flatten_nil,List.append_nil];omega)
 simp only [It.av,It.cs,hk] at c5
 obtain ⟨s6,c6,w6,k6⟩:=put61 hD hX [[59,10]] .tight (by simp) _ _ w5 (by simp only [List.length_append,List.flatten_cons,List.flatten_nil,List.append_nil];omega)
 simp only [strs,List.map_cons,List.map_nil] at c6
 simp only [List.flatten_cons,List.flatten_nil,List.append_nil] at w6
 simp only [It.av,It.cs] at a1
 simp [a66,he,a0,a1,hk,c1,c2,c3,c4,c5,c6,Ai.beq_refl]
 exact hK _ _ _ (.inr rfl) (by simpa using w6) (k1.trans (k2.trans (k3.trans (k4.trans (k5.trans k6)))))
set_option maxHeartbeats 1000000 in
theorem item66_6 (hD:D.isCell=true) (hX:X.isCell=true) {x:It} (hx:x.Ok) (hk:x.k=6):Puts r D X 66 [.ptr r 0,x.av] (itemT E x):=by
 refine puts_of (N:=113) prim66 fn66 rfl rfl rfl ?_
 intro st bs hw hl e he ha K hK
 have a0:=ha 0
 have a1:=ha 1
 clear ha
 simp at a0 a1
 have e1:itemT E x=[32,32]++([109,111,100,101,32]++((x.n)++([32,123]++((Lib.join x.ss [44,32])++([125]++([59,10])))))):=by simp [itemT,itemB,hk]
 rw [e1] at hl hK
 simp only [List.length_append] at hl
 have hj:(Lib.join x.ss [44,32]).length≤140737488355328:=by simp only [Ai.great] at hl;omega
 have hss:=hx.ss
 obtain ⟨s1,c1,w1,k1⟩:=put61 hD hX [[32,32]] .tight (by simp) _ _ hw (by simp only [List.length_append,List.flatten_cons,List.flatten_nil,List.append_nil];omega)
 simp only [strs,List.map_cons,List.map_nil,List.flatten_cons,List.flatten_nil,List.append_nil] at c1 w1
 have cj:=join_call (l:=x.ss) (sep:=[44,32]) (ap:=x.ap) hj (by omega) (st:=s1)
 rw [show x.ss.map AV.str=strs x.ss from rfl] at cj
 obtain ⟨s2,c2,w2,k2⟩:=put61 hD hX [[109,111,100,101,32],(x.n),[32,123],(Lib.join x.ss [44,32]),[125]] .tight (by simp) _ _ w1 (by simp only [List.length_append,List.flatten_cons,List.flatten_nil,List.append_nil];omega)
 rw [show strs [[109,111,100,101,32],(x.n),[32,123],(Lib.join x.ss [44,32]),[125]]=[.str [109,111,100,101,32],.str (x.n),.str [32,123],.str (Lib.join x.ss [44,32]),.str [125]] from rfl] at c2
 simp only [List.flatten_cons,List.flatten_nil,List.append_nil] at w2
 obtain ⟨s3,c3,w3,k3⟩:=put61 hD hX [[59,10]] .tight (by simp) _ _ w2 (by simp only [List.length_append,List.flatten_cons,List.flatten_nil,List.append_nil];omega)
 simp only [strs,List.map_cons,List.map_nil] at c3
 simp only [List.flatten_cons,List.flatten_nil,List.append_nil] at w3
 simp only [It.av,It.cs] at a1
 simp [a66,he,a0,a1,hk,c1,cj,c2,c3,Ai.beq_refl]
 exact hK _ _ _ (.inr rfl) (by simpa using w3) (k1.trans (k2.trans k3))
set_option maxHeartbeats 1000000 in
theorem item66_7 (hD:D.isCell=true) (hX:X.isCell=true) {x:It} (hx:x.Ok) (hk:x.k=7) (hF:Puts r D X 35 [.ptr r 0,.int .i64 x.f,.int .i64 0] (E x.f)):Puts r D X 66 [.ptr r 0,x.av] (itemT E x):=by
 refine puts_of (N:=113) prim66 fn66 rfl rfl rfl ?_
 intro st bs hw hl e he ha K hK
 have a0:=ha 0
 have a1:=ha 1
 clear ha
 simp at a0 a1
 have e1:itemT E x=[32,32]++([102,114,111,109,32]++((x.n)++([46]++((x.s)++([32,111,110,32]++(E x.f++([32,103,111,116,111,32]++((x.x)++([59,10]))))))))):=by simp [itemT,itemB,hk]
 rw [e1] at hl hK
 simp only [List.length_append] at hl
 obtain ⟨s1,c1,w1,k1⟩:=put61 hD hX [[32,32]] .tight (by simp) _ _ hw (by simp only [List.length_append,List.flatten_cons,List.flatten_nil,List.append_nil];omega)
 simp only [strs,List.map_cons,List.map_nil,List.flatten_cons,List.flatten_nil,List.append_nil] at c1 w1
 obtain ⟨s2,c2,w2,k2⟩:=put61 hD hX [[102,114,111,109,32],(x.n),[46],(x.s),[32,111,110,32]] .tight (by simp) _ _ w1 (by simp only [List.length_append,List.flatten_cons,List.flatten_nil,List.append_nil];omega)
 simp only [strs,List.map_cons,List.map_nil] at c2
 simp only [List.flatten_cons,List.flatten_nil,List.append_nil] at w2
 obtain ⟨s3,c3,w3,k3⟩:=clos_f hF _ _ w2 (by simp only [List.length_append,List.flatten_cons,List.flatten_nil,List.append_nil];omega)
 simp only [It.av,It.cs,hk] at c3
 obtain ⟨s4,c4,w4,k4⟩:=put61 hD hX [[32,103,111,116,111,32],(x.x)] .tight (by simp) _ _ w3 (by simp only [List.length_append,List.flatten_cons,List.flatten_nil,List.append_nil];omega)
 simp only [strs,List.map_cons,List.map_nil] at c4
 simp only [List.flatten_cons,List.flatten_nil,List.append_nil] at w4
 obtain ⟨s5,c5,w5,k5⟩:=put61 hD hX [[59,10]] .tight (by simp) _ _ w4 (by simp only [List.length_append,List.flatten_cons,List.flatten_nil,List.append_nil];omega)
 simp only [strs,List.map_cons,List.map_nil] at c5
 simp only [List.flatten_cons,List.flatten_nil,List.append_nil] at w5
 simp only [It.av,It.cs] at a1
 simp [a66,he,a0,a1,hk,c1,c2,c3,c4,c5,Ai.beq_refl]
 exact hK _ _ _ (.inr rfl) (by simpa using w5) (k1.trans (k2.trans (k3.trans (k4.trans k5))))
set_option maxHeartbeats 1000000 in
theorem item66_8 (hD:D.isCell=true) (hX:X.isCell=true) {x:It} (hx:x.Ok) (hk:x.k=8):Puts r D X 66 [.ptr r 0,x.av] (itemT E x):=by
 refine puts_of (N:=113) prim66 fn66 rfl rfl rfl ?_
 intro st bs hw hl e he ha K hK
 have a0:=ha 0
 have a1:=ha 1
 clear ha
 simp at a0 a1
 have e1:itemT E x=[32,32]++([111,117,116,32]++((x.n)++([59,10]))):=by simp [itemT,itemB,hk]
 rw [e1] at hl hK
 simp only [List.length_append] at hl
 obtain ⟨s1,c1,w1,k1⟩:=put61 hD hX [[32,32]] .tight (by simp) _ _ hw (by simp only [List.length_append,List.flatten_cons,List.flatten_nil,List.append_nil];omega)
 simp only [strs,List.map_cons,List.map_nil,List.flatten_cons,List.flatten_nil,List.append_nil] at c1 w1
 obtain ⟨s2,c2,w2,k2⟩:=put61 hD hX [[111,117,116,32],(x.n)] .tight (by simp) _ _ w1 (by simp only [List.length_append,List.flatten_cons,List.flatten_nil,List.append_nil];omega)
 simp only [strs,List.map_cons,List.map_nil] at c2
 simp only [List.flatten_cons,List.flatten_nil,List.append_nil] at w2
 obtain ⟨s3,c3,w3,k3⟩:=put61 hD hX [[59,10]] .tight (by simp) _ _ w2 (by simp only [List.length_append,List.flatten_cons,List.flatten_nil,List.append_nil];omega)
 simp only [strs,List.map_cons,List.map_nil] at c3
 simp only [List.flatten_cons,List.flatten_nil,List.append_nil] at w3
 simp only [It.av,It.cs] at a1
 simp [a66,he,a0,a1,hk,c1,c2,c3,Ai.beq_refl]
 exact hK _ _ _ (.inr rfl) (by simpa using w3) (k1.trans (k2.trans k3))
theorem item66 (hD:D.isCell=true) (hX:X.isCell=true) {x:It} (hx:x.Ok) (h1:1≤x.k) (h8:x.k≤8) (hE:hasE x.k=true→Puts r D X 35 [.ptr r 0,.int .i64 x.e,.int .i64 0] (E x.e)) (hF:hasF x.k=true→Puts r D X 35 [.ptr r 0,.int .i64 x.f,.int .i64 0] (E x.f)):Puts r D X 66 [.ptr r 0,x.av] (itemT E x):=by
 have hk:x.k=1∨x.k=2∨x.k=3∨x.k=4∨x.k=5∨x.k=6∨x.k=7∨x.k=8:=by omega
 rcases hk with h | h | h | h | h | h | h | h
 ·exact item66_1 hD hX hx h (hE (by simp [hasE,h]))
 ·exact item66_2 hD hX hx h (hE (by simp [hasE,h])) (hF (by simp [hasF,h]))
 ·exact item66_3 hD hX hx h (hE (by simp [hasE,h])) (hF (by simp [hasF,h]))
 ·exact item66_4 hD hX hx h (hE (by simp [hasE,h]))
 ·exact item66_5 hD hX hx h (hE (by simp [hasE,h])) (hF (by simp [hasF,h]))
 ·exact item66_6 hD hX hx h
 ·exact item66_7 hD hX hx h (hF (by simp [hasF,h]))
 ·exact item66_8 hD hX hx h
end
end Go.Proofs.YtgkhmmlemgikjaaGreatDoor
namespace Go.Proofs.YtgkhmmlemgikjaaGreatDoor
open Go Ai
theorem fn37:A.fn 37=some a37:=by kernel_rfl
theorem prim37:A.prim 37=none:=by kernel_rfl
def w37_0:List Nat:=a37_0.writes
def w37_1:List Nat:=a37_1.writes
theorem pmW_get {l:List Pm} {i:Nat} (h:i<l.length):(l.map Pm.av)[i]'(by simpa using h)=.agg [.str l[i].n,.int .i64 l[i].t]:=by simp [Pm.av]
theorem itW_get {l:List It} {i:Nat} (h:i<l.length):(l.map It.av)[i]'(by simpa using h)=.agg l[i].cs:=by simp [It.av]
def pmT (a:Pm):Sx:=a.n++([58,32]++typeT a.t)
def pmsT:List Pm→Sx
 | []=>[]
 | a::l=>pmT a++l.flatMap fun b=>[44,32]++pmT b
theorem pmsT_snoc (l:List Pm) (a:Pm):pmsT (l++[a])=pmsT l++((if l=[] then [] else [44,32])++pmT a):=by
 cases l with
 | nil=>simp [pmsT]
 | cons b l=>simp [pmsT]
theorem pmsT_take (l:List Pm) (i:Nat):(pmsT (l.take i)).length≤(pmsT l).length:=by
 cases l with
 | nil=>simp
 | cons a l =>
  cases i with
  | zero=>simp [pmsT]
  | succ i =>
   simp only [List.take_succ_cons,pmsT,List.length_append]
   have:((l.take i).flatMap fun b=>[44,32]++pmT b).length≤(l.flatMap fun b=>[44,32]++pmT b).length:=by
    conv=>rhs;rw [←List.take_append_drop i l,List.flatMap_append,List.length_append]
    omega
   omega
def declT (E:Int→Sx) (d:Dc):Sx :=
 (if d.k=1 then [102,117,110] else if d.k=2 then [110,111,100,101] else [104,121,98,114,105,100])++([32]++(d.n++([40]++(pmsT d.ps++([41] ++
  (if d.k = 1 then [58, 32] ++ (typeT d.t ++ ([32, 61, 32] ++ (E d.e ++ [59, 10])))
   else if d.k=2 then [58,32]++(typeT d.t++([32,123,10]++(d.its.flatMap (itemT E)++([32,32,114,101,116,117,114,110,32]++(E d.e++([59,10]++[125,10]))))))
   else [32,123,10]++(d.its.flatMap (itemT E)++[125,10])))))))
section
variable {r:Nat} {D X:AV} {E:Int→Sx}
theorem params_loop (hD:D.isCell=true) (hX:X.isCell=true) {ps:List Pm} {ap:Ap} (hal:ps.length≤1048576) {st:St} {bs:Sx} (h:WrOk r D X st bs) (hl:bs.length+(pmsT ps).length≤Ai.great)
  {e:Env} (he:e.length=102) (a0:AX.ev e (.t 0)=.ptr r 0) (a23:AX.ev e (.t 23)=.lst 2 (ps.map Pm.av) ap) (a24:AX.ev e (.t 24)=.int .i64 ps.length) (a25:AX.ev e (.t 25)=.int .i64 0) {K:PostQ}
  (hK:∀e2 st',Same w37_1 e e2→WrOk r D X st' (bs++pmsT ps)→WKeep r st st'→K (.exit 0) e2 [] st'):AW A 37 none (.loop a37_1) e [] st K:=by
 refine aw_loop (W:=w37_1) rfl (fun m e ds st'=>ds=[]∧∃i:Nat,i+m=ps.length∧AX.ev e (.t 25)=.int .i64 i∧WrOk r D X st' (bs++pmsT (ps.take i))∧WKeep r st st') ps.length
  ⟨rfl,0,by simp,by simp [a25],by simpa [pmsT] using h,.refl⟩ ?_
 rintro m e1 ds st' hs ⟨rfl,i,hm,g25,hw,hk⟩ K1 kn kx
 have he1:e1.length=102:=by simp [hs.1,he]
 have g0:=hs.ev 0 rfl a0
 have g23:=hs.ev 23 rfl a23
 have g24:=hs.ev 24 rfl a24
 by_cases hi:i<ps.length
 ·obtain ⟨c,hc⟩:∃c,c=ps[i]:=⟨_,rfl⟩
  have hg:=pmW_get hi
  rw [←hc] at hg
  have htk:ps.take (i+1)=ps.take i++[c]:=by rw [hc];simp
  have hsn:=pmsT_snoc (ps.take i) c
  rw [←htk] at hsn
  have w1:IntKind.i64.wrap ((i:Int)+1)=(i:Int)+1:=wrap_i64 (by omega) (by omega)
  have w0:IntKind.i64.wrap (1:Int)=1:=wrap_i64 (by omega) (by omega)
  by_cases h0:i=0
  ·subst h0
   have h1:pmsT (ps.take (0+1))=pmT c:=by rw [htk];simp [pmsT]
   have hle1:=pmsT_take ps (0+1)
   rw [h1] at hle1
   simp only [pmT,List.length_append] at hle1
   simp only [List.take_zero,pmsT,List.append_nil] at hw
   have ct:=type_call (t:=c.t) hw.ok
   obtain ⟨s2,c2,w2,k2⟩:=put61 hD hX [c.n,[58,32],typeT c.t] .tight (by simp) _ _ hw (by simp only [List.length_append,List.flatten_cons,List.flatten_nil,List.append_nil];omega)
   simp only [strs,List.map_cons,List.map_nil] at c2
   simp [a37_1,g0,g23,g24,g25,he1,hi,hg,ct,c2,w0,Ai.beq_refl]
   exact kn (m-1) _ _ _ (by omega) ⟨rfl,1,by omega,by simp [he1],by rw [h1];simpa [pmT] using w2,hk.trans k2⟩
  ·have hne:¬(ps.take i=[]):=by
    intro e;have:=congrArg List.length e;rw [List.length_take,List.length_nil] at this;omega
   rw [if_neg hne] at hsn
   have hle:=pmsT_take ps (i+1)
   rw [hsn] at hle
   simp only [pmT,List.length_append,List.length_cons,List.length_nil] at hle
   have hi0:0<i:=by omega
   obtain ⟨s2,c2,w2,k2⟩:=put61 hD hX [[44,32]] .tight (by simp) _ _ hw (by simp only [List.length_append,List.flatten_cons,List.flatten_nil,List.append_nil,List.length_cons,List.length_nil];omega)
   have ct:=type_call (t:=c.t) w2.ok
   obtain ⟨s3,c3,w3,k3⟩:=put61 hD hX [c.n,[58,32],typeT c.t] .tight (by simp) _ _ w2 (by simp only [List.length_append,List.flatten_cons,List.flatten_nil,List.append_nil,List.length_cons,List.length_nil];omega)
   simp only [strs,List.map_cons,List.map_nil] at c2 c3
   simp [a37_1,g0,g23,g24,g25,he1,hi,hg,hi0,c2,ct,c3,w1,Ai.beq_refl]
   exact kn (m-1) _ _ _ (by omega) ⟨rfl,i+1,by omega,by simp [he1],by rw [hsn];simpa [pmT] using w3,hk.trans (k2.trans k3)⟩
 ·obtain rfl:i=ps.length:=by omega
  rw [List.take_length] at hw
  simp [a37_1,g24,g25,he1]
  exact kx _ _ _ _ nofun fun hs'=>hK _ _ hs' hw hk
theorem items_loop (hD:D.isCell=true) (hX:X.isCell=true) {its:List It} {ap:Ap} (hal:its.length≤1048576) (IH:∀x∈its,Puts r D X 66 [.ptr r 0,x.av] (itemT E x)) {st:St} {bs:Sx} (h:WrOk r D X st bs) (hl:bs.length+(its.flatMap (itemT E)).length≤Ai.great)
  {e:Env} (he:e.length=102) (a0:AX.ev e (.t 0)=.ptr r 0) (a76:AX.ev e (.t 76)=.lst 9 (its.map It.av) ap) (a77:AX.ev e (.t 77)=.int .i64 its.length) (a78:AX.ev e (.t 78)=.int .i64 0) {K:PostQ}
  (hK:∀e2 st',Same w37_0 e e2→WrOk r D X st' (bs++its.flatMap (itemT E))→WKeep r st st'→K (.exit 3) e2 [] st'):AW A 37 none (.loop a37_0) e [] st K:=by
 refine aw_loop (W:=w37_0) rfl (fun m e ds st'=>ds=[]∧∃i:Nat,i+m=its.length∧AX.ev e (.t 78)=.int .i64 i∧WrOk r D X st' (bs++(its.take i).flatMap (itemT E))∧WKeep r st st') its.length
  ⟨rfl,0,by simp,by simp [a78],by simpa using h,.refl⟩ ?_
 rintro m e1 ds st' hs ⟨rfl,i,hm,g78,hw,hk⟩ K1 kn kx
 have he1:e1.length=102:=by simp [hs.1,he]
 have g0:=hs.ev 0 rfl a0
 have g76:=hs.ev 76 rfl a76
 have g77:=hs.ev 77 rfl a77
 by_cases hi:i<its.length
 ·obtain ⟨x,hx⟩:∃x,x=its[i]:=⟨_,rfl⟩
  have hg:=itW_get hi
  rw [←hx] at hg
  have htk:its.take (i+1)=its.take i++[x]:=by rw [hx];simp
  have hsn:(its.take (i+1)).flatMap (itemT E)=(its.take i).flatMap (itemT E)++itemT E x:=by rw [htk,List.flatMap_append,List.flatMap_cons,List.flatMap_nil,List.append_nil]
  have hle:((its.take (i+1)).flatMap (itemT E)).length≤(its.flatMap (itemT E)).length:=by
   conv=>rhs;rw [←List.take_append_drop (i+1) its,List.flatMap_append,List.length_append]
   omega
  rw [hsn,List.length_append] at hle
  obtain ⟨s2,c2,w2,k2⟩:=IH x (by rw [hx];exact List.getElem_mem hi) _ _ hw (by rw [List.length_append];omega)
  have w1:IntKind.i64.wrap ((i:Int)+1)=(i:Int)+1:=wrap_i64 (by omega) (by omega)
  simp only [It.av,It.cs] at c2 hg
  simp [a37_0,g0,g76,g77,g78,he1,hi,hg,c2,w1,Ai.beq_refl]
  exact kn (m-1) _ _ _ (by omega) ⟨rfl,i+1,by omega,by simp [he1],by rw [hsn,←List.append_assoc];exact w2,hk.trans k2⟩
 ·obtain rfl:i=its.length:=by omega
  rw [List.take_length] at hw
  simp [a37_0,g77,g78,he1]
  exact kx _ _ _ _ nofun fun hs'=>hK _ _ hs' hw hk
set_option maxHeartbeats 4000000 in
theorem decl37_1 (hD:D.isCell=true) (hX:X.isCell=true) {d:Dc} (hd:d.Ok) (h:d.k=1) (IH:∀x∈d.its,Puts r D X 66 [.ptr r 0,x.av] (itemT E x)) (hE:d.k=1∨d.k=2→Puts r D X 35 [.ptr r 0,.int .i64 d.e,.int .i64 0] (E d.e)):Puts r D X 37 [.ptr r 0,d.av] (declT E d):=by
 refine puts_of (N:=102) prim37 fn37 rfl rfl rfl ?_
 intro st bs hw hl e he ha K hK
 have a0:=ha 0
 have a1:=ha 1
 clear ha
 simp at a0 a1
 simp only [Dc.av,Dc.cs] at a1
 have s1:IntKind.i64.wrap (0:Int)=0:=wrap_i64 (by omega) (by omega)
 have s2:IntKind.i64.wrap (1:Int)=1:=wrap_i64 (by omega) (by omega)
 have s3:IntKind.i64.wrap (2:Int)=2:=wrap_i64 (by omega) (by omega)
 have e1:declT E d=[102,117,110]++([32]++(d.n++([40]++(pmsT d.ps++([41]++([58,32]++(typeT d.t++([32,61,32]++(E d.e++[59,10]))))))))):=by simp [declT,h]
 rw [e1] at hl hK
 simp only [List.length_append] at hl
 obtain ⟨u1,c1,w1,k1⟩:=put61 hD hX [[102,117,110],[32],d.n,[40]] .tight (by simp) _ _ hw (by simp only [List.length_append,List.flatten_cons,List.flatten_nil,List.append_nil];omega)
 simp only [strs,List.map_cons,List.map_nil,List.flatten_cons,List.flatten_nil,List.append_nil] at c1 w1
 simp [a37,he,a0,a1,h,s1,s2,s3,c1,Ai.beq_refl]
 refine params_loop hD hX (ps:=d.ps) (ap:=d.pap) hd.ps w1 (by simp only [List.length_append];omega) (by simp [he]) (by simp [he,a0]) (by simp [he]) (by simp [he]) (by simp [he]) fun e2 u2 hs2 w2 k2=>?_
 have he2:e2.length=102:=by simp [hs2.1,he]
 have b0:=hs2.ev 0 rfl (v:=.ptr r 0) (by simp [he,a0])
 have b3:=hs2.ev 3 rfl (v:=.iptr (.agg d.cs)) (by simp [he,Dc.cs,h])
 simp only [Dc.cs,h] at b3
 obtain ⟨u3,c3,w3,k3⟩:=put61 hD hX [[41]] .tight (by simp) _ _ w2 (by simp only [List.length_append,List.flatten_cons,List.flatten_nil,List.append_nil];omega)
 have ct:=type_call (t:=d.t) w3.ok
 obtain ⟨u4,c4,w4,k4⟩:=put61 hD hX [[58,32],typeT d.t,[32,61,32]] .tight (by simp) _ _ w3 (by simp only [List.length_append,List.flatten_cons,List.flatten_nil,List.append_nil];omega)
 obtain ⟨u5,c5,w5,k5⟩:=hE (.inl h) _ _ w4 (by simp only [List.length_append,List.flatten_cons,List.flatten_nil,List.append_nil];omega)
 obtain ⟨u6,c6,w6,k6⟩:=put61 hD hX [[59,10]] .tight (by simp) _ _ w5 (by simp only [List.length_append,List.flatten_cons,List.flatten_nil,List.append_nil];omega)
 simp only [strs,List.map_cons,List.map_nil] at c3 c4 c6
 simp [he2,b0,b3,c3,ct,c4,c5,c6,Ai.beq_refl]
 exact hK _ _ _ (.inl rfl) (by simpa using w6) (k1.trans (k2.trans (k3.trans (k4.trans (k5.trans k6)))))
set_option maxHeartbeats 4000000 in
theorem decl37_2 (hD:D.isCell=true) (hX:X.isCell=true) {d:Dc} (hd:d.Ok) (h:d.k=2) (IH:∀x∈d.its,Puts r D X 66 [.ptr r 0,x.av] (itemT E x)) (hE:d.k=1∨d.k=2→Puts r D X 35 [.ptr r 0,.int .i64 d.e,.int .i64 0] (E d.e)):Puts r D X 37 [.ptr r 0,d.av] (declT E d):=by
 refine puts_of (N:=102) prim37 fn37 rfl rfl rfl ?_
 intro st bs hw hl e he ha K hK
 have a0:=ha 0
 have a1:=ha 1
 clear ha
 simp at a0 a1
 simp only [Dc.av,Dc.cs] at a1
 have s1:IntKind.i64.wrap (0:Int)=0:=wrap_i64 (by omega) (by omega)
 have s2:IntKind.i64.wrap (1:Int)=1:=wrap_i64 (by omega) (by omega)
 have s3:IntKind.i64.wrap (2:Int)=2:=wrap_i64 (by omega) (by omega)
 have e1:declT E d=[110,111,100,101]++([32]++(d.n++([40]++(pmsT d.ps++([41]++([58,32]++(typeT d.t++([32,123,10]++(d.its.flatMap (itemT E)++([32,32,114,101,116,117,114,110,32]++(E d.e++([59,10]++[125,10])))))))))))):=by simp [declT,h]
 rw [e1] at hl hK
 simp only [List.length_append] at hl
 obtain ⟨u1,c1,w1,k1⟩:=put61 hD hX [[110,111,100,101],[32],d.n,[40]] .tight (by simp) _ _ hw (by simp only [List.length_append,List.flatten_cons,List.flatten_nil,List.append_nil];omega)
 simp only [strs,List.map_cons,List.map_nil,List.flatten_cons,List.flatten_nil,List.append_nil] at c1 w1
 simp [a37,he,a0,a1,h,s1,s2,s3,c1,Ai.beq_refl]
 refine params_loop hD hX (ps:=d.ps) (ap:=d.pap) hd.ps w1 (by simp only [List.length_append];omega) (by simp [he]) (by simp [he,a0]) (by simp [he]) (by simp [he]) (by simp [he]) fun e2 u2 hs2 w2 k2=>?_
 have he2:e2.length=102:=by simp [hs2.1,he]
 have b0:=hs2.ev 0 rfl (v:=.ptr r 0) (by simp [he,a0])
 have b3:=hs2.ev 3 rfl (v:=.iptr (.agg d.cs)) (by simp [he,Dc.cs,h])
 simp only [Dc.cs,h] at b3
 obtain ⟨u3,c3,w3,k3⟩:=put61 hD hX [[41]] .tight (by simp) _ _ w2 (by simp only [List.length_append,List.flatten_cons,List.flatten_nil,List.append_nil];omega)
 have ct:=type_call (t:=d.t) w3.ok
 obtain ⟨u4,c4,w4,k4⟩:=put61 hD hX [[58,32],typeT d.t] .tight (by simp) _ _ w3 (by simp only [List.length_append,List.flatten_cons,List.flatten_nil,List.append_nil];omega)
 obtain ⟨u5,c5,w5,k5⟩:=put61 hD hX [[32,123,10]] .tight (by simp) _ _ w4 (by simp only [List.length_append,List.flatten_cons,List.flatten_nil,List.append_nil];omega)
 simp only [strs,List.map_cons,List.map_nil] at c3 c4 c5
 simp only [List.flatten_cons,List.flatten_nil,List.append_nil] at w5
 simp [he2,b0,b3,c3,ct,c4,c5,Ai.beq_refl]
 refine items_loop hD hX (its:=d.its) (ap:=d.iap) hd.its IH w5 (by simp only [List.length_append];omega) (by simp [he2]) (by simp [he2,b0]) (by simp [he2]) (by simp [he2]) (by simp [he2]) fun e3 u6 hs3 w6 k6=>?_
 have he3:e3.length=102:=by simp [hs3.1,he2]
 have d0:=hs3.ev 0 rfl (v:=.ptr r 0) (by simp [he2,b0])
 have d3:=hs3.ev 3 rfl (v:=.iptr (.agg d.cs)) (by simp [he2,b3,Dc.cs,h])
 simp only [Dc.cs,h] at d3
 obtain ⟨u7,c7,w7,k7⟩:=put61 hD hX [[32,32,114,101,116,117,114,110,32]] .tight (by simp) _ _ w6 (by simp only [List.length_append,List.flatten_cons,List.flatten_nil,List.append_nil];omega)
 obtain ⟨u8,c8,w8,k8⟩:=hE (.inr h) _ _ w7 (by simp only [List.length_append,List.flatten_cons,List.flatten_nil,List.append_nil];omega)
 obtain ⟨u9,c9,w9,k9⟩:=put61 hD hX [[59,10]] .tight (by simp) _ _ w8 (by simp only [List.length_append,List.flatten_cons,List.flatten_nil,List.append_nil];omega)
 obtain ⟨v1,f1,g1,j1⟩:=put61 hD hX [[125,10]] .tight (by simp) _ _ w9 (by simp only [List.length_append,List.flatten_cons,List.flatten_nil,List.append_nil];omega)
 simp only [strs,List.map_cons,List.map_nil] at c7 c9 f1
 simp [he3,d0,d3,c7,c8,c9,f1,Ai.beq_refl]
 exact hK _ _ _ (.inr rfl) (by simpa using g1) (k1.trans (k2.trans (k3.trans (k4.trans (k5.trans (k6.trans (k7.trans (k8.trans (k9.trans j1)))))))))
set_option maxHeartbeats 4000000 in
theorem decl37_3 (hD:D.isCell=true) (hX:X.isCell=true) {d:Dc} (hd:d.Ok) (h:d.k=3) (IH:∀x∈d.its,Puts r D X 66 [.ptr r 0,x.av] (itemT E x)) (hE:d.k=1∨d.k=2→Puts r D X 35 [.ptr r 0,.int .i64 d.e,.int .i64 0] (E d.e)):Puts r D X 37 [.ptr r 0,d.av] (declT E d):=by
 refine puts_of (N:=102) prim37 fn37 rfl rfl rfl ?_
 intro st bs hw hl e he ha K hK
 have a0:=ha 0
 have a1:=ha 1
 clear ha
 simp at a0 a1
 simp only [Dc.av,Dc.cs] at a1
 have s1:IntKind.i64.wrap (0:Int)=0:=wrap_i64 (by omega) (by omega)
 have s2:IntKind.i64.wrap (1:Int)=1:=wrap_i64 (by omega) (by omega)
 have s3:IntKind.i64.wrap (2:Int)=2:=wrap_i64 (by omega) (by omega)
 have e1:declT E d=[104,121,98,114,105,100]++([32]++(d.n++([40]++(pmsT d.ps++([41]++([32,123,10]++(d.its.flatMap (itemT E)++[125,10]))))))):=by simp [declT,h]
 rw [e1] at hl hK
 simp only [List.length_append] at hl
 obtain ⟨u1,c1,w1,k1⟩:=put61 hD hX [[104,121,98,114,105,100],[32],d.n,[40]] .tight (by simp) _ _ hw (by simp only [List.length_append,List.flatten_cons,List.flatten_nil,List.append_nil];omega)
 simp only [strs,List.map_cons,List.map_nil,List.flatten_cons,List.flatten_nil,List.append_nil] at c1 w1
 simp [a37,he,a0,a1,h,s1,s2,s3,c1,Ai.beq_refl]
 refine params_loop hD hX (ps:=d.ps) (ap:=d.pap) hd.ps w1 (by simp only [List.length_append];omega) (by simp [he]) (by simp [he,a0]) (by simp [he]) (by simp [he]) (by simp [he]) fun e2 u2 hs2 w2 k2=>?_
 have he2:e2.length=102:=by simp [hs2.1,he]
 have b0:=hs2.ev 0 rfl (v:=.ptr r 0) (by simp [he,a0])
 have b3:=hs2.ev 3 rfl (v:=.iptr (.agg d.cs)) (by simp [he,Dc.cs,h])
 simp only [Dc.cs,h] at b3
 obtain ⟨u3,c3,w3,k3⟩:=put61 hD hX [[41]] .tight (by simp) _ _ w2 (by simp only [List.length_append,List.flatten_cons,List.flatten_nil,List.append_nil];omega)
 obtain ⟨u5,c5,w5,k5⟩:=put61 hD hX [[32,123,10]] .tight (by simp) _ _ w3 (by simp only [List.length_append,List.flatten_cons,List.flatten_nil,List.append_nil];omega)
 simp only [strs,List.map_cons,List.map_nil] at c3 c5
 simp only [List.flatten_cons,List.flatten_nil,List.append_nil] at w5
 simp [he2,b0,b3,c3,c5,Ai.beq_refl]
 refine items_loop hD hX (its:=d.its) (ap:=d.iap) hd.its IH w5 (by simp only [List.length_append];omega) (by simp [he2]) (by simp [he2,b0]) (by simp [he2]) (by simp [he2]) (by simp [he2]) fun e3 u6 hs3 w6 k6=>?_
 have he3:e3.length=102:=by simp [hs3.1,he2]
 have d0:=hs3.ev 0 rfl (v:=.ptr r 0) (by simp [he2,b0])
 have d3:=hs3.ev 3 rfl (v:=.iptr (.agg d.cs)) (by simp [he2,b3,Dc.cs,h])
 simp only [Dc.cs,h] at d3
 obtain ⟨v1,f1,g1,j1⟩:=put61 hD hX [[125,10]] .tight (by simp) _ _ w6 (by simp only [List.length_append,List.flatten_cons,List.flatten_nil,List.append_nil];omega)
 simp only [strs,List.map_cons,List.map_nil] at f1
 simp [he3,d0,d3,f1,Ai.beq_refl]
 exact hK _ _ _ (.inr rfl) (by simpa using g1) (k1.trans (k2.trans (k3.trans (k5.trans (k6.trans j1)))))
theorem decl37 (hD:D.isCell=true) (hX:X.isCell=true) {d:Dc} (hd:d.Ok) (hk:d.k=1∨d.k=2∨d.k=3) (IH:∀x∈d.its,Puts r D X 66 [.ptr r 0,x.av] (itemT E x)) (hE:d.k=1∨d.k=2→Puts r D X 35 [.ptr r 0,.int .i64 d.e,.int .i64 0] (E d.e)):Puts r D X 37 [.ptr r 0,d.av] (declT E d):=by
 rcases hk with h | h | h
 ·exact decl37_1 hD hX hd h IH hE
 ·exact decl37_2 hD hX hd h IH hE
 ·exact decl37_3 hD hX hd h IH hE
end
end Go.Proofs.YtgkhmmlemgikjaaGreatDoor
namespace Go.Proofs.YtgkhmmlemgikjaaGreatDoor
open Go Ai
theorem fn16:A.fn 16=some a16:=by kernel_rfl
theorem prim16:A.prim 16=none:=by kernel_rfl
theorem fn17:A.fn 17=some a17:=by kernel_rfl
theorem prim17:A.prim 17=none:=by kernel_rfl
def w17_0:List Nat:=a17_0.writes
structure Told (p:Pg):Prop where
 ok:p.Ok
 may:may4 p=true
 v:∀x∈p.xs,-9223372036854775808≤x.v∧x.v≤9223372036854775807
def exT (p:Pg) (e w:Int):Sx:=shE p.xs p.xs.length e w
def progT (p:Pg):Sx:=p.ds.flatMap (declT fun e=>exT p e 0)
theorem points_of {n:Nat} {e:Int} {h:Bool} (hp:pointsF n e h=true) (hh:h=true):∃k:Nat,e=k∧k<n:=by
 subst hh
 simp [pointsF] at hp
 exact ⟨e.toNat,by omega,by omega⟩
theorem Told.ones {p:Pg} (h:Told p):onesF p.xs 0=true:=by have:=h.may;unfold may4 at this;exact (Bool.and_eq_true_iff.1 this).1
theorem Told.dec {p:Pg} (h:Told p) {d:Dc} (hd:d∈p.ds):declR p.xs.length d=true:=by have:=h.may;unfold may4 at this;exact List.all_eq_true.1 (Bool.and_eq_true_iff.1 this).2 d hd
theorem lowS {n m:Nat} {es:List AV} {ap:Ap} (h:Still ap) (he:AV.lowsB n es=true):AV.lowB n (.lst m es ap)=true:=by
 rcases h.or with e | e<;>subst e<;>simp [AV.lowB,he]
theorem itW_low {k:Nat} {x:It} (h:AV.lowB k (.lst 1 (strs x.ss) x.ap)=true):AV.lowB k x.av=true:=by
 simp only [It.av,It.cs]
 generalize AV.lst 1 (strs x.ss) x.ap=V at *
 simp [AV.lowB,AV.lowsB,h]
theorem pg_low {p:Pg} (h:p.Ok) (n:Nat):AV.lowB n (.lst 7 (p.ds.map Dc.av) p.dap)=true∧AV.lowB n (.lst 9 (p.xs.map Ex.av) p.xap)=true:=by
 refine ⟨lowS h.dap (lows_all fun v hv=>?_),lowS h.xap (lows_all fun v hv=>?_)⟩
 ·obtain ⟨d,hd,rfl⟩:=List.mem_map.1 hv
  have hok:=h.dc d hd
  have h1:AV.lowB n (.lst 2 (d.ps.map Pm.av) d.pap)=true:=lowS hok.pap (lows_all fun v hv=>by obtain ⟨i,_,rfl⟩:=List.mem_map.1 hv;rfl)
  have h2:AV.lowB n (.lst 9 (d.its.map It.av) d.iap)=true:=lowS hok.iap (lows_all fun v hv=>by
   obtain ⟨i,hi,rfl⟩:=List.mem_map.1 hv
   have h3:AV.lowB n (.lst 1 (strs i.ss) i.ap)=true:=lowS (hok.item i hi).ap (lows_all fun v hv=>by obtain ⟨j,_,rfl⟩:=List.mem_map.1 hv;rfl)
   exact itW_low h3)
  simp only [Dc.av,Dc.cs]
  generalize AV.lst 2 (d.ps.map Pm.av) d.pap=V at *
  generalize AV.lst 9 (d.its.map It.av) d.iap=W at *
  simp [AV.lowB,AV.lowsB,h1,h2]
 ·obtain ⟨x,hx,rfl⟩:=List.mem_map.1 hv
  have h1:AV.lowB n (.lst 1 (ints x.args) x.ap)=true:=lowS (h.ex x hx).ap (lows_all fun v hv=>by obtain ⟨j,_,rfl⟩:=List.mem_map.1 hv;rfl)
  simp only [Ex.av,Ex.cs]
  generalize AV.lst 1 (ints x.args) x.ap=V at *
  simp [AV.lowB,AV.lowsB,h1]
theorem wrt_low {p:Pg} (h:p.Ok) (n:Nat):AObj.lowB n (.cells (some 72) [.nilPtr,.nilSl,.lst 7 (p.ds.map Dc.av) p.dap,.lst 9 (p.xs.map Ex.av) p.xap])=true:=by
 obtain ⟨h1,h2⟩:=pg_low h n
 generalize AV.lst 7 (p.ds.map Dc.av) p.dap=V at *
 generalize AV.lst 9 (p.xs.map Ex.av) p.xap=W at *
 simp [AObj.lowB,AV.lowB,AV.lowsB,h1,h2]
theorem short_ne (q:Int) (k:Nat):shortF q k≠[]:=by
 have hd:Lib.decDigits (q.natAbs / 4294967296)≠[]:=fun e=>by
  have h1:=Lib.decDigits_length (q.natAbs / 4294967296)
  have h2:=Lib.nDigits_pos (q.natAbs / 4294967296)
  rw [e] at h1;simp at h1;omega
 unfold shortF
 simp only []
 split<;>simp [hd]
theorem own_ne {E:Int→Int→Sx} {x:Ex} {t:Int} (h:oneF x t=true):ownF E x≠[]:=by
 unfold oneF at h
 simp only [Bool.and_eq_true,decide_eq_true_eq] at h
 have hk:=h.1.1.1.1.1
 have hn:=h.1.1.2
 rcases kinds21 hk.1 hk.2 with h | h | h | h | h | h | h | h | h | h | h | h | h | h | h | h | h | h | h | h | h
 case inl=>simpa [ownF,h] using short_ne _ _
 all_goals first
  | (simp [ownF,h];done)
  | (simp [h] at hn;simpa [ownF,h] using hn)
  | (simp only [ownF,h];simp;split<;>simp)
theorem exT_ne {p:Pg} (h:Told p) {a:Nat} (ha:a<p.xs.length) (w:Int):exT p a w≠[]:=by
 have hone:=ones_get p.xs 0 a ha h.ones
 rw [Nat.zero_add] at hone
 have hg:p.xs.getD (a:Int).toNat zEx=p.xs[a]:=by simp [List.getD_eq_getElem?_getD,ha]
 obtain ⟨f,hf⟩:∃f,p.xs.length=f+1:=⟨p.xs.length-1,by omega⟩
 rw [exT,hf,shE,hg]
 split
 ·simp
 ·exact own_ne hone
set_option maxHeartbeats 1000000 in
theorem show16 {p:Pg} (h:Told p) {a:Nat} (ha':a<p.xs.length) (hl:(exT p a 0).length≤Ai.great) {st:St} (hst:StOk st):runL A (.call 16 [p.av,.int .i64 a]) st=some ⟨.ret,⟨[.str (exT p a 0)],[]⟩,st⟩:=by
 have cm:=mayA_call h.ok hst
 rw [mayA_may4,h.may] at cm
 have w0:WrOk st.length (.lst 7 (p.ds.map Dc.av) p.dap) (.lst 9 (p.xs.map Ex.av) p.xap) (st++[.cells (some 72) [.nilPtr,.nilSl,.lst 7 (p.ds.map Dc.av) p.dap,.lst 9 (p.xs.map Ex.av) p.xap]]) [] :=
  ⟨⟨.nilPtr,.nilSl,by simp,.inl rfl,.inl ⟨rfl,.inl rfl⟩⟩,hst.snoc (wrt_low h.ok _)⟩
 obtain ⟨s1,c1,w1,k1⟩:=expr35 (r:=st.length) (D:=.lst 7 (p.ds.map Dc.av) p.dap) h.ok h.ones h.v rfl p.xs.length a ha' ha' 0 _ _ w0 (by simpa [exT] using hl)
 simp only [List.nil_append] at w1
 obtain ⟨s2,c2,t2⟩:=str_call w1 (exT_ne h ha' 0) hl
 have htk:s2.take st.length=st:=by rw [t2,k1.t];simp
 have ha2:¬((a:Int)<0):=by omega
 have ha3:¬((p.xs.length:Int)≤a):=by omega
 refine (task_of_aw (N:=30) prim16 fn16 rfl rfl hst ?_).1
 intro e he ha K hK
 have a0:=ha 0
 have a1:=ha 1
 clear ha
 simp at a0 a1
 simp only [Pg.av] at a0 cm
 simp [a16,opA_boxT,he,a0,a1,cm,ha2,ha3,ha',c1,c2,Ai.beq_refl]
 exact hK _ _ _ (.inl rfl) htk ⟨_,rfl,by simp [he,exT,AV.still]⟩
theorem decl_ne {E:Int→Sx} {d:Dc}:declT E d≠[]:=by
 unfold declT
 repeat' split
 all_goals simp
def Kinds (p:Pg):Prop:=∀d∈p.ds,(d.k=1∨d.k=2∨d.k=3)∧∀x∈d.its,1≤x.k∧x.k≤8
set_option maxHeartbeats 1000000 in
theorem show17 {p:Pg} (h:Told p) (hk:Kinds p) (hl:(progT p).length≤Ai.great) {st:St} (hst:StOk st):runL A (.call 17 [p.av]) st=some ⟨.ret,⟨[.str (progT p)],[]⟩,st⟩:=by
 have cm:=mayA_call h.ok hst
 rw [mayA_may4,h.may] at cm
 have hds:=h.ok.ds
 have w0:WrOk st.length (.lst 7 (p.ds.map Dc.av) p.dap) (.lst 9 (p.xs.map Ex.av) p.xap) (st++[.cells (some 72) [.nilPtr,.nilSl,.lst 7 (p.ds.map Dc.av) p.dap,.lst 9 (p.xs.map Ex.av) p.xap]]) [] :=
  ⟨⟨.nilPtr,.nilSl,by simp,.inl rfl,.inl ⟨rfl,.inl rfl⟩⟩,hst.snoc (wrt_low h.ok _)⟩
 have pe:∀(e:Int) (b:Bool),pointsF p.xs.length e b=true→b=true→Puts st.length (.lst 7 (p.ds.map Dc.av) p.dap) (.lst 9 (p.xs.map Ex.av) p.xap) 35 [.ptr st.length 0,.int .i64 e,.int .i64 0] (exT p e 0):=fun e b h1 h2=>by
  obtain ⟨k,rfl,h3⟩:=points_of h1 h2
  exact expr35 h.ok h.ones h.v rfl p.xs.length k h3 h3 0
 have pd:∀d∈p.ds,Puts st.length (.lst 7 (p.ds.map Dc.av) p.dap) (.lst 9 (p.xs.map Ex.av) p.xap) 37 [.ptr st.length 0,d.av] (declT (fun e=>exT p e 0) d):=fun d hd=>by
  have hR:=h.dec hd
  unfold declR at hR
  obtain ⟨r1,r2⟩:=Bool.and_eq_true_iff.1 hR
  refine decl37 rfl rfl (h.ok.dc d hd) (hk d hd).1 (fun x hx=>?_) (fun h12=>pe _ _ r1 (by simpa using h12))
  have r3:=List.all_eq_true.1 r2 x hx
  unfold itemR at r3
  obtain ⟨r4,r5⟩:=Bool.and_eq_true_iff.1 r3
  exact item66 rfl rfl ((h.ok.dc d hd).item x hx) ((hk d hd).2 x hx).1 ((hk d hd).2 x hx).2 (fun hh=>pe _ _ r4 hh) (fun hh=>pe _ _ r5 hh)
 refine (task_of_aw (N:=27) prim17 fn17 rfl rfl hst ?_).1
 intro e he ha K hK
 have a0:=ha 0
 clear ha
 simp at a0
 simp only [Pg.av] at a0 cm
 simp [a17,opA_boxT,he,a0,cm,Ai.beq_refl]
 refine aw_loop (W:=w17_0) rfl (fun m e ds st'=>ds=[]∧∃i:Nat,i+m=p.ds.length∧AX.ev e (.t 15)=.int .i64 i∧st'.take st.length=st∧(i=0→st'=st++[.cells (some 72) [.nilPtr,.nilSl,.lst 7 (p.ds.map Dc.av) p.dap,.lst 9 (p.xs.map Ex.av) p.xap]])∧WrOk st.length (.lst 7 (p.ds.map Dc.av) p.dap) (.lst 9 (p.xs.map Ex.av) p.xap) st' ((p.ds.take i).flatMap (declT fun e=>exT p e 0))) p.ds.length
  ⟨rfl,0,by simp,by simp [he],by simp,fun _=>rfl,by simpa using w0⟩ ?_
 rintro m e1 ds st' hs ⟨rfl,i,hm,g15,htk,hi0,hw⟩ K1 kn kx
 have he1:e1.length=27:=by simp [hs.1,he]
 have g3:=hs.ev 3 rfl (v:=.ptr st.length 0) (by simp [he])
 have g13:=hs.ev 13 rfl (v:=.lst 7 (p.ds.map Dc.av) p.dap) (by simp [he])
 have g14:=hs.ev 14 rfl (v:=.int .i64 p.ds.length) (by simp [he])
 by_cases hi:i<p.ds.length
 ·obtain ⟨d,hd⟩:∃d,d=p.ds[i]:=⟨_,rfl⟩
  have hg:(p.ds.map Dc.av)[i]'(by simpa using hi)=.agg d.cs:=by rw [ds_get hi,hd]
  have hmem:d∈p.ds:=by rw [hd];exact List.getElem_mem hi
  have e2:p.ds.take (i+1)=p.ds.take i++[d]:=by rw [hd];simp
  have hsn:(p.ds.take (i+1)).flatMap (declT fun e=>exT p e 0)=(p.ds.take i).flatMap (declT fun e=>exT p e 0)++declT (fun e=>exT p e 0) d:=by rw [e2,List.flatMap_append,List.flatMap_cons,List.flatMap_nil,List.append_nil]
  have hle:((p.ds.take (i+1)).flatMap (declT fun e=>exT p e 0)).length≤(progT p).length:=by
   conv=>rhs;rw [progT,←List.take_append_drop (i+1) p.ds,List.flatMap_append,List.length_append]
   omega
  rw [hsn,List.length_append] at hle
  obtain ⟨s2,c2,w2,k2⟩:=pd d hmem _ _ hw (by omega)
  have w1:IntKind.i64.wrap ((i:Int)+1)=(i:Int)+1:=wrap_i64 (by omega) (by omega)
  simp only [Dc.av,Dc.cs] at c2 hg
  simp [a17_0,g3,g13,g14,g15,he1,hi,hg,c2,w1,Ai.beq_refl]
  exact kn (m-1) _ _ _ (by omega) ⟨rfl,i+1,by omega,by simp [he1],by rw [k2.t];exact htk,by omega,by rw [hsn];exact w2⟩
 ·obtain rfl:i=p.ds.length:=by omega
  rw [List.take_length] at hw
  simp [a17_0,g14,g15,he1]
  refine kx _ _ _ _ nofun fun hs'=>?_
  by_cases h0:p.ds.length=0
  ·have hd:p.ds=[]:=List.eq_nil_of_length_eq_zero h0
   have hs0:=hi0 h0
   have c3:=str_nil (r:=st.length) (st:=st') (D:=.lst 7 (p.ds.map Dc.av) p.dap) (X:=.lst 9 (p.xs.map Ex.av) p.xap) (by rw [hs0];simp)
   simp [g3,he1,c3]
   exact hK _ _ _ (.inl rfl) htk ⟨_,rfl,by simp [he1,AV.still,progT,hd]⟩
  ·have hne:p.ds.flatMap (declT fun e=>exT p e 0)≠[]:=by
    cases hds':p.ds with
    | nil=>simp [hds'] at h0
    | cons d l=>simp [decl_ne]
   obtain ⟨s2,c2,t2⟩:=str_call hw hne hl
   simp [g3,he1,c2]
   exact hK _ _ _ (.inl rfl) (by rw [t2];exact htk) ⟨_,rfl,by simp [he1,AV.still,progT]⟩
end Go.Proofs.YtgkhmmlemgikjaaGreatDoor
