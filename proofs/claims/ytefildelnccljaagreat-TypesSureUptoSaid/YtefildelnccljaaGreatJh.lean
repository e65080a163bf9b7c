/- Part Jh. No condition. -/
import Derived.Test.YtefildelnccljaaGreatJg
set_option linter.unusedVariables false
set_option linter.unusedSimpArgs false
namespace Go.Proofs.YtefildelnccljaaGreat
open Go Ai
theorem fn107:A.fn 107=some a107:=by kernel_rfl
theorem prim107:A.prim 107=none:=by kernel_rfl
def w107_0:List Nat:=a107_0.writes
def w107_1:List Nat:=a107_1.writes
theorem fn106:A.fn 106=some a106:=by kernel_rfl
theorem prim106:A.prim 106=none:=by kernel_rfl
def w106_0:List Nat:=a106_0.writes
def fixKs:List Int:=[1,4,21,6,7,8,9]
def boolKs:List Int:=[2,5,10,11,12,13,14,20]
def putAll (es:List (Int×Int)) (ks:List Int) (v:Int):List (Int×Int):=ks.foldl (fun es k=>putM k v es) es
def sureM:List (Int×Int):=putAll (putAll [] fixKs 1) boolKs 2
def sureF (k:Int):Int:=(getM k sureM).getD 0
theorem sureF_fix {k:Int} (h:k=1∨k=4∨k=21∨k=6∨k=7∨k=8∨k=9):sureF k=1:=by
 rcases h with rfl | rfl | rfl | rfl | rfl | rfl | rfl<;>rfl
theorem sureF_bool {k:Int} (h:k=2∨k=5∨k=10∨k=11∨k=12∨k=13∨k=14∨k=20):sureF k=2:=by
 rcases h with rfl | rfl | rfl | rfl | rfl | rfl | rfl | rfl<;>rfl
theorem low_ii (n:Nat) (es:List (Int×Int)):AObj.lowB n (.map (encM (AV.int .i64) (AV.int .i64) es))=true:=low_enc (fun _=>rfl) (fun _=>rfl)
theorem low_si (n:Nat) (es:List (Sx×Int)):AObj.lowB n (.map (encM AV.str (AV.int .i64) es))=true:=low_enc (fun _=>rfl) (fun _=>rfl)
theorem putAll_snoc (es:List (Int×Int)) (ks:List Int) (v:Int) {i:Nat} (h:i<ks.length):putAll es (ks.take (i+1)) v=putM ks[i] v (putAll es (ks.take i) v):=by
 rw [putAll,take_foldl h];rfl
theorem sure_call {st:St} (hst:StOk st):∃st',runL A (.call 107 []) st=some ⟨.ret,⟨[.map st.length],[]⟩,st'⟩∧Fit st st'∧st'[st.length]?=some (.map (encM (.int .i64) (.int .i64) sureM)):=by
 refine Exists.elim (task_of_aw_keep_ex (A:=A) (f:=107) (F:=a107) (args:=[]) (v:=.map st.length) (N:=26) (st:=st)
  (fun s=>Fit st s∧s[st.length]?=some (.map (encM (.int .i64) (.int .i64) sureM))) prim107 fn107 rfl rfl ?_) fun st3 h=>⟨st3,h.2.1,h.1⟩
 intro e he ha K hK
 clear ha
 have fitM:∀es:List (Int×Int),Fit st (st++[.map (encM (.int .i64) (.int .i64) es)]):=fun es=>(Fit.refl hst).obj (low_ii _ _)
 simp [a107,he]
 refine aw_loop (W:=w107_1) rfl (fun m e ds s=>ds=[]∧∃i:Nat,i+m=fixKs.length∧s=st++[.map (encM (.int .i64) (.int .i64) (putAll [] (fixKs.take i) 1))]∧AX.ev e (.t 9)=.int .i64 i) fixKs.length
  ⟨rfl,0,by simp,by simp [putAll,encM],by simp [he]⟩ ?_
 rintro m e1 ds s hs ⟨rfl,i,hm,rfl,g9⟩ K1 kn kx
 have he1:e1.length=26:=by simp [hs.1,he]
 have g1:=hs.ev 1 rfl (v:=.map st.length) (by simp [he])
 have g7:=hs.ev 7 rfl (v:=.lst 1 (ints fixKs) .tight) (by simp [he,ints,fixKs])
 have g8:=hs.ev 8 rfl (v:=.int .i64 fixKs.length) (by simp [he,fixKs])
 have hfl:fixKs.length=7:=rfl
 by_cases hi:i<fixKs.length
 ·have hgv:=ints_get hi
  have hput:=put_enc (K:=.int .i64) (V:=.int .i64) (key_int .i64) fixKs[i] 1 (putAll [] (fixKs.take i) 1)
  rw [←putAll_snoc [] fixKs 1 hi] at hput
  generalize fixKs[i]=k at *
  have w1:IntKind.i64.wrap ((i:Int)+1)=(i:Int)+1:=wrap_i64 (by omega) (by omega)
  simp [a107_1,g1,g7,g8,g9,he1,hi,hgv,ints_length,-opA_mapUpdate,opA_mapUpdate',keyKind,hput,w1]
  exact kn (m-1) _ _ _ (by omega) ⟨rfl,i+1,by omega,rfl,by simp [he1]⟩
 ·have hil:i=fixKs.length:=by omega
  subst hil
  simp [a107_1,g8,g9,he1]
  refine kx _ _ _ _ nofun fun hs'=>?_
  clear kn kx hs hs'
  simp [he1]
  generalize hM1:putAll [] fixKs 1=M1
  refine aw_loop (W:=w107_0) rfl (fun m e ds s=>ds=[]∧∃i:Nat,i+m=boolKs.length∧s=st++[.map (encM (.int .i64) (.int .i64) (putAll M1 (boolKs.take i) 2))]∧AX.ev e (.t 18)=.int .i64 i) boolKs.length
   ⟨rfl,0,by simp,by simp [putAll],by simp [he1]⟩ ?_
  rintro m e2 ds s hs ⟨rfl,i,hm,rfl,g18⟩ K2 kn kx
  have he2:e2.length=26:=by simp [hs.1,he1]
  have g1:=hs.ev 1 rfl (v:=.map st.length) (by simp [g1])
  have g16:=hs.ev 16 rfl (v:=.lst 1 (ints boolKs) .tight) (by simp [he1,ints,boolKs])
  have g17:=hs.ev 17 rfl (v:=.int .i64 boolKs.length) (by simp [he1,boolKs])
  have hfl:boolKs.length=8:=rfl
  by_cases hi:i<boolKs.length
  ·have hgv:=ints_get hi
   have hput:=put_enc (K:=.int .i64) (V:=.int .i64) (key_int .i64) boolKs[i] 2 (putAll M1 (boolKs.take i) 2)
   rw [←putAll_snoc M1 boolKs 2 hi] at hput
   generalize boolKs[i]=k at *
   have w1:IntKind.i64.wrap ((i:Int)+1)=(i:Int)+1:=wrap_i64 (by omega) (by omega)
   simp [a107_0,g1,g16,g17,g18,he2,hi,hgv,ints_length,-opA_mapUpdate,opA_mapUpdate',keyKind,hput,w1]
   exact kn (m-1) _ _ _ (by omega) ⟨rfl,i+1,by omega,rfl,by simp [he2]⟩
  ·have hil:i=boolKs.length:=by omega
   subst hil
   simp [a107_0,g17,g18,he2]
   refine kx _ _ _ _ nofun fun hs'=>?_
   simp [he2,g1]
   have hS:putAll M1 boolKs 2=sureM:=by rw [←hM1];rfl
   exact hK _ _ _ (.inl rfl) ⟨fitM _,by rw [←hS];simp⟩ ⟨_,rfl,by simp [he2]⟩
def tyN (vs:List Vr) (n:Sx):Int:=(getM n (vs.foldl (fun es v=>putM v.n v.t es) [])).getD 0
theorem scope8_call {p:Pg} (hp:p.Ok) {d:Int} (hvl:(varsP p d).length≤1000000000) {st:St} (hst:StOk st):∃es:List (Sx×Int),∃st',runL A (.call 106 [p.av,.int .i64 d]) st=some ⟨.ret,⟨[.map st.length],[]⟩,st'⟩∧Fit st st'∧st'[st.length]?=some (.map (encM AV.str (.int .i64) es))∧∀n,(getM n es).getD 0=tyN (varsP p d) n:=by
 refine Exists.elim (task_of_aw_keep_ex (A:=A) (f:=106) (F:=a106) (args:=[p.av,.int .i64 d]) (v:=.map st.length) (N:=24) (st:=st)
  (fun s=>∃es:List (Sx×Int),Fit st s∧s[st.length]?=some (.map (encM AV.str (.int .i64) es))∧∀n,(getM n es).getD 0=tyN (varsP p d) n) prim106 fn106 rfl rfl ?_) fun st3 h=>by
   obtain ⟨⟨es,h1,h2,h3⟩,h4,_⟩:=h;exact ⟨es,st3,h4,h1,h2,h3⟩
 intro e he ha K hK
 have a0:=ha 0
 have a1:=ha 1
 clear ha
 simp [Pg.av] at a0 a1
 have hf0:Fit st (st++[.map (encM AV.str (.int .i64) ([]:List (Sx×Int)))]):=(Fit.refl hst).obj (low_si _ _)
 have h25:=vars25_call hp (d:=d) hf0.ok
 simp only [Pg.av] at h25
 simp [encM] at h25
 generalize varsP p d=VS at *
 simp [a106,he,a0,a1,h25]
 refine aw_loop (W:=w106_0) rfl (fun m e ds s=>ds=[]∧∃(i:Nat),i+m=VS.length∧Fit st s∧s[st.length]?=some (.map (encM AV.str (.int .i64) ((VS.take i).foldl (fun es v=>putM v.n v.t es) [])))∧AX.ev e (.t 13)=.int .i64 i) VS.length
  ⟨rfl,0,by simp,by simpa [encM] using hf0,by simp [encM],by simp [he]⟩ ?_
 rintro m e1 ds s hs ⟨rfl,i,hm,hf,hmap,g13⟩ K1 kn kx
 have he1:e1.length=24:=by simp [hs.1,he]
 have g5:=hs.ev 5 rfl (v:=.map st.length) (by simp [he])
 have g11:=hs.ev 11 rfl (v:=.lst 4 (VS.map Vr.av) (endAp VS.length)) (by simp [he])
 have g12:=hs.ev 12 rfl (v:=.int .i64 VS.length) (by simp [he])
 have hlt:=(List.getElem?_eq_some_iff.1 hmap).1
 by_cases hi:i<VS.length
 ·obtain ⟨v,hv⟩:∃v,v=VS[i]:=⟨_,rfl⟩
  have hgv:(VS.map Vr.av)[i]'(by simpa using hi)=.agg v.cs:=by simp [Vr.av,hv]
  have hf1:Fit st (s++[.cells none v.cs]):=hf.cells (v.low _)
  have hmap1:(s++[.cells none v.cs])[st.length]?=some (.map (encM AV.str (.int .i64) ((VS.take i).foldl (fun es v=>putM v.n v.t es) []))):=by rw [List.getElem?_append_left hlt];exact hmap
  have hput:=put_enc (K:=AV.str) (V:=.int .i64) key_str v.n v.t ((VS.take i).foldl (fun es v=>putM v.n v.t es) [])
  have hstep:(VS.take (i+1)).foldl (fun es v=>putM v.n v.t es) []=putM v.n v.t ((VS.take i).foldl (fun es v=>putM v.n v.t es) []):=by rw [take_foldl hi,hv]
  rw [←hstep] at hput
  have hf2:=hf1.set (i:=st.length) (o:=.map (encM AV.str (.int .i64) ((VS.take (i+1)).foldl (fun es v=>putM v.n v.t es) []))) (Nat.le_refl _) (low_si _ _)
  have hg2:((s++[AObj.cells none v.cs]).set st.length (.map (encM AV.str (.int .i64) ((VS.take (i+1)).foldl (fun es v=>putM v.n v.t es) []))))[st.length]?=some (.map (encM AV.str (.int .i64) ((VS.take (i+1)).foldl (fun es v=>putM v.n v.t es) []))):=by
   rw [List.getElem?_set_self];simp;omega
  obtain ⟨M2,hM2⟩:∃M,M=(VS.take (i+1)).foldl (fun es v=>putM v.n v.t es) []:=⟨_,rfl⟩
  rw [←hM2] at hput hf2 hg2
  have w1:IntKind.i64.wrap ((i:Int)+1)=(i:Int)+1:=wrap_i64 (by omega) (by omega)
  simp only [Vr.cs] at hgv hmap1 hf2 hg2
  simp [a106_0,g5,g11,g12,g13,he1,hi,hgv,-opA_mapUpdate,opA_mapUpdate',keyKind,hmap1,hput,w1]
  exact kn (m-1) _ _ _ (by omega) ⟨rfl,i+1,by omega,hf2,by rw [←hM2];exact hg2,by simp [he1]⟩
 ·have hil:i=VS.length:=by omega
  rw [hil,List.take_length] at hmap
  simp [a106_0,g12,g13,he1,hi]
  refine kx _ _ _ _ nofun fun hs'=>?_
  simp [he1,g5]
  exact hK _ _ _ (.inl rfl) ⟨_,hf,hmap,fun n=>rfl⟩ ⟨_,rfl,by simp [he1]⟩
end Go.Proofs.YtefildelnccljaaGreat
namespace Go.Proofs.YtefildelnccljaaGreat
open Go Ai
theorem fn69:A.fn 69=some a69:=by kernel_rfl
theorem prim69:A.prim 69=none:=by kernel_rfl
def w69_0:List Nat:=a69_0.writes
theorem fn40:A.fn 40=some a40:=by kernel_rfl
theorem prim40:A.prim 40=none:=by kernel_rfl
def tyX (p:Pg) (vs:List Vr) (acc:List Int) (x:Ex):Int :=
 if x.k=3 then tyN vs x.n
 else if x.k=19 then (if 0≤declF p x.n then (p.ds.getD (declF p x.n).toNat dc0).t else 0)
 else if x.k=15 then acc.getD x.b.toNat 0
 else if x.k=16∨x.k=17∨x.k=18 then acc.getD x.a.toNat 0
 else sureF x.k
def tyG (p:Pg) (vs:List Vr):List Ex→List Int→List Int
 | [],acc=>acc
 | x::l,acc=>tyG p vs l (acc++[tyX p vs acc x])
def tysF (p:Pg) (vs:List Vr):List Int:=tyG p vs p.xs []
theorem tyG_len (p:Pg) (vs:List Vr):∀(l:List Ex) (acc:List Int),(tyG p vs l acc).length=acc.length+l.length
 | [],acc=>by simp [tyG]
 | x::l,acc=>by rw [tyG,tyG_len p vs l];simp;omega
theorem tysF_len (p:Pg) (vs:List Vr):(tysF p vs).length=p.xs.length:=by rw [tysF,tyG_len];simp
theorem ints_set (l:List Int) (i:Nat) (v:Int):(ints l).set i (.int .i64 v)=ints (l.set i v):=by simp [ints,List.map_set]
theorem parts_k15 {x:Ex} (h:x.k=15):x.b∈partsF x:=by simp [partsF,manyF,h]
theorem parts_k16 {x:Ex} (h:x.k=16∨x.k=17∨x.k=18):x.a∈partsF x:=by rcases h with h | h | h<;>simp [partsF,manyF,h]
theorem declF_may {p:Pg} (hS:Sound p) {n:Sx} {st:St} (hst:StOk st):runL A (.call 28 [p.av,.str n]) st=some ⟨.ret,⟨[.int .i64 (declF p n)],[]⟩,st⟩:=by
 have:=decl28_call hS.ok (n:=n) hst;rw [hS.may] at this;simpa using this
theorem ints_replicate (n:Nat):List.replicate n (AV.int .i64 0)=ints (List.replicate n 0):=by simp [ints]
theorem set_mid (acc:List Int) (v:Int) (n:Nat) (h:0<n):(acc++List.replicate n 0).set acc.length v=acc++[v]++List.replicate (n-1) 0:=by
 cases n with
 | zero=>omega
 | succ n=>rw [List.replicate_succ,List.set_append_right _ _ (Nat.le_refl _)];simp
theorem set_same {α:Type} {l:List α} {i:Nat} {v:α} (h:l[i]?=some v):l.set i v=l:=by
 apply List.ext_getElem?
 intro j
 by_cases hj:i=j
 ·subst hj
  have:=(List.getElem?_eq_some_iff.1 h).1
  rw [List.getElem?_set_self this,h]
 ·rw [List.getElem?_set_ne hj]
set_option maxHeartbeats 4000000 in
theorem all69_call {p:Pg} (hS:Sound p) {d:Int} (hvl:(varsP p d).length≤1000000000) {st:St} (hst:StOk st):runL A (.call 69 [p.av,.int .i64 d]) st=some ⟨.ret,⟨[.lst 1 (ints (tysF p (varsP p d))) .no],[]⟩,st⟩:=by
 have hp:=hS.ok
 have hxs:=hp.xs
 obtain ⟨N,hN⟩:∃N,N=p.xs.length:=⟨_,rfl⟩
 obtain ⟨es,s1,h106,hf1,hm1,hget⟩:=scope8_call hp hvl hst
 obtain ⟨s2,h107,hf2,hm2⟩:=sure_call hf1.ok
 have hG:(N:Int)≤(Ai.great:Int):=by simp [Ai.great];omega
 generalize varsP p d=VS at *
 simp only [Pg.av] at h106
 refine (task_of_aw (N:=86) prim69 fn69 rfl rfl hst ?_).1
 intro e he ha K hK
 have a0:=ha 0
 have a1:=ha 1
 clear ha
 simp [Pg.av] at a0 a1
 have hf12:=hf1.trans hf2
 have hm1':=hf2.get hm1
 have hl2:s1.length<s2.length:=(List.getElem?_eq_some_iff.1 hm2).1
 have hl1:st.length<s1.length:=(List.getElem?_eq_some_iff.1 hm1).1
 simp [a69,he,a0,a1,h106,h107,←hN,hG,flatten_single,ints_replicate]
 refine aw_loop (W:=w69_0) rfl (fun m e ds s=>ds=[]∧∃(i:Nat) (acc:List Int),i+m=N∧acc.length=i∧tyG p VS (p.xs.drop i) acc=tysF p VS∧Fit st s∧s[st.length]?=some (.map (encM AV.str (.int .i64) es))∧s[s1.length]?=some (.map (encM (.int .i64) (.int .i64) sureM)) ∧
   s[s2.length]?=some (.cells none (ints (acc++List.replicate (N-i) 0)))∧AX.ev e (.t 22)=.int .i64 i) N
  ⟨rfl,0,[],by simp,by simp,by simp [tysF],by simpa [ints] using hf12.cells (cs:=ints (List.replicate N 0)) (ty:=none) (lows_ints _ _),by rw [List.getElem?_append_left (by omega)];exact hm1',by rw [List.getElem?_append_left (by omega)];exact hm2,by simp,by simp [he]⟩ ?_
 rintro m e1 ds s hs ⟨rfl,i,acc,hm,hal,hspec,hf,hmA,hmB,hmO,g22⟩ K1 kn kx
 have he1:e1.length=86:=by simp [hs.1,he]
 have g2:=hs.ev 2 rfl (v:=.iptr p.av) (by simp [he,a0,Pg.av])
 have g5:=hs.ev 5 rfl (v:=.map st.length) (by simp [he])
 have g6:=hs.ev 6 rfl (v:=.map s1.length) (by simp [he])
 have g7:=hs.ev 7 rfl (v:=.sl s2.length 1 0 N (some N)) (by simp [he])
 have g20:=hs.ev 20 rfl (v:=.lst 9 (p.xs.map Ex.av) p.xap) (by simp [he,a0])
 have g21:=hs.ev 21 rfl (v:=.int .i64 N) (by simp [he,a0,hN])
 simp only [Pg.av] at g2
 have hlt:=(List.getElem?_eq_some_iff.1 hmO).1
 by_cases hi:i<N
 ·have hi':i<p.xs.length:=by omega
  obtain ⟨x,hx⟩:∃x,x=p.xs[i]:=⟨_,rfl⟩
  have hxo:x.Ok:=by rw [hx];exact hp.ex _ (List.getElem_mem hi')
  have hcs:=xs_get hi'
  have hA:=hS.ahead i hi'
  rw [←hx] at hcs hA
  rw [drop_get hi',←hx,tyG] at hspec
  have hf1:Fit st (s++[.cells none x.cs]):=hf.cells (Ex.low hxo _)
  have hA1:(s++[.cells none x.cs])[st.length]?=some (.map (encM AV.str (.int .i64) es)):=by rw [List.getElem?_append_left (by omega)];exact hmA
  have hB1:(s++[.cells none x.cs])[s1.length]?=some (.map (encM (.int .i64) (.int .i64) sureM)):=by rw [List.getElem?_append_left (by omega)];exact hmB
  have hO1:(s++[.cells none x.cs])[s2.length]?=some (.cells none (ints (acc++List.replicate (N-i) 0))):=by rw [List.getElem?_append_left hlt];exact hmO
  have h28:=declF_may hS (n:=x.n) hf1.ok
  have hdc:=declF_cases p x.n
  have hgetA:=get_enc (K:=AV.str) (V:=.int .i64) key_str x.n es
  have hgetB:=get_enc (K:=.int .i64) (V:=.int .i64) (key_int .i64) x.k sureM
  have hnA:=hget x.n
  have eA:((getM x.n es).map (AV.int .i64)).getD (.int .i64 0)=.int .i64 (tyN VS x.n):=by rw [←hnA];cases getM x.n es<;>rfl
  have eB:((getM x.k sureM).map (AV.int .i64)).getD (.int .i64 0)=.int .i64 (sureF x.k):=by rw [sureF];cases getM x.k sureM<;>rfl
  have hint:(i:Int)<(N:Int):=by omega
  have hlen:(ints (acc++List.replicate (N-i) 0)).length=N:=by rw [ints_length];simp;omega
  have hle:i+1≤N:=by omega
  have w1:IntKind.i64.wrap ((i:Int)+1)=(i:Int)+1:=wrap_i64 (by omega) (by omega)
  -- a round's end
  have nx:∀(e2:Env) (v:Int),v=tyX p VS acc x→AX.ev e2 (.t 22)=.int .i64 (i+1)→K1 .nrm e2 [] ((s++[AObj.cells none x.cs]).set s2.length (.cells none ((ints (acc++List.replicate (N-i) 0)).set i (.int .i64 v)))):=by
   intro e2 v hv h22
   have hset:(ints (acc++List.replicate (N-i) 0)).set i (.int .i64 v)=ints ((acc++[v])++List.replicate (N-(i+1)) 0):=by
    rw [ints_set];have:=set_mid acc v (N-i) (by omega);rw [hal] at this;rw [this];rfl
   rw [hset]
   refine kn (m-1) _ _ _ (by omega) ⟨rfl,i+1,acc++[v],by omega,by simp [hal],by rw [hv];exact hspec,hf1.set (i:=s2.length) (o:=.cells none (ints ((acc++[v])++List.replicate (N-(i+1)) 0))) (by omega) (by simp [AObj.lowB,lows_ints]),?_,?_,?_,by simpa using h22⟩
   ·rw [List.getElem?_set_ne (by omega)];exact hA1
   ·rw [List.getElem?_set_ne (by omega)];exact hB1
   ·rw [List.getElem?_set_self (by simp;omega)]
  have nx0:∀(e2:Env),0=tyX p VS acc x→AX.ev e2 (.t 22)=.int .i64 (i+1)→K1 .nrm e2 [] (s++[.cells none x.cs]):=by
   intro e2 hv h22
   have h0:(ints (acc++List.replicate (N-i) 0)).set i (.int .i64 0)=ints (acc++List.replicate (N-i) 0):=by
    refine set_same ?_
    simp only [ints,List.map_append]
    rw [List.getElem?_append_right (by simp;omega)]
    simp [hal,List.getElem?_replicate];omega
   have:=nx e2 0 hv h22
   rw [h0,set_same hO1] at this
   exact this
  have get:∀j:Int,0≤j→j<(i:Int)→∃k:Nat,j=k∧k<N∧(k:Int)<(N:Int)∧(ints (acc++List.replicate (N-i) 0))[k]?=some (.int .i64 (acc.getD k 0)):=by
   intro j h0 h1
   refine ⟨j.toNat,by omega,by omega,by omega,?_⟩
   have hj:j.toNat<acc.length:=by omega
   simp only [ints,List.map_append]
   rw [List.getElem?_append_left (by simpa using hj)]
   simp [hj]
  clear kn kx hspec
  simp only [Ex.cs] at hcs hf1 hA1 hB1 hO1 h28 nx nx0
  simp only [Pg.av] at h28
  by_cases k3:x.k=3
  ·have hty:tyX p VS acc x=tyN VS x.n:=by simp [tyX,k3]
   simp [a69_0,g2,g5,g6,g7,g20,g21,g22,he1,hi,hi',hint,hcs,eq_true k3,-opA_lookup,opA_lookup',mapOf,keyKind,hA1,hgetA,-Option.getD_map,eA,hO1,hlen,hle,w1]
   exact nx _ _ hty.symm (by simp [he1])
  by_cases k19:x.k=19
  ·rcases hdc with h | ⟨k,hk,h,_⟩
   ·have hty:tyX p VS acc x=0:=by simp [tyX,k19,h]
    rw [h] at h28
    simp [a69_0,g2,g5,g6,g7,g20,g21,g22,he1,hi,hi',hint,hcs,k3,eq_true k19,h28,w1]
    exact nx0 _ hty.symm (by simp [he1])
   ·have hty:tyX p VS acc x=p.ds[k].t:=by simp [tyX,k19,h,hk]
    have hcd:=ds_get hk
    generalize p.ds[k]=D at *
    rw [h] at h28
    simp only [Dc.cs] at hcd
    simp [a69_0,g2,g5,g6,g7,g20,g21,g22,he1,hi,hi',hint,hcs,k3,eq_true k19,h28,w1,hk,hcd,hO1,hlen,hle]
    exact nx _ _ hty.symm (by simp [he1])
  by_cases k15:x.k=15
  ·have hb:=hA _ (parts_k15 k15)
   obtain ⟨k,hk,hkN,hkI,hg⟩:=get x.b hb.1 hb.2
   have hty:tyX p VS acc x=acc.getD k 0:=by simp [tyX,k15,hk]
   generalize acc.getD k 0=V at *
   obtain ⟨_,hg⟩:=List.getElem?_eq_some_iff.1 hg
   rw [hk] at hcs hA1 hB1 hO1 h28 nx
   simp [a69_0,g2,g5,g6,g7,g20,g21,g22,he1,hi,hi',hint,hcs,k3,k19,eq_true k15,hO1,hkN,hkI,hg,hlen,hle,w1]
   exact nx _ _ hty.symm (by simp [he1])
  by_cases k16:x.k=16∨x.k=17∨x.k=18
  ·have hb:=hA _ (parts_k16 k16)
   obtain ⟨k,hk,hkN,hkI,hg⟩:=get x.a hb.1 hb.2
   have hty:tyX p VS acc x=acc.getD k 0:=by simp only [tyX,k3,k19,k15,k16,if_true,if_false,hk,Int.toNat_natCast]
   generalize acc.getD k 0=V at *
   obtain ⟨_,hg⟩:=List.getElem?_eq_some_iff.1 hg
   rw [hk] at hcs hA1 hB1 hO1 h28 nx
   rcases (by omega:x.k=16∨(¬x.k=16∧x.k=17)∨(¬x.k=16∧¬x.k=17∧x.k=18)) with q | ⟨q1,q⟩ | ⟨q1,q2,q⟩
   ·simp [a69_0,g2,g5,g6,g7,g20,g21,g22,he1,hi,hi',hint,hcs,k3,k19,k15,eq_true q,hO1,hkN,hkI,hg,hlen,hle,w1]
    exact nx _ _ hty.symm (by simp [he1])
   ·simp [a69_0,g2,g5,g6,g7,g20,g21,g22,he1,hi,hi',hint,hcs,k3,k19,k15,q1,eq_true q,hO1,hkN,hkI,hg,hlen,hle,w1]
    exact nx _ _ hty.symm (by simp [he1])
   ·simp [a69_0,g2,g5,g6,g7,g20,g21,g22,he1,hi,hi',hint,hcs,k3,k19,k15,q1,q2,eq_true q,hO1,hkN,hkI,hg,hlen,hle,w1]
    exact nx _ _ hty.symm (by simp [he1])
  have hty:tyX p VS acc x=sureF x.k:=by simp only [tyX,k3,k19,k15,k16,if_false]
  simp only [not_or] at k16
  simp [a69_0,g2,g5,g6,g7,g20,g21,g22,he1,hi,hi',hint,hcs,k3,k19,k15,k16.1,k16.2.1,k16.2.2,-opA_lookup,opA_lookup',mapOf,keyKind,hB1,hgetB,-Option.getD_map,eB,hO1,hlen,hle,w1]
  exact nx _ _ hty.symm (by simp [he1])
 ·have hil:i=N:=by omega
  have h0:p.xs.drop i=[]:=by rw [hil,hN];simp
  rw [h0,tyG] at hspec
  rw [hil] at hmO
  simp at hmO
  rw [hspec] at hmO
  have hlen:(tysF p VS).length=N:=by rw [tysF_len,hN]
  simp [a69_0,g21,g22,he1,hil]
  refine kx _ _ _ _ nofun fun hs'=>?_
  simp [he1,g7]
  have hg1:group 1 false N (ints (tysF p VS))=ints (tysF p VS):=by have:=group_cell (ints (tysF p VS));rwa [ints_length,hlen] at this
  exact hK _ _ _ (.inl rfl) hf.take ⟨_,rfl,by
   have:¬s2.length<st.length:=by omega
   simp [he1,AV.still,this,hmO,ints_length,hlen,lows_ints,hg1]⟩
def allF (p:Pg) (d:Int):List Int:=if rightN p && (decide (0≤d) && decide (d<p.ds.length)) then tysF p (varsP p d) else []
theorem right_sound {p:Pg} (hp:p.Ok) (h:rightN p=true):Sound p:=by simp [rightN] at h;exact may_sound hp h.1
theorem vars_len {p:Pg} (hp:p.Ok) (d:Int):(varsP p d).length≤1000000000:=by
 unfold varsP
 split
 ·rename_i h
  have:=varsF_len (hp.dc _ (List.getElem_mem (ds_len h).2));omega
 ·simp
def allAp (p:Pg) (d:Int):Ap:=if rightN p && (decide (0≤d) && decide (d<p.ds.length)) then .no else .tight
theorem all40_call {p:Pg} (hp:p.Ok) (hM:(declsF p p.ds 0 0).length≤4000000) {d:Int} {st:St} (hst:StOk st):runL A (.call 40 [p.av,.int .i64 d]) st=some ⟨.ret,⟨[.lst 1 (ints (allF p d)) (allAp p d)],[]⟩,st⟩:=by
 have h21:=right21_call hp (fun hm=>⟨may_sound hp hm,hM⟩) hst
 simp only [Pg.av] at h21
 cases hr:rightN p with
 | false =>
  have hal:allF p d=[]:=by simp [allF,hr]
  have hap:allAp p d=.tight:=by simp [allAp,hr]
  rw [hr] at h21
  refine (task_of_aw (N:=22) prim40 fn40 rfl rfl hst ?_).1
  intro e he ha K hK
  have a0:=ha 0
  have a1:=ha 1
  clear ha
  simp [Pg.av] at a0 a1
  simp [a40,he,a0,a1,h21]
  exact hK _ _ _ (.inl rfl) (by simp) ⟨_,rfl,by simp [he,hal,hap,ints,AV.stills]⟩
 | true =>
  have h69:=all69_call (right_sound hp hr) (vars_len hp d) hst
  simp only [Pg.av] at h69
  rw [hr] at h21
  by_cases h1:0≤d
  ·by_cases h2:d<p.ds.length
   ·have hal:allF p d=tysF p (varsP p d):=by simp [allF,hr,h1,h2]
    have hap:allAp p d=.no:=by simp [allAp,hr,h1,h2]
    have h1':¬d<0:=by omega
    have h2':¬(p.ds.length:Int)≤d:=by omega
    refine (task_of_aw (N:=22) prim40 fn40 rfl rfl hst ?_).1
    intro e he ha K hK
    have a0:=ha 0
    have a1:=ha 1
    clear ha
    simp [Pg.av] at a0 a1
    simp [a40,he,a0,a1,h21,h1',h2',h69]
    exact hK _ _ _ (.inl rfl) (by simp) ⟨_,rfl,by simp [he,hal,hap,stills_ints]⟩
   ·have hal:allF p d=[]:=by simp [allF,h2]
    have hap:allAp p d=.tight:=by simp [allAp,h2]
    have h1':¬d<0:=by omega
    have h2':(p.ds.length:Int)≤d:=by omega
    refine (task_of_aw (N:=22) prim40 fn40 rfl rfl hst ?_).1
    intro e he ha K hK
    have a0:=ha 0
    have a1:=ha 1
    clear ha
    simp [Pg.av] at a0 a1
    simp [a40,he,a0,a1,h21,h1',h2']
    exact hK _ _ _ (.inl rfl) (by simp) ⟨_,rfl,by simp [he,hal,hap,ints,AV.stills]⟩
  ·have hal:allF p d=[]:=by simp [allF,h1]
   have hap:allAp p d=.tight:=by simp [allAp,h1]
   have h1':d<0:=by omega
   refine (task_of_aw (N:=22) prim40 fn40 rfl rfl hst ?_).1
   intro e he ha K hK
   have a0:=ha 0
   have a1:=ha 1
   clear ha
   simp [Pg.av] at a0 a1
   simp [a40,he,a0,a1,h21,h1']
   exact hK _ _ _ (.inl rfl) (by simp) ⟨_,rfl,by simp [he,hal,hap,ints,AV.stills]⟩
end Go.Proofs.YtefildelnccljaaGreat
namespace Go.Proofs.YtefildelnccljaaGreat
open Go Ai
theorem fn42:A.fn 42=some a42:=by kernel_rfl
theorem prim42:A.prim 42=none:=by kernel_rfl
def w42_0:List Nat:=a42_0.writes
theorem tyG_take (p:Pg) (vs:List Vr):∀(l:List Ex) (acc:List Int),(tyG p vs l acc).take acc.length=acc
 | [],acc=>by simp [tyG]
 | x::l,acc=>by
  have:=tyG_take p vs l (acc++[tyX p vs acc x])
  rw [tyG]
  have h2:=congrArg (List.take acc.length) this
  rw [List.take_take] at h2
  simpa using h2
theorem tyG_get (p:Pg) (vs:List Vr):∀(l:List Ex) (acc:List Int) (j:Nat) (h:j<l.length),(tyG p vs l acc)[acc.length+j]?=some (tyX p vs ((tyG p vs l acc).take (acc.length+j)) l[j])
 | x::l,acc,0,_=>by
  have h1:=tyG_take p vs (x::l) acc
  have h2:=tyG_take p vs l (acc++[tyX p vs acc x])
  simp only [Nat.add_zero]
  rw [h1]
  rw [tyG]
  have h3:=congrArg (·[acc.length]?) h2
  simp only [List.getElem?_take] at h3
  simpa using h3
 | x::l,acc,j+1,h=>by
  have:=tyG_get p vs l (acc++[tyX p vs acc x]) j (by simpa using h)
  rw [tyG]
  simpa [Nat.add_assoc,Nat.add_comm 1] using this
theorem tys_get {p:Pg} (hA:Ahead p) (vs:List Vr) {e:Nat} (he:e<p.xs.length):(tysF p vs).getD e 0=tyX p vs (tysF p vs) p.xs[e]:=by
 have h:=tyG_get p vs p.xs [] e he
 simp only [List.length_nil,Nat.zero_add] at h
 rw [List.getD_eq_getElem?_getD,tysF,h,Option.getD_some]
 have ht:∀k:Int,0≤k→k<(e:Int)→((tyG p vs p.xs []).take e).getD k.toNat 0=(tyG p vs p.xs []).getD k.toNat 0:=by
  intro k h0 h1
  rw [List.getD_eq_getElem?_getD,List.getD_eq_getElem?_getD,List.getElem?_take,if_pos (by omega)]
 have hA:=hA e he
 generalize p.xs[e]=x at *
 unfold tyX
 by_cases k3:x.k=3
 ·simp [k3]
 by_cases k19:x.k=19
 ·simp [k19]
 by_cases k15:x.k=15
 ·have:=hA _ (parts_k15 k15)
  simp only [k15];simp;rw [←List.getD_eq_getElem?_getD,←List.getD_eq_getElem?_getD];exact ht _ this.1 this.2
 by_cases k16:x.k=16∨x.k=17∨x.k=18
 ·have:=hA _ (parts_k16 k16)
  rw [if_neg k3,if_neg k19,if_neg k15,if_pos k16,if_neg k3,if_neg k19,if_neg k15,if_pos k16];exact ht _ this.1 this.2
 rw [if_neg k3,if_neg k19,if_neg k15,if_neg k16,if_neg k3,if_neg k19,if_neg k15,if_neg k16]
theorem kinds_may {p:Pg} (hS:Sound p) {e:Nat} (he:e<p.xs.length):1≤p.xs[e].k∧p.xs[e].k≤21:=by
 have hm:=hS.may
 simp only [may7,may4,Bool.and_eq_true] at hm
 have:=ones_get he hm.2.1
 simp only [oneF,Bool.and_eq_true,decide_eq_true_eq] at this
 exact this.1.1.1.1.1
set_option maxHeartbeats 4000000 in
theorem refOf_call {p:Pg} (hS:Sound p) {i:Nat} (hi:i<p.ds.length):∀(e':Nat),e'<p.xs.length→∀(st:St),StOk st→runL A (.call 42 [p.av,.int .i64 i,.int .i64 e']) st=some ⟨.ret,⟨[.int .i64 ((tysF p (varsF p.ds[i])).getD e' 0)],[]⟩,st⟩:=by
 have hp:=hS.ok
 have hdo:=hp.dc _ (List.getElem_mem hi)
 have hcd:=ds_get hi
 have hvl:=varsF_len hdo
 obtain ⟨D,hD⟩:∃D,D=p.ds[i]:=⟨_,rfl⟩
 rw [←hD] at hdo hcd hvl
 rw [←hD]
 intro e'
 induction e' using Nat.strongRecOn with
 | ind e' ih =>
 intro he' st hst
 have hcs:=xs_get he'
 have hxo:=hp.ex _ (List.getElem_mem he')
 have hA:=hS.ahead e' he'
 have hk:=kinds_may hS he'
 rw [tys_get hS.ahead _ he']
 generalize p.xs[e']=x at *
 have hst1:StOk (st++[.cells none x.cs]):=obj_ok hst (Ex.low hxo _)
 have h30:=vars30_call hdo hst1
 have h29:=refDecl_call hp (n:=x.n) hst1
 have hdc:=declF_cases p x.n
 simp only [Ex.cs] at hcs hst1 h30 h29
 simp only [Dc.av,Dc.cs] at h30 hcd
 simp only [Pg.av] at h29 ih
 refine (task_of_aw (N:=85) prim42 fn42 rfl rfl hst ?_).1
 intro e he ha K hK
 have a0:=ha 0
 have a1:=ha 1
 have a2:=ha 2
 clear ha
 simp [Pg.av] at a0 a1 a2
 have sub:∀j:Int,0≤j→j<(e':Int)→runL A (.call 42 [.agg [.lst 7 (p.ds.map Dc.av) p.dap,.lst 9 (p.xs.map Ex.av) p.xap],.int .i64 i,.int .i64 j]) (st++[.cells none [.int .i64 x.k,.int .i64 x.a,.int .i64 x.b,.int .i64 x.c,.str x.n,.str x.s,.int .i64 x.v,.lst 1 (ints x.args) x.ap,.int .i64 x.p]]) =
   some ⟨.ret,⟨[.int .i64 ((tysF p (varsF D)).getD j.toNat 0)],[]⟩,(st++[.cells none [.int .i64 x.k,.int .i64 x.a,.int .i64 x.b,.int .i64 x.c,.str x.n,.str x.s,.int .i64 x.v,.lst 1 (ints x.args) x.ap,.int .i64 x.p]])⟩:=by
  intro j h0 h1
  obtain ⟨k,rfl⟩:=Int.eq_ofNat_of_zero_le h0
  exact ih k (by omega) (by omega) _ hst1
 clear ih
 by_cases kf:x.k=1∨x.k=4∨x.k=6∨x.k=7∨x.k=8∨x.k=9∨x.k=21
 ·have hty:tyX p (varsF D) (tysF p (varsF D)) x=1:=by
   have h3:¬x.k=3:=by omega
   have h19:¬x.k=19:=by omega
   have h15:¬x.k=15:=by omega
   have h16:¬(x.k=16∨x.k=17∨x.k=18):=by omega
   simp only [tyX,h3,h19,h15,h16,if_false]
   exact sureF_fix (by omega)
  rcases (by omega:x.k=1∨(¬x.k=1∧x.k=4)∨(¬x.k=1∧¬x.k=4∧x.k=6)∨(¬x.k=1∧¬x.k=4∧¬x.k=6∧x.k=7)∨(¬x.k=1∧¬x.k=4∧¬x.k=6∧¬x.k=7∧x.k=8) ∨
    (¬x.k=1∧¬x.k=4∧¬x.k=6∧¬x.k=7∧¬x.k=8∧x.k=9)∨(¬x.k=1∧¬x.k=4∧¬x.k=6∧¬x.k=7∧¬x.k=8∧¬x.k=9∧x.k=21)) with
   q | ⟨q1,q⟩ | ⟨q1,q2,q⟩ | ⟨q1,q2,q3,q⟩ | ⟨q1,q2,q3,q4,q⟩ | ⟨q1,q2,q3,q4,q5,q⟩ | ⟨q1,q2,q3,q4,q5,q6,q⟩
  ·simp [a42,he,a0,a1,a2,he',hcs,eq_true q]
   exact hK _ _ _ (.inl rfl) (by simp) ⟨_,rfl,by simp [he,hty]⟩
  ·simp [a42,he,a0,a1,a2,he',hcs,eq_true q,q1]
   exact hK _ _ _ (.inl rfl) (by simp) ⟨_,rfl,by simp [he,hty]⟩
  ·simp [a42,he,a0,a1,a2,he',hcs,eq_true q,q1,q2]
   exact hK _ _ _ (.inl rfl) (by simp) ⟨_,rfl,by simp [he,hty]⟩
  ·simp [a42,he,a0,a1,a2,he',hcs,eq_true q,q1,q2,q3]
   exact hK _ _ _ (.inl rfl) (by simp) ⟨_,rfl,by simp [he,hty]⟩
  ·simp [a42,he,a0,a1,a2,he',hcs,eq_true q,q1,q2,q3,q4]
   exact hK _ _ _ (.inl rfl) (by simp) ⟨_,rfl,by simp [he,hty]⟩
  ·simp [a42,he,a0,a1,a2,he',hcs,eq_true q,q1,q2,q3,q4,q5]
   exact hK _ _ _ (.inl rfl) (by simp) ⟨_,rfl,by simp [he,hty]⟩
  ·simp [a42,he,a0,a1,a2,he',hcs,eq_true q,q1,q2,q3,q4,q5,q6]
   exact hK _ _ _ (.inl rfl) (by simp) ⟨_,rfl,by simp [he,hty]⟩
 have q1:¬x.k=1:=by omega
 have q4:¬x.k=4:=by omega
 have q6:¬x.k=6:=by omega
 have q7:¬x.k=7:=by omega
 have q8:¬x.k=8:=by omega
 have q9:¬x.k=9:=by omega
 have q21:¬x.k=21:=by omega
 by_cases k3:x.k=3
 ·have hty:tyX p (varsF D) (tysF p (varsF D)) x=tyN (varsF D) x.n:=by simp [tyX,k3]
  generalize varsF D=VS at *
  simp [a42,he,a0,a1,a2,he',hcs,q1,q4,q6,q7,q8,q9,q21,eq_true k3,hi,hcd,h30]
  generalize hS0:st++_=S0
  have htk:S0.take st.length=st:=by rw [←hS0];simp
  have hx:S0[st.length]?=some (.cells none x.cs):=by rw [←hS0];simp [Ex.cs]
  simp only [Ex.cs] at hx
  refine aw_loop (W:=w42_0) rfl (fun m e ds s=>ds=[]∧s=S0∧∃j:Nat,j+m=VS.length∧AX.ev e (.t 9)=.int .i64 (tyN (VS.take j) x.n)∧AX.ev e (.t 10)=.int .i64 j) VS.length
   ⟨rfl,rfl,0,by simp,by simp [he,tyN,getM],by simp [he]⟩ ?_
  rintro m e1 ds s hs ⟨rfl,rfl,j,hm,g9,g10⟩ K1 kn kx
  have he1:e1.length=85:=by simp [hs.1,he]
  have g7:=hs.ev 7 rfl (v:=.ptr st.length 0) (by simp [he])
  have g8:=hs.ev 8 rfl (v:=.lst 4 (VS.map Vr.av) (endAp VS.length)) (by simp [he])
  by_cases hj:j<VS.length
  ·obtain ⟨v,hv⟩:∃v,v=VS[j]:=⟨_,rfl⟩
   have hgv:(VS.map Vr.av)[j]'(by simpa using hj)=.agg v.cs:=by simp [Vr.av,hv]
   have hstep:tyN (VS.take (j+1)) x.n=if v.n=x.n then v.t else tyN (VS.take j) x.n:=by
    rw [tyN,take_foldl hj,←hv,getM_putM];split<;>rfl
   have w1:IntKind.i64.wrap ((j:Int)+1)=(j:Int)+1:=wrap_i64 (by omega) (by omega)
   simp only [Vr.cs] at hgv
   by_cases hb:v.n=x.n
   ·simp [a42_0,g7,g8,g9,g10,he1,hj,hgv,hx,hb,w1]
    exact kn (m-1) _ _ _ (by omega) ⟨rfl,rfl,j+1,by omega,by rw [hstep,if_pos hb];simp [he1],by simp [he1]⟩
   ·simp [a42_0,g7,g8,g9,g10,he1,hj,hgv,hx,hb,w1]
    exact kn (m-1) _ _ _ (by omega) ⟨rfl,rfl,j+1,by omega,by rw [hstep,if_neg hb];simp [he1,g9],by simp [he1]⟩
  ·have hjl:j=VS.length:=by omega
   rw [hjl,List.take_length] at g9
   simp [a42_0,g8,g10,he1,hj]
   refine kx _ _ _ _ nofun fun hs'=>?_
   simp [he1,g9]
   exact hK _ _ _ (.inl rfl) htk ⟨_,rfl,by simp [he1,hty]⟩
 by_cases k15:x.k=15
 ·have hty:tyX p (varsF D) (tysF p (varsF D)) x=(tysF p (varsF D)).getD x.b.toNat 0:=by simp [tyX,k15]
  have hb:=hA _ (parts_k15 k15)
  have hs:=sub x.b hb.1 hb.2
  generalize (tysF p (varsF D)).getD x.b.toNat 0=V at *
  simp [a42,he,a0,a1,a2,he',hcs,q1,q4,q6,q7,q8,q9,q21,k3,eq_true k15,hs]
  exact hK _ _ _ (.inl rfl) (by simp) ⟨_,rfl,by simp [he,hty]⟩
 by_cases k16:x.k=16∨x.k=17∨x.k=18
 ·have h19:¬x.k=19:=by omega
  have hty:tyX p (varsF D) (tysF p (varsF D)) x=(tysF p (varsF D)).getD x.a.toNat 0:=by simp only [tyX,k3,h19,k15,k16,if_true,if_false]
  have hb:=hA _ (parts_k16 k16)
  have hs:=sub x.a hb.1 hb.2
  generalize (tysF p (varsF D)).getD x.a.toNat 0=V at *
  rcases (by omega:x.k=16∨(¬x.k=16∧x.k=17)∨(¬x.k=16∧¬x.k=17∧x.k=18)) with q | ⟨r1,q⟩ | ⟨r1,r2,q⟩
  ·simp [a42,he,a0,a1,a2,he',hcs,q1,q4,q6,q7,q8,q9,q21,k3,k15,eq_true q,hs]
   exact hK _ _ _ (.inl rfl) (by simp) ⟨_,rfl,by simp [he,hty]⟩
  ·simp [a42,he,a0,a1,a2,he',hcs,q1,q4,q6,q7,q8,q9,q21,k3,k15,eq_true q,r1,hs]
   exact hK _ _ _ (.inl rfl) (by simp) ⟨_,rfl,by simp [he,hty]⟩
  ·simp [a42,he,a0,a1,a2,he',hcs,q1,q4,q6,q7,q8,q9,q21,k3,k15,eq_true q,r1,r2,hs]
   exact hK _ _ _ (.inl rfl) (by simp) ⟨_,rfl,by simp [he,hty]⟩
 have r16:¬x.k=16:=by omega
 have r17:¬x.k=17:=by omega
 have r18:¬x.k=18:=by omega
 by_cases k19:x.k=19
 ·rcases hdc with h | ⟨k,hk,h,_⟩
  ·have hty:tyX p (varsF D) (tysF p (varsF D)) x=0:=by simp [tyX,k19,h]
   rw [h] at h29
   simp [a42,he,a0,a1,a2,he',hcs,q1,q4,q6,q7,q8,q9,q21,k3,k15,r16,r17,r18,eq_true k19,h29]
   exact hK _ _ _ (.inl rfl) (by simp) ⟨_,rfl,by simp [he,hty]⟩
  ·have hty:tyX p (varsF D) (tysF p (varsF D)) x=p.ds[k].t:=by simp [tyX,k19,h,hk]
   have hck:=ds_get hk
   generalize p.ds[k]=E at *
   rw [h] at h29
   simp only [Dc.cs] at hck
   simp [a42,he,a0,a1,a2,he',hcs,q1,q4,q6,q7,q8,q9,q21,k3,k15,r16,r17,r18,eq_true k19,h29,hk,hck]
   exact hK _ _ _ (.inl rfl) (by simp) ⟨_,rfl,by simp [he,hty]⟩
 have hty:tyX p (varsF D) (tysF p (varsF D)) x=2:=by
  simp only [tyX,k3,k19,k15,k16,if_false]
  exact sureF_bool (by omega)
 simp [a42,he,a0,a1,a2,he',hcs,q1,q4,q6,q7,q8,q9,q21,k3,k15,r16,r17,r18,k19]
 exact hK _ _ _ (.inl rfl) (by simp) ⟨_,rfl,by simp [he,hty]⟩
end Go.Proofs.YtefildelnccljaaGreat
namespace Go.Proofs.YtefildelnccljaaGreat
open Go Ai
theorem fn43:A.fn 43=some a43:=by kernel_rfl
theorem prim43:A.prim 43=none:=by kernel_rfl
def w43_0:List Nat:=a43_0.writes
theorem fn34:A.fn 34=some a34:=by kernel_rfl
theorem prim34:A.prim 34=none:=by kernel_rfl
def w34_0:List Nat:=a34_0.writes
theorem Ai.task_of_aw_keep_ev {A:AProg} {st:St} {f:FuncId} {F:AFunc} {args:List AV} {N:Nat} (G:AV→St→Prop) (hp:A.prim f=none) (hf:A.fn f=some F) (hk:F.keep=true) (hN:args.length+(F.ntmps-args.length)=N)
  (h:∀e:Env,e.length=N→(∀i,AX.ev e (.t i)=args.getD i .undef)→∀K:PostQ,
   (∀x e st' v,(x=.ret∨x=.nrm)→G v st'→(∃vs,resultsA st' e F.results=some vs∧oneOf vs=v)→K x e [] st')→AW A f none F.body e [] st K) :
  ∃v st',G v st'∧runL A (.call f args) st=some ⟨.ret,⟨[v],[]⟩,st'⟩∧runL A (.seqc f args) st=some ⟨.ret,⟨[v],[]⟩,st'⟩:=by
 have hev:∀i,AX.ev (args++List.replicate (F.ntmps-args.length) .undef) (.t i)=args.getD i .undef:=by
  intro i
  simp only [AX.ev,List.getD_eq_getElem?_getD]
  by_cases hi:i<args.length
  ·rw [List.getElem?_append_left hi]
  ·rw [List.getElem?_append_right (by omega),List.getElem?_eq_none (by omega:args.length≤i),List.getElem?_replicate]
   split<;>rfl
 obtain ⟨x,e',ds',st1,hx,h1,h2,v,h3,vs,h4,h5⟩:=h (args++List.replicate (F.ntmps-args.length) .undef) (by simpa using hN) hev
  (fun x e ds st1=>(x=.ret∨x=.nrm)∧ds=[]∧∃v,G v st1∧∃vs,resultsA st1 e F.results=some vs∧oneOf vs=v)
  (fun x e st' v h1 h2 h3=>⟨h1,rfl,v,h2,h3⟩)
 subst h2
 refine ⟨v,st1,h3,?_⟩
 constructor<;>rw [runL_eq]<;>simp only [layer,hp,callFn,hf,hx,runDefs]<;>rcases h1 with rfl | rfl<;>simp only [h4,hk,h5,if_true]
def treeN (p:Pg):Nat→Nat→List Int→Nat→List Int
 | 0,_,l,_=>l
 | f+1,e,l,m=>if m≤l.length then l else (partsF (p.xs.getD e ex0)).foldl (fun l k=>treeN p f k.toNat l m) (l++[(e:Int)])
theorem treeN_len (p:Pg):∀(f e:Nat) (l:List Int) (m:Nat),l.length≤m→(treeN p f e l m).length≤m
 | 0,_,_,_,h=>h
 | f+1,e,l,m,h=>by
  rw [treeN]
  split
  ·exact h
  ·have:∀(ks:List Int) (l:List Int),l.length≤m→(ks.foldl (fun l k=>treeN p f k.toNat l m) l).length≤m:=by
    intro ks
    induction ks with
    | nil=>intro l h;exact h
    | cons k ks ih=>intro l h;exact ih _ (treeN_len p f _ _ _ h)
   exact this _ _ (by simp;omega)
theorem ahead_of {p:Pg} (h:may4 p=true):Ahead p:=by
 simp only [may4,Bool.and_eq_true] at h
 intro i hi k hk
 have:=ones_get hi h.1
 simp only [oneF,Bool.and_eq_true,List.all_eq_true] at this
 have h:=this.1.1.1.1.2 k hk
 simpa using h
theorem tree_call {p:Pg} (hp:p.Ok) (hA:Ahead p) {st:St} {M:Nat} (hM:M≤1000000):∀(f e':Nat),e'<f→e'<p.xs.length→∀(es:List Int) (v:AV) (s:St),es.length≤M→Fit st s→Lv st s 1 (some 3) v (ints es) →
  ∃v' s',runL A (.call 43 [p.av,.int .i64 e',v,.int .i64 M]) s=some ⟨.ret,⟨[v'],[]⟩,s'⟩∧Lv st s' 1 (some 3) v' (ints (treeN p f e' es M))∧Fit st s':=by
 intro f
 induction f with
 | zero=>intro e' h;omega
 | succ f ih =>
 intro e' hef heN es v s hes hf hv
 have hxo:=hp.ex _ (List.getElem_mem heN)
 have hcs:=xs_get heN
 have hAe:=hA e' heN
 have hg:p.xs.getD e' ex0=p.xs[e']:=by simp [heN]
 have hpl:=partsF_len _ hxo
 suffices h:∃v' s',(Lv st s' 1 (some 3) v' (ints (treeN p (f+1) e' es M))∧Fit st s')∧runL A (.call 43 [p.av,.int .i64 e',v,.int .i64 M]) s=some ⟨.ret,⟨[v'],[]⟩,s'⟩∧runL A (.seqc 43 [p.av,.int .i64 e',v,.int .i64 M]) s=some ⟨.ret,⟨[v'],[]⟩,s'⟩ by
  obtain ⟨v',s',⟨h1,h2⟩,h3,_⟩:=h
  exact ⟨v',s',h3,h1,h2⟩
 refine Ai.task_of_aw_keep_ev (N:=41) _ prim43 fn43 rfl rfl ?_
 intro e he ha K hK
 have a0:=ha 0
 have a1:=ha 1
 have a2:=ha 2
 have a3:=ha 3
 clear ha
 simp [Pg.av] at a0 a1 a2 a3
 rw [treeN,hg] at hK
 obtain ⟨o,hvo⟩:=hv.eq
 rw [hvo] at a2
 by_cases hb:M≤es.length
 ·have hb':(M:Int)≤(es.length:Int):=by omega
  rw [if_pos hb] at hK
  simp [a43,he,a0,a1,a2,a3,ints_length,hb,hb']
  exact hK _ _ _ _ (.inl rfl) ⟨hv,hf⟩ ⟨_,rfl,by simp [he,a2,hvo]⟩
 ·have hb':¬(M:Int)≤(es.length:Int):=by omega
  rw [if_neg hb] at hK
  obtain ⟨v1,s1,p1,p2,p3,_⟩:=hv.push (bytes:=8) (x:=.int .i64 e') (ap:=.tight) hf (by rw [ints_length];omega) (by omega)
  have p2:Lv st s1 1 (some 3) v1 (ints (es++[(e':Int)])):=by simpa [ints] using p2
  have h68:=parts_call hxo p3.ok
  rw [hvo] at p1
  generalize p.xs[e']=x at *
  generalize partsF x=ks at *
  simp only [Ex.av,Ex.cs] at hcs h68
  simp [a43,he,a0,a1,a2,a3,ints_length,hb,hb',p1,heN,hcs,h68]
  refine aw_loop (W:=w43_0) rfl (fun m e ds s=>ds=[]∧∃(i:Nat) (v:AV) (l:List Int),i+m=ks.length∧l.length≤M∧(ks.drop i).foldl (fun l k=>treeN p f k.toNat l M) l=ks.foldl (fun l k=>treeN p f k.toNat l M) (es++[(e':Int)]) ∧
    Lv st s 1 (some 3) v (ints l)∧Fit st s∧AX.ev e (.t 2)=v∧AX.ev e (.t 10)=.int .i64 i) ks.length
   ⟨rfl,0,v1,es++[(e':Int)],by simp,by simp;omega,by simp,p2,p3,by simp [he],by simp [he]⟩ ?_
  rintro m e1 ds s2 hs ⟨rfl,i,v2,l,hm,hl,hfold,hv2,hf2,g2,g10⟩ K1 kn kx
  have he1:e1.length=41:=by simp [hs.1,he]
  have g3:=hs.ev 3 rfl (v:=.int .i64 M) (by simp [he,a3])
  have g4:=hs.ev 4 rfl (v:=.iptr p.av) (by simp [he,a0,Pg.av])
  have g9:=hs.ev 9 rfl (v:=.lst 1 (ints ks) (partsAp x)) (by simp [he])
  simp only [Pg.av] at g4 ih
  by_cases hi:i<ks.length
  ·have hgv:=ints_get hi
   have hk:=hAe _ (List.getElem_mem hi)
   rw [drop_get hi,List.foldl_cons] at hfold
   generalize ks[i]=k at *
   obtain ⟨j,rfl⟩:=Int.eq_ofNat_of_zero_le hk.1
   obtain ⟨v3,s3,q1,q2,q3⟩:=ih j (by omega) (by omega) l v2 s2 hl hf2 hv2
   have w1:IntKind.i64.wrap ((i:Int)+1)=(i:Int)+1:=wrap_i64 (by omega) (by omega)
   simp [a43_0,g2,g3,g4,g9,g10,he1,hi,hgv,ints_length,q1,w1]
   exact kn (m-1) _ _ _ (by omega) ⟨rfl,i+1,v3,_,by omega,treeN_len p f j l M hl,hfold,q2,q3,by simp [he1],by simp [he1]⟩
  ·have hil:i=ks.length:=by omega
   rw [hil,List.drop_length] at hfold
   have hfold:l=ks.foldl (fun l k=>treeN p f k.toNat l M) (es++[(e':Int)]):=hfold
   simp [a43_0,g9,g10,he1,hi,ints_length]
   refine kx _ _ _ _ nofun fun hs'=>?_
   simp [he1,g2]
   exact hK _ _ _ _ (.inl rfl) ⟨hfold▸hv2,hf2⟩ ⟨_,rfl,by simp [he1]⟩
def bigF (p:Pg):Nat→Nat→Bool
 | _,0=>false
 | i,m+1=>decide (400≤(treeN p p.xs.length i [] 400).length) || bigF p (i+1) m
def great8 (p:Pg):Bool:=greatF p || (may4 p && bigF p 0 p.xs.length)
theorem great8_call {p:Pg} (hp:p.Ok) {st:St} (hst:StOk st):runL A (.call 34 [p.av]) st=some ⟨.ret,⟨[.bool (great8 p)],[]⟩,st⟩:=by
 have h18:=great_call hp hst
 have h51:=may4_call hp hst
 have hxs:=hp.xs
 simp only [Pg.av] at h18 h51
 refine (task_of_aw (N:=21) prim34 fn34 rfl rfl hst ?_).1
 intro e he ha K hK
 have a0:=ha 0
 clear ha
 simp [Pg.av] at a0
 cases hg:greatF p with
 | true =>
  rw [hg] at h18
  simp [a34,he,a0,h18]
  exact hK _ _ _ (.inl rfl) (by simp) ⟨_,rfl,by simp [he,great8,hg]⟩
 | false =>
 rw [hg] at h18
 cases hm:may4 p with
 | false =>
  rw [hm] at h51
  simp [a34,he,a0,h18,h51]
  exact hK _ _ _ (.inl rfl) (by simp) ⟨_,rfl,by simp [he,great8,hg,hm]⟩
 | true =>
 rw [hm] at h51
 have hA:=ahead_of hm
 have hb8:great8 p=bigF p 0 p.xs.length:=by simp [great8,hg,hm]
 rw [hb8] at hK
 simp [a34,he,a0,h18,h51]
 refine aw_loop (W:=w34_0) rfl (fun m e ds s=>ds=[]∧∃i:Nat,i+m=p.xs.length∧bigF p i m=bigF p 0 p.xs.length∧Fit st s∧AX.ev e (.t 3)=.int .i64 i) p.xs.length
  ⟨rfl,0,by simp,rfl,.refl hst,by simp [he]⟩ ?_
 rintro m e1 ds s hs ⟨rfl,i,hm1,hbig,hf,g3⟩ K1 kn kx
 have he1:e1.length=21:=by simp [hs.1,he]
 have g1:=hs.ev 1 rfl (v:=.iptr p.av) (by simp [he,a0,Pg.av])
 simp only [Pg.av] at g1
 by_cases hi:i<p.xs.length
 ·obtain ⟨m,rfl⟩:∃k,m=k+1:=⟨m-1,by omega⟩
  obtain ⟨v',s',q1,q2,q3⟩:=tree_call hp hA (st:=st) (M:=400) (by omega) p.xs.length i hi hi [] (.lst 1 [] .tight) s (by simp) hf .nil
  obtain ⟨o,rfl⟩:=q2.eq
  simp only [Pg.av] at q1
  rw [bigF] at hbig
  generalize treeN p p.xs.length i [] 400=T at *
  have w1:IntKind.i64.wrap ((i:Int)+1)=(i:Int)+1:=wrap_i64 (by omega) (by omega)
  by_cases hb:400≤T.length
  ·have hb':(400:Int)≤(T.length:Int):=by omega
   simp at q1
   simp [a34_0,g1,g3,he1,hi,q1,ints_length,hb']
   refine kx _ _ _ _ nofun fun hs'=>?_
   simp
   exact hK _ _ _ (.inl rfl) q3.take ⟨_,rfl,by rw [←hbig];simp [he1,hb]⟩
  ·have hb':¬(400:Int)≤(T.length:Int):=by omega
   simp at q1
   simp [hb] at hbig
   simp [a34_0,g1,g3,he1,hi,q1,ints_length,hb',w1]
   exact kn m _ _ _ (by omega) ⟨rfl,i+1,by omega,hbig,q3,by simp [he1]⟩
 ·have hm0:m=0:=by omega
  subst hm0
  rw [bigF] at hbig
  simp [a34_0,g1,g3,he1,hi]
  refine kx _ _ _ _ nofun fun hs'=>?_
  simp [he1]
  exact hK _ _ _ (.inl rfl) hf.take ⟨_,rfl,by rw [←hbig];simp [he1]⟩
end Go.Proofs.YtefildelnccljaaGreat
namespace Go.Proofs.YtefildelnccljaaGreat
open Go Ai
theorem fn103:A.fn 103=some a103:=by kernel_rfl
theorem prim103:A.prim 103=none:=by kernel_rfl
def w103_0:List Nat:=a103_0.writes
def w103_1:List Nat:=a103_1.writes
def w103_2:List Nat:=a103_2.writes
theorem reached103_call {p:Pg} (hp:p.Ok) {d:Int} (hA:Ahead p) (hI:Inside p (rootsP p d)) (hrl:(rootsP p d).length≤1000000000) {st:St} (hst:StOk st) :
  runL A (.call 103 [p.av,.int .i64 d]) st=some ⟨.ret,⟨[.lst 1 (bools (reachF p (rootsP p d))) .no],[]⟩,st⟩:=by
 have hxs:=hp.xs
 obtain ⟨N,hN⟩:∃N,N=p.xs.length:=⟨_,rfl⟩
 have hst1:∀bs:List Bool,StOk (st++[.cells none (bools bs)]):=fun bs=>obj_ok hst (low_bools _ _)
 have h27:=roots27_call hp (d:=d) (hst1 (List.replicate N false))
 have hG:(N:Int)≤(Ai.great:Int):=by simp [Ai.great];omega
 rw [reachF,←hN]
 generalize rootsP p d=RS at *
 simp only [Pg.av] at h27
 refine (task_of_aw (N:=60) prim103 fn103 rfl rfl hst ?_).1
 intro e he ha K hK
 have a0:=ha 0
 have a1:=ha 1
 clear ha
 simp [Pg.av] at a0 a1
 simp [a103,he,a0,a1,←hN,hG,flatten_single,bools_replicate,h27]
 refine aw_loop (W:=w103_2) rfl (fun m e ds s=>ds=[]∧∃(i:Nat) (cur:List Bool),i+m=RS.length∧cur.length=N∧markF cur (RS.drop i)=markF (List.replicate N false) RS∧s=st++[.cells none (bools cur)]∧AX.ev e (.t 19)=.int .i64 i) RS.length
  ⟨rfl,0,List.replicate N false,by simp,by simp,by simp,rfl,by simp [he]⟩ ?_
 rintro m e1 ds s hs ⟨rfl,i,cur,hm,hcl,hspec,rfl,g19⟩ K1 kn kx
 have he1:e1.length=60:=by simp [hs.1,he]
 have g5:=hs.ev 5 rfl (v:=.sl st.length 1 0 N (some N)) (by simp [he])
 have g17:=hs.ev 17 rfl (v:=.lst 1 (ints RS) (endAp RS.length)) (by simp [he])
 have g18:=hs.ev 18 rfl (v:=.int .i64 RS.length) (by simp [he,ints_length])
 have g2:=hs.ev 2 rfl (v:=.iptr p.av) (by simp [he,a0,Pg.av])
 simp only [Pg.av] at g2
 by_cases hi:i<RS.length
 ·have hgv:=ints_get hi
  obtain ⟨k0,hk0⟩:=Int.eq_ofNat_of_zero_le (hI _ (List.getElem_mem hi)).1
  have hkN:=(hI _ (List.getElem_mem hi)).2
  rw [drop_get hi,markF,List.foldl_cons] at hspec
  rw [hk0] at hgv hkN hspec
  have hkN':k0<N:=by omega
  have hbl:(bools cur).length=N:=by rw [bools_length,hcl]
  have w1:IntKind.i64.wrap ((i:Int)+1)=(i:Int)+1:=wrap_i64 (by omega) (by omega)
  have hle:k0+1≤N:=by omega
  simp [a103_2,g5,g17,g18,g19,he1,hi,hgv,hkN',w1,ints_length,hbl,hle,bools_set]
  exact kn (m-1) _ _ _ (by omega) ⟨rfl,i+1,cur.set k0 true,by omega,by simpa using hcl,by simpa [markF] using hspec,rfl,by simp [he1]⟩
 ·have hil:i=RS.length:=by omega
  rw [hil,List.drop_length] at hspec
  have hspec:cur=markF (List.replicate N false) RS:=hspec
  have w0:IntKind.i64.wrap ((N:Int)-1)=(N:Int)-1:=wrap_i64 (by omega) (by omega)
  simp [a103_2,g18,g19,he1,hi]
  refine kx _ _ _ _ nofun fun hs'=>?_
  clear kn kx hs hs'
  simp [he1,g5,w0]
  refine aw_loop (W:=w103_1) rfl (fun m e ds s=>ds=[]∧∃(bs:List Bool),m≤N∧bs.length=N∧downF p.xs m bs=downF p.xs N cur∧s=st++[.cells none (bools bs)]∧AX.ev e (.t 8)=.int .i64 ((m:Int)-1)) N
   ⟨rfl,cur,by omega,hcl,rfl,rfl,by simp [he1]⟩ ?_
  rintro m e2 ds s hs ⟨rfl,bs,hmN,hbl,hdn,rfl,g8⟩ K2 kn kx
  have he2:e2.length=60:=by simp [hs.1,he1]
  have g5:=hs.ev 5 rfl (v:=.sl st.length 1 0 N (some N)) (by simp [g5])
  have g2:=hs.ev 2 rfl (v:=.iptr p.av) (by simp [g2,Pg.av])
  simp only [Pg.av] at g2
  cases m with
  | zero =>
   simp [a103_1,g8,he2]
   refine kx _ _ _ _ nofun fun hs'=>?_
   have hfin:bs=downF p.xs N cur:=hdn
   simp [he2,g5]
   have hsl:AV.still st.length (st++[.cells none (bools bs)]) (.sl st.length 1 0 N (some N))=some (.lst 1 (bools bs) .no):=by
    have h1:group 1 false N (bools bs)=bools bs:=by have:=group_cell (bools bs);rwa [bools_length,hbl] at this
    simp [AV.still,bools_length,hbl,low_bools,h1]
   exact hK _ _ _ (.inl rfl) (by simp) ⟨_,rfl,by rw [←hspec,←hfin,←hsl];simp [he2,-AV.still]⟩
  | succ k =>
   have hk:k<p.xs.length:=by omega
   have hxo:=hp.ex _ (List.getElem_mem hk)
   have hAk:=hA k hk
   have hgx:p.xs.getD k ex0=p.xs[k]:=by simp [hk]
   have hcs:=xs_get hk
   rw [downF,hgx] at hdn
   generalize p.xs[k]=x at *
   have g8':AX.ev e2 (.t 8)=.int .i64 k:=by rw [g8];simp
   have h134:=parts2_call hxo (hst1 bs)
   have hpl:=partsF_len x hxo
   have hb:=bools_get (l:=bs) (i:=k) (by omega)
   have hk':(0:Int)≤(k:Int):=by omega
   have hkN:(k:Int)<(N:Int):=by omega
   have w1:IntKind.i64.wrap ((k:Int)-1)=(k:Int)-1:=wrap_i64 (by omega) (by omega)
   have hbk:bs[k]?=some (bs.getD k false):=by simp [show k<bs.length by omega]
   generalize bs.getD k false=b at *
   simp only [Ex.av,Ex.cs] at hcs h134
   generalize partsF x=ks at *
   simp [a103_1,g2,g8',he2,hk,hk',hcs,h134]
   cases b with
   | false =>
    have hdn:downF p.xs k bs=downF p.xs N cur:=by simpa using hdn
    refine aw_loop (W:=w103_0) rfl (fun m e ds s=>ds=[]∧∃(j:Nat),j+m=ks.length∧s=st++[.cells none (bools bs)]∧AX.ev e (.t 41)=.int .i64 j) ks.length ⟨rfl,0,by simp,rfl,by simp [he2]⟩ ?_
    rintro m3 e3 ds s hs3 ⟨rfl,j,hm3,rfl,g41⟩ K3 kn3 kx3
    have he3:e3.length=60:=by simp [hs3.1,he2]
    have g5:=hs3.ev 5 rfl (v:=.sl st.length 1 0 N (some N)) (by simp [g5])
    have g8:=hs3.ev 8 rfl (v:=.int .i64 k) (by simp [g8'])
    have g39:=hs3.ev 39 rfl (v:=.lst 1 (ints ks) (parts2Ap x)) (by simp [he2])
    have g40:=hs3.ev 40 rfl (v:=.int .i64 ks.length) (by simp [he2,ints_length])
    have hbl':(bools bs).length=N:=by rw [bools_length,hbl]
    by_cases hj:j<ks.length
    ·have hgv:=ints_get hj
     obtain ⟨k1,hk1⟩:=Int.eq_ofNat_of_zero_le (hAk _ (List.getElem_mem hj)).1
     have hkk:=(hAk _ (List.getElem_mem hj)).2
     rw [hk1] at hgv hkk
     have hk1N:k1<N:=by omega
     have hk1I:(k1:Int)<(N:Int):=by omega
     have hle:k1+1≤N:=by omega
     obtain ⟨_,hb1⟩:=List.getElem?_eq_some_iff.1 (bools_get (l:=bs) (i:=k1) (by omega))
     obtain ⟨_,hb0⟩:=List.getElem?_eq_some_iff.1 hb
     have hsame:(bools bs).set k1 (.bool (bs.getD k1 false))=bools bs:=set_same (bools_get (by omega))
     have w2:IntKind.i64.wrap ((j:Int)+1)=(j:Int)+1:=wrap_i64 (by omega) (by omega)
     generalize bs.getD k1 false=c at *
     cases c
     ·simp [a103_0,g5,g8,g39,g40,g41,he3,hj,hgv,hk1N,hk1I,hkN,hb1,hb,ints_length,hbl',hle,hsame,w2]
      exact kn3 (m3-1) _ _ _ (by omega) ⟨rfl,j+1,by omega,rfl,by simp [he3]⟩
     ·simp [a103_0,g5,g8,g39,g40,g41,he3,hj,hgv,hk1N,hk1I,hkN,hb1,hb,ints_length,hbl',hle,hsame,w2]
      exact kn3 (m3-1) _ _ _ (by omega) ⟨rfl,j+1,by omega,rfl,by simp [he3]⟩
    ·simp [a103_0,g40,g41,he3,hj]
     refine kx3 _ _ _ _ nofun fun hs'=>?_
     simp [he3,g8,w1]
     exact kn k _ _ _ (by omega) ⟨rfl,bs,by omega,hbl,hdn,rfl,by simp [he3]⟩
   | true =>
    simp at hdn
    refine aw_loop (W:=w103_0) rfl (fun m e ds s=>ds=[]∧∃(j:Nat) (cs:List Bool),j+m=ks.length∧cs.length=N∧cs[k]?=some true∧markF cs (ks.drop j)=markF bs ks∧s=st++[.cells none (bools cs)]∧AX.ev e (.t 41)=.int .i64 j) ks.length
     ⟨rfl,0,bs,by simp,hbl,hbk,by simp,rfl,by simp [he2]⟩ ?_
    rintro m3 e3 ds s hs3 ⟨rfl,j,cs,hm3,hcl3,hcsk,hmk,rfl,g41⟩ K3 kn3 kx3
    have he3:e3.length=60:=by simp [hs3.1,he2]
    have g5:=hs3.ev 5 rfl (v:=.sl st.length 1 0 N (some N)) (by simp [g5])
    have g8:=hs3.ev 8 rfl (v:=.int .i64 k) (by simp [g8'])
    have g39:=hs3.ev 39 rfl (v:=.lst 1 (ints ks) (parts2Ap x)) (by simp [he2])
    have g40:=hs3.ev 40 rfl (v:=.int .i64 ks.length) (by simp [he2,ints_length])
    have hcl3':(bools cs).length=N:=by rw [bools_length,hcl3]
    by_cases hj:j<ks.length
    ·have hgv:=ints_get hj
     obtain ⟨k1,hk1⟩:=Int.eq_ofNat_of_zero_le (hAk _ (List.getElem_mem hj)).1
     have hkk:=(hAk _ (List.getElem_mem hj)).2
     rw [drop_get hj,markF,List.foldl_cons] at hmk
     rw [hk1] at hgv hkk hmk
     have hk1N:k1<N:=by omega
     have hk1I:(k1:Int)<(N:Int):=by omega
     have hle:k1+1≤N:=by omega
     have hne:k1≠k:=by omega
     obtain ⟨_,hb1⟩:=List.getElem?_eq_some_iff.1 (bools_get (l:=cs) (i:=k1) (by omega))
     have hb3:(bools cs)[k]?=some (.bool true):=by simp [bools,hcsk]
     obtain ⟨_,hb0⟩:=List.getElem?_eq_some_iff.1 hb3
     have w2:IntKind.i64.wrap ((j:Int)+1)=(j:Int)+1:=wrap_i64 (by omega) (by omega)
     generalize cs.getD k1 false=c at *
     cases c
     ·simp [a103_0,g5,g8,g39,g40,g41,he3,hj,hgv,hk1N,hk1I,hkN,hb1,hb3,ints_length,hcl3',hle,bools_set,w2]
      exact kn3 (m3-1) _ _ _ (by omega) ⟨rfl,j+1,cs.set k1 true,by omega,by simpa using hcl3,by rw [List.getElem?_set_ne hne];exact hcsk,by simpa [markF] using hmk,rfl,by simp [he3]⟩
     ·simp [a103_0,g5,g8,g39,g40,g41,he3,hj,hgv,hk1N,hk1I,hkN,hb1,hb3,ints_length,hcl3',hle,bools_set,w2]
      exact kn3 (m3-1) _ _ _ (by omega) ⟨rfl,j+1,cs.set k1 true,by omega,by simpa using hcl3,by rw [List.getElem?_set_ne hne];exact hcsk,by simpa [markF] using hmk,rfl,by simp [he3]⟩
    ·have hjl:j=ks.length:=by omega
     rw [hjl,List.drop_length] at hmk
     simp [markF] at hmk
     simp [a103_0,g40,g41,he3,hj]
     refine kx3 _ _ _ _ nofun fun hs'=>?_
     simp [he3,g8,w1]
     exact kn k _ _ _ (by omega) ⟨rfl,cs,by omega,hcl3,by rw [hmk];simpa [markF] using hdn,rfl,by simp [he3]⟩
end Go.Proofs.YtefildelnccljaaGreat
namespace Go.Proofs.YtefildelnccljaaGreat
open Go Ai
theorem fn136:A.fn 136=some a136:=by kernel_rfl
theorem prim136:A.prim 136=none:=by kernel_rfl
def w136_0:List Nat:=a136_0.writes
theorem fn135:A.fn 135=some a135:=by kernel_rfl
theorem prim135:A.prim 135=none:=by kernel_rfl
def w135_0:List Nat:=a135_0.writes
theorem fn104:A.fn 104=some a104:=by kernel_rfl
theorem prim104:A.prim 104=none:=by kernel_rfl
def IterF (A:AProg) (g:FuncId) (cap:List AV) (L:List (List AV)):Prop :=
 ∀(r:Nat) (st0:St) (J:Nat→St→Prop),(∀i s,J i s→StOk s)→(∀i s s',J i s→Fit s s'→J i s') →
  (∀(i:Nat) (h:i<L.length) (s:St),J i s→∃s',runL A (.round r L[i]) s=some ⟨.ret,⟨[.bool true],[]⟩,s'⟩∧J (i+1) s')→J 0 st0 →
  ∃s3,runL A (.seqc g (.func (.yield r) [] []::cap)) st0=some ⟨.ret,⟨[.tup []],[]⟩,s3⟩∧J L.length s3
def pairs (l:List (Int×Int)):List (List AV):=l.map fun x=>[.int .i64 x.1,.int .i64 x.2]
def eachF (x:Ex) (t:Int):List (Int×Int):=(partsF x).map fun k=>(k,t)
theorem each136 {x:Ex} (hx:x.Ok) {t:Int} {r:Nat} {s0:St} {J:Nat→St→Prop} (hok:∀i s,J i s→StOk s) (off:Nat)
  (hr:∀(i:Nat) (h:i<(partsF x).length) (s:St),J (off+i) s→∃s',runL A (.round r [.int .i64 (partsF x)[i],.int .i64 t]) s=some ⟨.ret,⟨[.bool true],[]⟩,s'⟩∧J (off+i+1) s') (h0:J off s0) :
  ∃s3,runL A (.call 136 [x.av,.int .i64 t,.func (.yield r) [] []]) s0=some ⟨.ret,⟨[.tup []],[]⟩,s3⟩∧J (off+(partsF x).length) s3:=by
 refine Exists.elim (task_of_aw_keep_ex (A:=A) (f:=136) (F:=a136) (args:=[x.av,.int .i64 t,.func (.yield r) [] []]) (v:=.tup []) (N:=21) (st:=s0) (fun s=>J (off+(partsF x).length) s) prim136 fn136 rfl rfl ?_) fun st3 h=>⟨st3,h.2.1,h.1⟩
 intro e he ha K hK
 have a0:=ha 0
 have a1:=ha 1
 have a2:=ha 2
 clear ha
 simp [Ex.av,Ex.cs] at a0 a1 a2
 have h134:=parts2_call hx (hok _ _ h0)
 have hpl:=partsF_len x hx
 generalize partsF x=ks at *
 simp only [Ex.av,Ex.cs] at h134
 simp [a136,he,a0,a1,a2,h134]
 refine aw_loop (W:=w136_0) rfl (fun m e ds s=>ds=[]∧∃i:Nat,i+m=ks.length∧J (off+i) s∧AX.ev e (.t 11)=.int .i64 i) ks.length
  ⟨rfl,0,by simp,h0,by simp [he]⟩ ?_
 rintro m e1 ds s hs ⟨rfl,i,hm,hJ,g11⟩ K1 kn kx
 have he1:e1.length=21:=by simp [hs.1,he]
 have g1:=hs.ev 1 rfl (v:=.int .i64 t) (by simp [he,a1])
 have g2:=hs.ev 2 rfl (v:=.func (.yield r) [] []) (by simp [he,a2])
 have g9:=hs.ev 9 rfl (v:=.lst 1 (ints ks) (parts2Ap x)) (by simp [he])
 have g10:=hs.ev 10 rfl (v:=.int .i64 ks.length) (by simp [he,ints_length])
 by_cases hi:i<ks.length
 ·have hgv:=ints_get hi
  obtain ⟨s',h1,h2⟩:=hr i hi s hJ
  generalize ks[i]=k at *
  have w1:IntKind.i64.wrap ((i:Int)+1)=(i:Int)+1:=wrap_i64 (by omega) (by omega)
  simp [a136_0,g1,g2,g9,g10,g11,he1,hi,hgv,ints_length,h1,w1]
  exact kn (m-1) _ _ _ (by omega) ⟨rfl,i+1,by omega,h2,by simp [he1]⟩
 ·have hil:i=ks.length:=by omega
  simp [a136_0,g10,g11,he1,hi]
  refine kx _ _ _ _ nofun fun hs'=>?_
  simp
  exact hK _ _ _ (.inr rfl) (hil▸hJ) ⟨[],rfl,rfl⟩
def wantedF (p:Pg) (T:List Int) (x:Ex):List (Int×Int) :=
 if x.k=5∨x.k=13∨x.k=14 then eachF x 2
 else if x.k=4∨x.k=21∨x.k=6∨x.k=7∨x.k=8∨x.k=9∨x.k=10∨x.k=11 then eachF x 1
 else if x.k=12∨x.k=17∨x.k=18 then [(x.b,T.getD x.a.toNat 0)]
 else if x.k=15 then [(x.a,2),(x.c,T.getD x.b.toNat 0)]
 else if x.k=19 then (x.args.zip ((p.ds.getD (declF p x.n).toNat dc0).ps.map (·.t)))
 else []
theorem wanted104_call {p:Pg} (hp:p.Ok) {T:List Int} {ap:Ap} (hap:Still ap) {x:Ex} (hx:x.Ok) {st:St} (hst:StOk st):runL A (.call 104 [p.av,.lst 1 (ints T) ap,x.av]) st=some ⟨.ret,⟨[.func (.func 135) [] [.iptr x.av,.iptr (.lst 1 (ints T) ap),.iptr p.av]],[]⟩,st⟩:=by
 have hpl:=Pg.low hp st.length
 have hxl:=Ex.low hx st.length
 have hTl:AV.lowB st.length (.lst 1 (ints T) ap)=true:=by rw [low_lst hap,lows_ints]
 refine (task_of_aw (N:=8) prim104 fn104 rfl rfl hst ?_).1
 intro e he ha K hK
 have a0:=ha 0
 have a1:=ha 1
 have a2:=ha 2
 clear ha
 simp [Pg.av,Ex.av,Ex.cs] at a0 a1 a2
 simp only [Pg.av] at hpl
 simp only [Ex.cs] at hxl
 simp [a104,he,a0,a1,a2]
 refine hK _ _ _ (.inl rfl) (by simp) ⟨_,rfl,?_⟩
 have hv:AV.lowB st.length (.func (.func 135) [] [.iptr x.av,.iptr (.lst 1 (ints T) ap),.iptr p.av])=true:=by
  simp only [AV.lowB,AV.lowsB,Bool.and_true,Bool.true_and,Pg.av,Ex.av,Ex.cs] at hpl hxl hTl ⊢
  rw [hxl,hTl,hpl];rfl
 simp [he,Ex.av,Ex.cs,Pg.av,-AV.lowB]
 simpa [Ex.av,Ex.cs,Pg.av,-AV.lowB] using hv
set_option maxRecDepth 10000 in
set_option maxHeartbeats 4000000 in
theorem wanted135 {p:Pg} (hS:Sound p) {T:List Int} (hT:T.length=p.xs.length) {ap:Ap} {j:Nat} (hj:j<p.xs.length) (hw:p.xs[j].k=19→∃(n:Nat) (h:n<p.ds.length),declF p p.xs[j].n=n∧(p.ds[n]).ps.length=p.xs[j].args.length) :
  IterF A 135 [.iptr p.xs[j].av,.iptr (.lst 1 (ints T) ap),.iptr p.av] (pairs (wantedF p T p.xs[j])):=by
 have hp:=hS.ok
 have hxo:=hp.ex _ (List.getElem_mem hj)
 have hA:=hS.ahead j hj
 have hkd:=kinds_may hS hj
 generalize p.xs[j]=x at *
 intro r st0 J hok hfit hround h0
 refine Exists.elim (task_of_aw_keep_ex (A:=A) (f:=135) (F:=a135) (args:=[.func (.yield r) [] [],.iptr x.av,.iptr (.lst 1 (ints T) ap),.iptr p.av]) (v:=.tup []) (N:=84) (st:=st0) (fun s=>J (pairs (wantedF p T x)).length s) prim135 fn135 rfl rfl ?_) fun st3 h=>⟨st3,h.2.2,h.1⟩
 intro e he ha K hK
 have a0:=ha 0
 have a1:=ha 1
 have a2:=ha 2
 have a3:=ha 3
 clear ha
 simp [Pg.av,Ex.av,Ex.cs] at a0 a1 a2 a3
 have ech:∀t:Int,wantedF p T x=eachF x t→∃s3,runL A (.call 136 [x.av,.int .i64 t,.func (.yield r) [] []]) st0=some ⟨.ret,⟨[.tup []],[]⟩,s3⟩∧J (pairs (wantedF p T x)).length s3:=by
  intro t ht
  obtain ⟨s3,h1,h2⟩:=each136 hxo (t:=t) (r:=r) hok 0 (fun i hi s hJ=>by
   have:=hround i (by rw [ht];simpa [pairs,eachF] using hi) s (by simpa using hJ)
   simpa [ht,pairs,eachF] using this) h0
  exact ⟨s3,h1,by rw [ht];simpa [pairs,eachF] using h2⟩
 simp only [Ex.av,Ex.cs] at ech
 by_cases k5:x.k=5∨x.k=13∨x.k=14
 ·obtain ⟨s3,h1,h2⟩:=ech 2 (by rw [wantedF,if_pos k5])
  rcases (by omega:x.k=5∨(¬x.k=5∧x.k=13)∨(¬x.k=5∧¬x.k=13∧x.k=14)) with q | ⟨q1,q⟩ | ⟨q1,q2,q⟩
  ·simp [a135,he,a0,a1,a2,a3,eq_true q,h1]
   exact hK _ _ _ (.inr rfl) h2 ⟨[],rfl,rfl⟩
  ·simp [a135,he,a0,a1,a2,a3,q1,eq_true q,h1]
   exact hK _ _ _ (.inr rfl) h2 ⟨[],rfl,rfl⟩
  ·simp [a135,he,a0,a1,a2,a3,q1,q2,eq_true q,h1]
   exact hK _ _ _ (.inr rfl) h2 ⟨[],rfl,rfl⟩
 have n5:¬x.k=5:=by omega
 have n13:¬x.k=13:=by omega
 have n14:¬x.k=14:=by omega
 by_cases k4:x.k=4∨x.k=21∨x.k=6∨x.k=7∨x.k=8∨x.k=9∨x.k=10∨x.k=11
 ·obtain ⟨s3,h1,h2⟩:=ech 1 (by rw [wantedF,if_neg k5,if_pos k4])
  rcases (by omega:x.k=4∨(¬x.k=4∧x.k=21)∨(¬x.k=4∧¬x.k=21∧x.k=6)∨(¬x.k=4∧¬x.k=21∧¬x.k=6∧x.k=7)∨(¬x.k=4∧¬x.k=21∧¬x.k=6∧¬x.k=7∧x.k=8) ∨
   (¬x.k=4∧¬x.k=21∧¬x.k=6∧¬x.k=7∧¬x.k=8∧x.k=9)∨(¬x.k=4∧¬x.k=21∧¬x.k=6∧¬x.k=7∧¬x.k=8∧¬x.k=9∧x.k=10)∨(¬x.k=4∧¬x.k=21∧¬x.k=6∧¬x.k=7∧¬x.k=8∧¬x.k=9∧¬x.k=10∧x.k=11)) with
   q | ⟨q1,q⟩ | ⟨q1,q2,q⟩ | ⟨q1,q2,q3,q⟩ | ⟨q1,q2,q3,q4,q⟩ | ⟨q1,q2,q3,q4,q5,q⟩ | ⟨q1,q2,q3,q4,q5,q6,q⟩ | ⟨q1,q2,q3,q4,q5,q6,q7,q⟩
  ·simp [a135,he,a0,a1,a2,a3,n5,n13,n14,eq_true q,h1]
   exact hK _ _ _ (.inr rfl) h2 ⟨[],rfl,rfl⟩
  ·simp [a135,he,a0,a1,a2,a3,n5,n13,n14,q1,eq_true q,h1]
   exact hK _ _ _ (.inr rfl) h2 ⟨[],rfl,rfl⟩
  ·simp [a135,he,a0,a1,a2,a3,n5,n13,n14,q1,q2,eq_true q,h1]
   exact hK _ _ _ (.inr rfl) h2 ⟨[],rfl,rfl⟩
  ·simp [a135,he,a0,a1,a2,a3,n5,n13,n14,q1,q2,q3,eq_true q,h1]
   exact hK _ _ _ (.inr rfl) h2 ⟨[],rfl,rfl⟩
  ·simp [a135,he,a0,a1,a2,a3,n5,n13,n14,q1,q2,q3,q4,eq_true q,h1]
   exact hK _ _ _ (.inr rfl) h2 ⟨[],rfl,rfl⟩
  ·simp [a135,he,a0,a1,a2,a3,n5,n13,n14,q1,q2,q3,q4,q5,eq_true q,h1]
   exact hK _ _ _ (.inr rfl) h2 ⟨[],rfl,rfl⟩
  ·simp [a135,he,a0,a1,a2,a3,n5,n13,n14,q1,q2,q3,q4,q5,q6,eq_true q,h1]
   exact hK _ _ _ (.inr rfl) h2 ⟨[],rfl,rfl⟩
  ·simp [a135,he,a0,a1,a2,a3,n5,n13,n14,q1,q2,q3,q4,q5,q6,q7,eq_true q,h1]
   exact hK _ _ _ (.inr rfl) h2 ⟨[],rfl,rfl⟩
 have n4:¬x.k=4:=by omega
 have n21:¬x.k=21:=by omega
 have n6:¬x.k=6:=by omega
 have n7:¬x.k=7:=by omega
 have n8:¬x.k=8:=by omega
 have n9:¬x.k=9:=by omega
 have n10:¬x.k=10:=by omega
 have n11:¬x.k=11:=by omega
 have get:∀k:Int,0≤k→k<(j:Int)→∃m:Nat,k=m∧m<T.length∧∃h:m<(ints T).length,(ints T)[m]=.int .i64 (T.getD k.toNat 0):=by
  intro k h0 h1
  refine ⟨k.toNat,by omega,by omega,by rw [ints_length];omega,?_⟩
  have:k.toNat<T.length:=by omega
  rw [ints_get this];simp [this]
 by_cases k12:x.k=12∨x.k=17∨x.k=18
 ·have hpa:x.a∈partsF x:=by rcases k12 with h | h | h<;>simp [partsF,manyF,h]
  have ha:=hA _ hpa
  obtain ⟨m,hm,hmT,hml,hmg⟩:=get x.a ha.1 ha.2
  have hw1:wantedF p T x=[(x.b,T.getD x.a.toNat 0)]:=by rw [wantedF,if_neg k5,if_neg k4,if_pos k12]
  obtain ⟨s3,h1,h2⟩:=hround 0 (by rw [hw1];simp [pairs]) st0 h0
  simp only [hw1,pairs,List.map_cons,List.map_nil,List.getElem_cons_zero] at h1
  rw [hw1] at hK
  generalize T.getD x.a.toNat 0=V at *
  rw [hm] at a1
  rcases (by omega:x.k=12∨(¬x.k=12∧x.k=17)∨(¬x.k=12∧¬x.k=17∧x.k=18)) with q | ⟨q1,q⟩ | ⟨q1,q2,q⟩
  ·simp [a135,he,a0,a1,a2,a3,n5,n13,n14,n4,n21,n6,n7,n8,n9,n10,n11,eq_true q,hmT,ints_length,hmg,h1]
   exact hK _ _ _ (.inr rfl) (by simpa [pairs] using h2) ⟨[],rfl,rfl⟩
  ·simp [a135,he,a0,a1,a2,a3,n5,n13,n14,n4,n21,n6,n7,n8,n9,n10,n11,q1,eq_true q,hmT,ints_length,hmg,h1]
   exact hK _ _ _ (.inr rfl) (by simpa [pairs] using h2) ⟨[],rfl,rfl⟩
  ·simp [a135,he,a0,a1,a2,a3,n5,n13,n14,n4,n21,n6,n7,n8,n9,n10,n11,q1,q2,eq_true q,hmT,ints_length,hmg,h1]
   exact hK _ _ _ (.inr rfl) (by simpa [pairs] using h2) ⟨[],rfl,rfl⟩
 have n12:¬x.k=12:=by omega
 have n17:¬x.k=17:=by omega
 have n18:¬x.k=18:=by omega
 by_cases k15:x.k=15
 ·have hb:=hA _ (parts_k15 k15)
  obtain ⟨m,hm,hmT,hml,hmg⟩:=get x.b hb.1 hb.2
  have hw1:wantedF p T x=[(x.a,2),(x.c,T.getD x.b.toNat 0)]:=by rw [wantedF,if_neg k5,if_neg k4,if_neg k12,if_pos k15]
  obtain ⟨s3,h1,h2⟩:=hround 0 (by rw [hw1];simp [pairs]) st0 h0
  obtain ⟨s4,h3,h4⟩:=hround 1 (by rw [hw1];simp [pairs]) s3 h2
  simp only [hw1,pairs,List.map_cons,List.map_nil,List.getElem_cons_zero,List.getElem_cons_succ] at h1 h3
  rw [hw1] at hK
  generalize T.getD x.b.toNat 0=V at *
  rw [hm] at a1
  simp [a135,he,a0,a1,a2,a3,n5,n13,n14,n4,n21,n6,n7,n8,n9,n10,n11,n12,n17,n18,eq_true k15,hmT,ints_length,hmg,h1,h3]
  exact hK _ _ _ (.inr rfl) (by simpa [pairs] using h4) ⟨[],rfl,rfl⟩
 by_cases k19:x.k=19
 ·obtain ⟨n,hn,hdn,hpl⟩:=hw k19
  have h28:=declF_may hS (n:=x.n) (hok _ _ h0)
  have hdo:=hp.dc _ (List.getElem_mem hn)
  have hcd:=ds_get hn
  have hw1:wantedF p T x=x.args.zip (p.ds[n].ps.map (·.t)):=by rw [wantedF,if_neg k5,if_neg k4,if_neg k12,if_neg k15,if_pos k19,hdn];simp [hn]
  rw [hdn] at h28
  rw [hw1] at hround hK
  generalize p.ds[n]=D at *
  have hal:=hxo.args
  simp only [Pg.av] at h28
  simp only [Dc.cs] at hcd
  have hlenL:(pairs (x.args.zip (D.ps.map (·.t)))).length=x.args.length:=by simp [pairs];omega
  rw [hlenL] at hK
  simp [a135,he,a0,a1,a2,a3,n5,n13,n14,n4,n21,n6,n7,n8,n9,n10,n11,n12,n17,n18,k15,eq_true k19,h28,hn,hcd,Ai.beq_refl]
  refine aw_loop (W:=w135_0) rfl (fun m e ds s=>ds=[]∧∃i:Nat,i+m=D.ps.length∧J i s∧AX.ev e (.t 68)=.int .i64 i) D.ps.length
   ⟨rfl,0,by simp,h0,by simp [he]⟩ ?_
  rintro m e1 ds s hs ⟨rfl,i,hm,hJ,g68⟩ K1 kn kx
  have he1:e1.length=84:=by simp [hs.1,he]
  have g0:=hs.ev 0 rfl (v:=.func (.yield r) [] []) (by simp [he,a0])
  have g1:=hs.ev 1 rfl (v:=.iptr x.av) (by simp [he,a1,Ex.av,Ex.cs])
  have g66:=hs.ev 66 rfl (v:=.lst 2 (D.ps.map Pm.av) D.pap) (by simp [he])
  have g67:=hs.ev 67 rfl (v:=.int .i64 D.ps.length) (by simp [he])
  simp only [Ex.av,Ex.cs] at g1
  by_cases hi:i<D.ps.length
  ·have hia:i<x.args.length:=by omega
   obtain ⟨q,hq⟩:∃q,q=D.ps[i]:=⟨_,rfl⟩
   have hgq:(D.ps.map Pm.av)[i]'(by simpa using hi)=.agg [.str q.n,.int .i64 q.t]:=by simp [Pm.av,hq]
   have hga:=ints_get hia
   have hf1:Fit s (s++[.cells none [.str q.n,.int .i64 q.t]]):=(Fit.refl (hok _ _ hJ)).cells (by simp [AV.lowsB,AV.lowB])
   obtain ⟨s',h1,h2⟩:=hround i (by rw [hlenL];exact hia) _ (hfit _ _ _ hJ hf1)
   have hLi:(pairs (x.args.zip (D.ps.map (·.t))))[i]'(by rw [hlenL];exact hia)=[.int .i64 x.args[i],.int .i64 q.t]:=by simp [pairs,hq]
   rw [hLi] at h1
   generalize x.args[i]=u at *
   have w1:IntKind.i64.wrap ((i:Int)+1)=(i:Int)+1:=wrap_i64 (by omega) (by omega)
   simp [a135_0,g0,g1,g66,g67,g68,he1,hi,hia,hgq,hga,ints_length,h1,w1]
   exact kn (m-1) _ _ _ (by omega) ⟨rfl,i+1,by omega,h2,by simp [he1]⟩
  ·have hil:i=x.args.length:=by omega
   simp [a135_0,g67,g68,he1,hi]
   refine kx _ _ _ _ nofun fun hs'=>?_
   simp
   exact hK _ _ _ (.inr rfl) (hil▸hJ) ⟨[],rfl,rfl⟩
 have hw1:wantedF p T x=[]:=by rw [wantedF,if_neg k5,if_neg k4,if_neg k12,if_neg k15,if_neg k19]
 rw [hw1] at hK
 simp [a135,he,a0,a1,a2,a3,n5,n13,n14,n4,n21,n6,n7,n8,n9,n10,n11,n12,n17,n18,k15,k19]
 exact hK _ _ _ (.inr rfl) (by simpa [pairs] using h0) ⟨[],rfl,rfl⟩
end Go.Proofs.YtefildelnccljaaGreat
namespace Go.Proofs.YtefildelnccljaaGreat
open Go Ai
theorem fn101:A.fn 101=some a101:=by kernel_rfl
theorem prim101:A.prim 101=none:=by kernel_rfl
theorem fn102:A.fn 102=some a102:=by kernel_rfl
theorem prim102:A.prim 102=none:=by kernel_rfl
def w102_0:List Nat:=a102_0.writes
def ats5 (l:List Int):List Fa:=l.map fun a=>(5,a)
theorem ats5_len (l:List Int):(ats5 l).length=l.length:=by simp [ats5]
structure Frm (c:Nat) (s s':St):Prop where
 len:s.length≤s'.length
 same:∀(j:Nat) (o:AObj),j≠c→(∀m n ty,o≠.tok m n ty)→s[j]?=some o→s'[j]?=some o
theorem Frm.refl (c:Nat) (s:St):Frm c s s:=⟨Nat.le_refl _,fun _ _ _ _ h=>h⟩
theorem Frm.trans {c:Nat} {a b d:St} (h:Frm c a b) (g:Frm c b d):Frm c a d:=⟨Nat.le_trans h.len g.len,fun j o h1 h2 h3=>g.same j o h1 h2 (h.same j o h1 h2 h3)⟩
theorem Frm.fit {c:Nat} {a b:St} (h:Fit a b):Frm c a b:=⟨h.len,fun _ _ _ _ g=>h.get g⟩
structure W8 (st:St) (acc:List Int) (s:St):Prop where
 out:∃ap,s[st.length]?=some (.cells none [.lst 2 (fls (ats5 acc)) ap])∧Own s (st.length+1) 2 (some 27) ap acc.length
 take:s.take st.length=st
 ok:StOk s
theorem W8.lt {st:St} {acc:List Int} {s:St} (h:W8 st acc s):st.length<s.length:=by obtain ⟨ap,h1,_⟩:=h.out;exact (List.getElem?_eq_some_iff.1 h1).1
theorem W8.fit {st:St} {acc:List Int} {s s':St} (h:W8 st acc s) (hf:Fit s s'):W8 st acc s':=by
 obtain ⟨ap,h1,h2⟩:=h.out
 refine ⟨⟨ap,hf.get h1,?_⟩,?_,hf.ok⟩
 ·rcases h2 with h2 | ⟨a,id,b,c,d⟩
  ·exact .inl h2
  ·exact .inr ⟨a,id,b,c,hf.get d⟩
 ·have h3:=congrArg (List.take st.length) hf.take
  rw [List.take_take,Nat.min_eq_left (Nat.le_of_lt h.lt),h.take] at h3
  exact h3
def badW (p:Pg) (T:List Int) (x:Int×Int):List Int:=if T.getD x.1.toNat 0=x.2 then [] else [(p.xs.getD x.1.toNat ex0).p]
theorem badW_len (p:Pg) (T:List Int) (x:Int×Int):(badW p T x).length≤1:=by unfold badW;split<;>simp
theorem want101 {p:Pg} (hp:p.Ok) {T:List Int} (hT:T.length=p.xs.length) {apT:Ap} {st:St} {acc:List Int} {s:St} (hW:W8 st acc s) (hm:acc.length≤4000000) {c6:Nat} (hc:c6≠st.length) (h6:s[c6]?=some (.cells none [.lst 1 (ints T) apT]))
  {x:Int×Int} (hx0:0≤x.1) (hx1:x.1<(p.xs.length:Int)) :
  ∃s',runL A (.call 101 [.int .i64 x.1,.int .i64 x.2,.ptr c6 0,.ptr st.length 0,.iptr p.av]) s=some ⟨.ret,⟨[.tup []],[]⟩,s'⟩∧W8 st (acc++badW p T x) s'∧Frm st.length s s':=by
 refine Exists.elim (task_of_aw_keep_ex (A:=A) (f:=101) (F:=a101) (args:=[.int .i64 x.1,.int .i64 x.2,.ptr c6 0,.ptr st.length 0,.iptr p.av]) (v:=.tup []) (N:=23) (st:=s) (fun s'=>W8 st (acc++badW p T x) s'∧Frm st.length s s') prim101 fn101 rfl rfl ?_) fun st3 h=>⟨st3,h.2.1,h.1⟩
 intro e he ha K hK
 have a0:=ha 0
 have a1:=ha 1
 have a2:=ha 2
 have a3:=ha 3
 have a4:=ha 4
 clear ha
 obtain ⟨k,hk⟩:=Int.eq_ofNat_of_zero_le hx0
 have hkN:k<p.xs.length:=by omega
 have hkT:k<T.length:=by omega
 simp [Pg.av] at a0 a1 a2 a3 a4
 rw [hk] at a0
 have hgT:(ints T)[k]'(by rw [ints_length];exact hkT)=.int .i64 (T.getD x.1.toNat 0):=by rw [ints_get hkT,hk];simp [hkT]
 have hbad:badW p T x=if T.getD x.1.toNat 0=x.2 then [] else [p.xs[k].p]:=by rw [badW,hk];simp [hkN]
 have hcs:=xs_get hkN
 generalize T.getD x.1.toNat 0=V at *
 generalize p.xs[k]=X at *
 simp only [Ex.cs] at hcs
 by_cases hV:V=x.2
 ·have hb:badW p T x=[]:=by rw [hbad,if_pos hV]
  rw [hb] at hK
  simp [a101,he,a0,a1,a2,a3,a4,h6,ints_length,hkT,hgT,hV]
  exact hK _ _ _ (.inr rfl) ⟨by simpa using hW,Frm.refl _ _⟩ ⟨[],rfl,rfl⟩
 ·have hb:badW p T x=[X.p]:=by rw [hbad,if_neg hV]
  rw [hb] at hK
  obtain ⟨ap,ho,how⟩:=hW.out
  have hww:=how.weak
  rw [←ats5_len acc,←fls_length] at hww
  obtain ⟨ap',s1,hap,ho',hg,_⟩:=append_own (bytes:=16) (ap0:=.tight) (ys:=[fl (5,X.p)]) (es:=fls (ats5 acc)) (b:=st.length+1) hW.lt hww (by simp) (by simp [Ai.great,fls_length,ats5_len];omega) (by omega)
  have hsd:=append_steady (b:=0) hap
  have e1:fls (ats5 acc)++[fl (5,X.p)]=fls (ats5 (acc++[X.p])):=by simp [fls,ats5]
  rw [e1] at hap ho'
  have hok1:=hg.ok hW.ok
  have hlow:AV.lowB s1.length (.lst 2 (fls (ats5 (acc++[X.p]))) ap')=true:=own_low ho'.weak (lows_fls _ _)
  have hlow1:AObj.lowB s1.length (.cells none [.lst 2 (fls (ats5 (acc++[X.p]))) ap'])=true:=by rw [AObj.lowB,AV.lowsB,AV.lowsB,hlow];rfl
  have ho1:s1[st.length]?=some (.cells none [.lst 2 (fls (ats5 acc)) ap]):=hsd _ _ (Nat.zero_le _) nofun ho
  have hlt1:=(List.getElem?_eq_some_iff.1 ho1).1
  have hown:=ho'.set (i:=st.length) (o:=.cells none [.lst 2 (fls (ats5 (acc++[X.p]))) ap']) (by omega)
  rw [fls_length,ats5_len] at hown
  have hW':W8 st (acc++[X.p]) (s1.set st.length (.cells none [.lst 2 (fls (ats5 (acc++[X.p]))) ap'])):=by
   refine ⟨⟨ap',by rw [List.getElem?_set_self hlt1],hown⟩,?_,hok1.set' hlow1⟩
   have:=congrArg (List.take st.length) hg.take
   rw [List.take_take,List.take_take,Nat.min_eq_left (by omega),hW.take] at this
   rw [List.take_set,List.set_eq_of_length_le (by simp;omega),this]
  have hF:Frm st.length s (s1.set st.length (.cells none [.lst 2 (fls (ats5 (acc++[X.p]))) ap'])) :=
   ⟨by have:=hg.len;simpa using this,fun j o h1 h2 h3=>by rw [List.getElem?_set_ne (fun h=>h1 h.symm)];exact hsd j o (Nat.zero_le _) h2 h3⟩
  have hfl:fl (5,X.p)=.agg [.int .i64 5,.int .i64 X.p]:=rfl
  rw [hfl] at hap
  simp [a101,he,a0,a1,a2,a3,a4,h6,ints_length,hkT,hgT,hV,hkN,hcs,ho,hap,ho1]
  exact hK _ _ _ (.inr rfl) ⟨hW',hF⟩ ⟨[],rfl,rfl⟩
def itemW (vs:List Vr) (x:It):List (Int×Int) :=
 if x.k=1∨x.k=4 then [(x.e,x.t)] else if x.k=2∨x.k=3 then [(x.e,1),(x.f,1)] else if x.k=5 then [(x.e,tyN vs x.n),(x.f,1)] else if x.k=7 then [(x.f,1)] else []
def topsF (D:Dc) (vs:List Vr):List (Int×Int):=D.its.flatMap (itemW vs)++(if D.k=3 then [] else [(D.e,D.t)])
theorem itemW_in (vs:List Vr) {x:It} {y:Int×Int} (h:y∈itemW vs x):y.1∈rootsJ x:=by
 unfold itemW at h
 by_cases h1:x.k=1∨x.k=4
 ·rw [if_pos h1] at h;simp at h;subst h
  have:x.k≤5:=by omega
  simp [rootsJ,this]
 by_cases h2:x.k=2∨x.k=3
 ·rw [if_neg h1,if_pos h2] at h
  have h5:x.k≤5:=by omega
  have hF:hasF x.k=true:=by rcases h2 with h | h<;>simp [hasF,h]
  simp at h;rcases h with rfl | rfl<;>simp [rootsJ,h5,hF]
 by_cases h5:x.k=5
 ·rw [if_neg h1,if_neg h2,if_pos h5] at h
  have hF:hasF x.k=true:=by simp [hasF,h5]
  have h5':x.k≤5:=by omega
  simp at h;rcases h with rfl | rfl<;>simp [rootsJ,h5',hF]
 by_cases h7:x.k=7
 ·rw [if_neg h1,if_neg h2,if_neg h5,if_pos h7] at h
  have hF:hasF x.k=true:=by simp [hasF,h7]
  simp at h;subst h;simp [rootsJ,hF]
 rw [if_neg h1,if_neg h2,if_neg h5,if_neg h7] at h
 simp at h
theorem itemW_len (vs:List Vr) (x:It):(itemW vs x).length≤2:=by
 unfold itemW
 by_cases h1:x.k=1∨x.k=4
 ·rw [if_pos h1];simp
 by_cases h2:x.k=2∨x.k=3
 ·rw [if_neg h1,if_pos h2];simp
 by_cases h5:x.k=5
 ·rw [if_neg h1,if_neg h2,if_pos h5];simp
 by_cases h7:x.k=7
 ·rw [if_neg h1,if_neg h2,if_neg h5,if_pos h7];simp
 rw [if_neg h1,if_neg h2,if_neg h5,if_neg h7];simp
set_option maxHeartbeats 4000000 in
theorem tops102 {p:Pg} (hS:Sound p) {T:List Int} (hT:T.length=p.xs.length) {apT:Ap} {st:St} {i:Nat} (hi:i<p.ds.length) {acc:List Int} {s:St} (hW:W8 st acc s) (hm:acc.length+2 * p.ds[i].its.length+1≤4000000) {c6:Nat} (hc:c6≠st.length) (h6:s[c6]?=some (.cells none [.lst 1 (ints T) apT])) :
  ∃s',runL A (.call 102 [p.av,.int .i64 i,.func (.func 101) [] [.ptr c6 0,.ptr st.length 0,.iptr p.av]]) s=some ⟨.ret,⟨[.tup []],[]⟩,s'⟩∧W8 st (acc++(topsF p.ds[i] (varsF p.ds[i])).flatMap (badW p T)) s'∧Frm st.length s s':=by
 have hp:=hS.ok
 have hth:thereF p i=true:=by simp [thereF,hS.may,hi]
 have hvp:varsP p i=varsF p.ds[i]:=by simp [varsP,hth]
 obtain ⟨es,s1,h106,hf1,hm1,hget⟩:=scope8_call hp (d:=i) (vars_len hp i) hW.ok
 rw [hvp] at hget
 have hcd:=ds_get hi
 have hdo:=hp.dc _ (List.getElem_mem hi)
 have hI:=hS.inside _ (List.getElem_mem hi)
 generalize p.ds[i]=D at *
 have hits:=hdo.its
 have hW1:=hW.fit hf1
 have h61:=hf1.get h6
 have hl:=hW.lt
 refine Exists.elim (task_of_aw_keep_ex (A:=A) (f:=102) (F:=a102) (args:=[p.av,.int .i64 i,.func (.func 101) [] [.ptr c6 0,.ptr st.length 0,.iptr p.av]]) (v:=.tup []) (N:=87) (st:=s) (fun s'=>W8 st (acc++(topsF D (varsF D)).flatMap (badW p T)) s'∧Frm st.length s s') prim102 fn102 rfl rfl ?_) fun st3 h=>⟨st3,h.2.1,h.1⟩
 intro e he ha K hK
 have a0:=ha 0
 have a1:=ha 1
 have a2:=ha 2
 clear ha
 simp only [Pg.av] at h106
 simp only [Dc.cs] at hcd
 simp [Pg.av] at a0 a1 a2
 simp [a102,he,a0,a1,a2,h106,hi,hcd]
 refine aw_loop (W:=w102_0) rfl (fun m e ds s'=>ds=[]∧∃(k:Nat) (ac:List Int),k+m=D.its.length∧ac.length≤acc.length+2 * k∧ac++((D.its.drop k).flatMap (itemW (varsF D))).flatMap (badW p T)=acc++(D.its.flatMap (itemW (varsF D))).flatMap (badW p T) ∧
   W8 st ac s'∧Frm st.length s s'∧s'[s.length]?=some (.map (encM AV.str (.int .i64) es))∧AX.ev e (.t 19)=.int .i64 k) D.its.length
  ⟨rfl,0,acc,by simp,by simp,by simp,hW1,Frm.fit hf1,hm1,by simp [he]⟩ ?_
 rintro m e1 ds s2 hs ⟨rfl,k,ac,hmk,hal,hac,hW2,hF2,hm2,g19⟩ K1 kn kx
 have he1:e1.length=87:=by simp [hs.1,he]
 have g1:=hs.ev 1 rfl (v:=.int .i64 i) (by simp [he,a1])
 have g2:=hs.ev 2 rfl (v:=.func (.func 101) [] [.ptr c6 0,.ptr st.length 0,.iptr p.av]) (by simp [he,a2,Pg.av])
 have g3:=hs.ev 3 rfl (v:=.iptr p.av) (by simp [he,a0,Pg.av])
 have g6:=hs.ev 6 rfl (v:=.map s.length) (by simp [he])
 have g17:=hs.ev 17 rfl (v:=.lst 9 (D.its.map It.av) D.iap) (by simp [he])
 have g18:=hs.ev 18 rfl (v:=.int .i64 D.its.length) (by simp [he])
 simp only [Pg.av] at g3 g2
 have h62:=hF2.same _ _ hc (by intro _ _ _ h;cases h) h6
 by_cases hk:k<D.its.length
 ·obtain ⟨x,hx⟩:∃x,x=D.its[k]:=⟨_,rfl⟩
  have hxm:x∈D.its:=by rw [hx];exact List.getElem_mem hk
  have hxo:=hdo.item _ hxm
  have hgx:(D.its.map It.av)[k]'(by simpa using hk)=.agg x.cs:=by simp [It.av,hx]
  rw [drop_get hk,←hx,List.flatMap_cons,List.flatMap_append,←List.append_assoc] at hac
  have hf3:Fit s2 (s2++[.cells none x.cs]):=(Fit.refl hW2.ok).cells (It.low hxo _)
  have hW3:=hW2.fit hf3
  have hm3:=hf3.get hm2
  have h63:=hf3.get h62
  have hF3:=hF2.trans (Frm.fit hf3)
  have hgo:(s2++[.cells none x.cs])[s2.length]?=some (.cells none x.cs):=by simp
  have hlt2:=hW2.lt
  have inR:∀y∈itemW (varsF D) x,0≤y.1∧y.1<(p.xs.length:Int):=fun y hy=>hI y.1 (by
   rw [rootsN,List.mem_append];left;exact List.mem_flatMap.2 ⟨x,hxm,itemW_in _ hy⟩)
  have hgetA:=get_enc (K:=AV.str) (V:=.int .i64) key_str x.n es
  have eA:((getM x.n es).map (AV.int .i64)).getD (.int .i64 0)=.int .i64 (tyN (varsF D) x.n):=by rw [←hget x.n];cases getM x.n es<;>rfl
  have hil:=itemW_len (varsF D) x
  have w1:IntKind.i64.wrap ((k:Int)+1)=(k:Int)+1:=wrap_i64 (by omega) (by omega)
  have nx:∀e2 s5 L,L=itemW (varsF D) x→AX.ev e2 (.t 19)=.int .i64 (k+1)→W8 st (ac++L.flatMap (badW p T)) s5→Frm st.length (s2++[.cells none x.cs]) s5→K1 .nrm e2 [] s5:=by
   intro e2 s5 L hL h1 h2 h3
   subst hL
   have hb:((itemW (varsF D) x).flatMap (badW p T)).length≤2:=by
    have:∀l:List (Int×Int),(l.flatMap (badW p T)).length≤l.length:=by
     intro l
     induction l with
     | nil=>simp
     | cons y l ih=>have:=badW_len p T y;simp only [List.flatMap_cons,List.length_append,List.length_cons];omega
    have:=this (itemW (varsF D) x);omega
   exact kn (m-1) _ _ _ (by omega) ⟨rfl,k+1,_,by omega,by simp only [List.length_append];omega,hac,h2,hF3.trans h3,h3.same _ _ (by omega) nofun hm3,by simpa using h1⟩
  have one:∀(y:Int×Int) (ac':List Int) (s5:St),y∈itemW (varsF D) x→ac'.length≤4000000→W8 st ac' s5→Frm st.length (s2++[.cells none x.cs]) s5 →
    ∃s6,runL A (.call 101 [.int .i64 y.1,.int .i64 y.2,.ptr c6 0,.ptr st.length 0,.iptr p.av]) s5=some ⟨.ret,⟨[.tup []],[]⟩,s6⟩∧W8 st (ac'++badW p T y) s6∧Frm st.length (s2++[.cells none x.cs]) s6∧s6[s2.length]?=some (.cells none x.cs)∧s6[s.length]?=some (.map (encM AV.str (.int .i64) es)):=by
   intro y ac' s5 hy hl' hW5 hF5
   obtain ⟨s6,q1,q2,q3⟩:=want101 hp hT hW5 hl' hc (hF5.same _ _ hc nofun h63) (x:=y) (inR y hy).1 (inR y hy).2
   have hF6:=hF5.trans q3
   exact ⟨s6,q1,q2,hF6,hF6.same _ _ (by omega) nofun hgo,hF6.same _ _ (by omega) nofun hm3⟩
  clear kn kx hac
  have hacb:ac.length+2≤4000000:=by omega
  simp only [It.cs,Pg.av] at hgx hm3 h63 hgo nx one hW3
  by_cases k1:x.k=1∨x.k=4
  ·have hw:itemW (varsF D) x=[(x.e,x.t)]:=by rw [itemW,if_pos k1]
   obtain ⟨s6,q1,q2,q3,_,_⟩:=one (x.e,x.t) ac _ (by rw [hw];simp) (by omega) hW3 (Frm.refl _ _)
   rcases (by omega:x.k=1∨(¬x.k=1∧x.k=4)) with q | ⟨r1,q⟩
   ·simp [a102_0,g2,g6,g17,g18,g19,he1,hk,hgx,eq_true q,q1,w1]
    exact nx _ _ _ hw.symm (by simp [he1]) (by simpa using q2) q3
   ·simp [a102_0,g2,g6,g17,g18,g19,he1,hk,hgx,r1,eq_true q,q1,w1]
    exact nx _ _ _ hw.symm (by simp [he1]) (by simpa using q2) q3
  have n1:¬x.k=1:=by omega
  have n4:¬x.k=4:=by omega
  by_cases k2:x.k=2∨x.k=3
  ·have hw:itemW (varsF D) x=[(x.e,1),(x.f,1)]:=by rw [itemW,if_neg k1,if_pos k2]
   obtain ⟨s6,q1,q2,q3,q4,_⟩:=one (x.e,1) ac _ (by rw [hw];simp) (by omega) hW3 (Frm.refl _ _)
   obtain ⟨s7,r1,r2,r3,_,_⟩:=one (x.f,1) _ s6 (by rw [hw];simp) (by have:=badW_len p T (x.e,1);simp only [List.length_append];omega) q2 q3
   rcases (by omega:x.k=2∨(¬x.k=2∧x.k=3)) with q | ⟨t1,q⟩
   ·simp [a102_0,g2,g6,g17,g18,g19,he1,hk,hgx,n1,n4,eq_true q,q1,q4,r1,w1]
    exact nx _ _ _ hw.symm (by simp [he1]) (by simpa using r2) r3
   ·simp [a102_0,g2,g6,g17,g18,g19,he1,hk,hgx,n1,n4,t1,eq_true q,q1,q4,r1,w1]
    exact nx _ _ _ hw.symm (by simp [he1]) (by simpa using r2) r3
  have n2:¬x.k=2:=by omega
  have n3:¬x.k=3:=by omega
  by_cases k5:x.k=5
  ·have hw:itemW (varsF D) x=[(x.e,tyN (varsF D) x.n),(x.f,1)]:=by rw [itemW,if_neg k1,if_neg k2,if_pos k5]
   obtain ⟨s6,q1,q2,q3,q4,_⟩:=one (x.e,tyN (varsF D) x.n) ac _ (by rw [hw];simp) (by omega) hW3 (Frm.refl _ _)
   obtain ⟨s7,r1,r2,r3,_,_⟩:=one (x.f,1) _ s6 (by rw [hw];simp) (by have:=badW_len p T (x.e,tyN (varsF D) x.n);simp only [List.length_append];omega) q2 q3
   simp [a102_0,g2,g6,g17,g18,g19,he1,hk,hgx,n1,n4,n2,n3,eq_true k5,-opA_lookup,opA_lookup',mapOf,keyKind,hm3,hgetA,-Option.getD_map,eA,q1,q4,r1,w1]
   exact nx _ _ _ hw.symm (by simp [he1]) (by simpa using r2) r3
  by_cases k7:x.k=7
  ·have hw:itemW (varsF D) x=[(x.f,1)]:=by rw [itemW,if_neg k1,if_neg k2,if_neg k5,if_pos k7]
   obtain ⟨s6,q1,q2,q3,q4,_⟩:=one (x.f,1) ac _ (by rw [hw];simp) (by omega) hW3 (Frm.refl _ _)
   simp [a102_0,g2,g6,g17,g18,g19,he1,hk,hgx,n1,n4,n2,n3,k5,eq_true k7,q1,w1]
   exact nx _ _ _ hw.symm (by simp [he1]) (by simpa using q2) q3
  have hw:itemW (varsF D) x=[]:=by rw [itemW,if_neg k1,if_neg k2,if_neg k5,if_neg k7]
  simp [a102_0,g2,g6,g17,g18,g19,he1,hk,hgx,n1,n4,n2,n3,k5,k7,w1]
  exact nx _ _ _ hw.symm (by simp [he1]) (by simpa using hW3) (Frm.refl _ _)
 ·have hkl:k=D.its.length:=by omega
  rw [hkl,List.drop_length] at hac
  have hac:ac=acc++(D.its.flatMap (itemW (varsF D))).flatMap (badW p T):=by rw [←hac];simp
  simp [a102_0,g18,g19,he1,hk]
  refine kx _ _ _ _ nofun fun hs'=>?_
  rcases Classical.propComplete (D.k=3) with k3 | k3
  ·have ht:topsF D (varsF D)=D.its.flatMap (itemW (varsF D)):=by simp [topsF,of_eq_true k3]
   rw [ht] at hK
   simp [he1,g1,g3,hi,hcd,k3]
   exact hK _ _ _ (.inr rfl) ⟨by rw [←hac];exact hW2,hF2⟩ ⟨[],rfl,rfl⟩
  ·have hk3:¬D.k=3:=of_eq_false k3
   have ht:topsF D (varsF D)=D.its.flatMap (itemW (varsF D))++[(D.e,D.t)]:=by simp [topsF,hk3]
   rw [ht] at hK
   have hin:=hI D.e (by rw [rootsN,List.mem_append];right;simp [hk3])
   obtain ⟨s6,q1,q2,q3⟩:=want101 hp hT hW2 (by omega) hc h62 (x:=(D.e,D.t)) hin.1 hin.2
   simp only [Pg.av] at q1
   simp [he1,g1,g2,g3,hi,hcd,k3,q1]
   exact hK _ _ _ (.inr rfl) ⟨by rw [List.flatMap_append,←List.append_assoc,←hac];simpa using q2,hF2.trans q3⟩ ⟨[],rfl,rfl⟩
end Go.Proofs.YtefildelnccljaaGreat
namespace Go.Proofs.YtefildelnccljaaGreat
open Go Ai
theorem fn65:A.fn 65=some a65:=by kernel_rfl
theorem prim65:A.prim 65=none:=by kernel_rfl
def w65_0:List Nat:=a65_0.writes
def w65_1:List Nat:=a65_1.writes
theorem fn35:A.fn 35=some a35:=by kernel_rfl
theorem prim35:A.prim 35=none:=by kernel_rfl
theorem fn37:A.fn 37=some a37:=by kernel_rfl
theorem prim37:A.prim 37=none:=by kernel_rfl
def DOk (b:Nat) (ds:List ADef) (s:St):Prop:=∃rs:List Nat,ds=rs.map .collected∧rs.Nodup∧∀r∈rs,b≤r∧s[r]?=some (.defr (some []))
theorem DOk.nil {b:Nat} {s:St}:DOk b [] s:=⟨[],rfl,.nil,by simp⟩
theorem DOk.frm {b c:Nat} {ds:List ADef} {s s':St} (h:DOk b ds s) (hf:Frm c s s') (hc:c<b):DOk b ds s':=by
 obtain ⟨rs,h1,h2,h3⟩:=h
 exact ⟨rs,h1,h2,fun r hr=>⟨(h3 r hr).1,hf.same _ _ (by have:=(h3 r hr).1;omega) nofun (h3 r hr).2⟩⟩
theorem DOk.cons {b:Nat} {ds:List ADef} {s:St} (h:DOk b ds s) {r:Nat} (hb:b≤r) (hr:s[r]?=some (.defr (some []))) (hn:∀q∈ds,q≠.collected r):DOk b (.collected r::ds) s:=by
 obtain ⟨rs,rfl,h2,h3⟩:=h
 refine ⟨r::rs,rfl,List.nodup_cons.2 ⟨fun hm=>hn _ (List.mem_map_of_mem hm) rfl,h2⟩,fun q hq=>?_⟩
 rcases List.mem_cons.1 hq with rfl | hq
 ·exact ⟨hb,hr⟩
 ·exact h3 q hq
theorem DOk.run {b:Nat}:∀{ds:List ADef} {s:St},DOk b ds s→∃s',runDefs ds s=some s'∧s'.take b=s.take b:=by
 rintro ds s ⟨rs,rfl,h2,h3⟩
 induction rs generalizing s with
 | nil=>exact ⟨s,rfl,rfl⟩
 | cons r rs ih =>
  obtain ⟨hn,h2⟩:=List.nodup_cons.1 h2
  have hr:=h3 r (by simp)
  obtain ⟨s',q1,q2⟩:=ih (s:=s.set r (.defr none)) h2 fun q hq=>⟨(h3 q (by simp [hq])).1,by rw [List.getElem?_set_ne (by intro h;subst h;exact hn hq)];exact (h3 q (by simp [hq])).2⟩
  refine ⟨s',?_,?_⟩
  ·rw [List.map_cons,runDefs];simp only [hr.2];exact q1
  ·rw [q2,List.take_set];exact List.set_eq_of_length_le (by simp;omega)
theorem W8.setLoop {st:St} {acc:List Int} {s:St} (h:W8 st acc s) {r:Nat} {o o':AObj} (hr:s[r]?=some o) (hn:∀m n ty,o≠.tok m n ty) (hr0:st.length<r) (ho:AObj.lowB s.length o'=true):W8 st acc (s.set r o'):=by
 obtain ⟨ap,h1,h2⟩:=h.out
 refine ⟨⟨ap,by rw [List.getElem?_set_ne (by omega)];exact h1,?_⟩,?_,h.ok.set' ho⟩
 ·rcases h2 with h2 | ⟨a,id,b,c,d⟩
  ·exact .inl h2
  ·refine .inr ⟨a,id,b,c,?_⟩
   rw [List.getElem?_set_ne (fun e=>by rw [←e,hr] at d;cases d;exact hn _ _ _ rfl)];exact d
 ·rw [List.take_set,List.set_eq_of_length_le (by simp;omega)];exact h.take
def reachW (p:Pg) (T:List Int):List Bool→List Ex→List Int
 | b::bs,x::xs=>(if b then (wantedF p T x).flatMap (badW p T) else [])++reachW p T bs xs
 | _,_=>[]
def declT (p:Pg) (D:Dc):List Int:=(topsF D (varsF D)).flatMap (badW p (tysF p (varsF D)))++reachW p (tysF p (varsF D)) (reachF p (rootsN D)) p.xs
def allT (p:Pg):List Int:=p.ds.flatMap (declT p)
theorem wantedF_in {p:Pg} {T:List Int} {x:Ex} {y:Int×Int} (h:y∈wantedF p T x):y.1∈partsF x:=by
 unfold wantedF at h
 have he:∀t,y∈eachF x t→y.1∈partsF x:=by intro t h;obtain ⟨k,hk,rfl⟩:=List.mem_map.1 h;exact hk
 by_cases h1:x.k=5∨x.k=13∨x.k=14
 ·rw [if_pos h1] at h;exact he _ h
 by_cases h2:x.k=4∨x.k=21∨x.k=6∨x.k=7∨x.k=8∨x.k=9∨x.k=10∨x.k=11
 ·rw [if_neg h1,if_pos h2] at h;exact he _ h
 by_cases h3:x.k=12∨x.k=17∨x.k=18
 ·rw [if_neg h1,if_neg h2,if_pos h3] at h;simp at h;subst h
  rcases h3 with h | h | h<;>simp [partsF,manyF,h]
 by_cases h4:x.k=15
 ·rw [if_neg h1,if_neg h2,if_neg h3,if_pos h4] at h;simp at h
  rcases h with rfl | rfl<;>simp [partsF,manyF,h4]
 by_cases h5:x.k=19
 ·rw [if_neg h1,if_neg h2,if_neg h3,if_neg h4,if_pos h5] at h
  have:=(List.of_mem_zip (show (y.1,y.2)∈_ from h)).1
  simp [partsF,manyF,h5];exact this
 rw [if_neg h1,if_neg h2,if_neg h3,if_neg h4,if_neg h5] at h;simp at h
theorem exprs_nil {p:Pg} {d:Dc}:∀{bs:List Bool} {xs:List Ex},exprsF p d bs xs=[]→∀(j:Nat) (h1:j<bs.length) (h2:j<xs.length),bs[j]=true→wrongExprF p d xs[j]=false
 | b::bs,x::xs,h,0,_,_,hb=>by
  simp only [exprsF,List.append_eq_nil_iff] at h
  simp at hb;subst hb
  have:=h.1
  cases hw:wrongExprF p d x with
  | false=>simpa using hw
  | true=>rw [hw] at this;simp at this
 | b::bs,x::xs,h,j+1,h1,h2,hb=>by
  simp only [exprsF,List.append_eq_nil_iff] at h
  have:=exprs_nil h.2 j (by simpa using h1) (by simpa using h2) (by simpa using hb)
  simpa using this
theorem declsF_nil {p:Pg}:∀{l:List Dc} {n h:Nat},declsF p l n h=[]→∀d∈l,declFs p d=[]
 | x::l,n,h,hn,d,hd=>by
  simp only [declsF,List.append_eq_nil_iff] at hn
  rcases List.mem_cons.1 hd with rfl | hd
  ·exact hn.1.2
  ·exact declsF_nil hn.2 d hd
theorem right_nil {p:Pg} (hr:rightN p=true):declsF p p.ds 0 0=[]:=by
 simp only [rightN,Bool.and_eq_true,decide_eq_true_eq] at hr
 have h:=hr.2
 rw [faultsN,if_pos hr.1] at h
 have h2:orderF (ats (declsF p p.ds 0 0))=[]:=List.length_eq_zero_iff.1 h
 match hl:declsF p p.ds 0 0 with
 | []=>rfl
 | a::l =>
  have:=(orderF_mem (ats (declsF p p.ds 0 0)) (4,a)).2 (by rw [hl];simp [ats])
  rw [h2] at this;simp at this
theorem right_call {p:Pg} (hr:rightN p=true) {d:Dc} (hd:d∈p.ds) {j:Nat} (hj:j<p.xs.length) (hb:(reachF p (rootsN d)).getD j false=true) (hk:p.xs[j].k=19) :
  ∃(n:Nat) (h:n<p.ds.length),declF p p.xs[j].n=n∧(p.ds[n]).ps.length=p.xs[j].args.length:=by
 have h1:=declsF_nil (right_nil hr) d hd
 simp only [declFs,List.append_eq_nil_iff] at h1
 have hlen:j<(reachF p (rootsN d)).length:=by rw [reachF_len];exact hj
 have h2:=exprs_nil h1.2 j hlen hj (by simpa [hlen] using hb)
 have n3:¬p.xs[j].k=3:=by omega
 have n20:¬p.xs[j].k=20:=by omega
 rw [wrongExprF,if_neg n3,if_neg n20,if_pos hk] at h2
 simp only [Bool.or_eq_false_iff,decide_eq_false_iff_not,ne_eq,Classical.not_not] at h2
 rcases declF_cases p p.xs[j].n with h | ⟨n,hn,h,_⟩
 ·rw [h] at h2;simp at h2
 ·refine ⟨n,hn,h,?_⟩
  rw [h] at h2
  have:=h2.2.2
  simpa [hn] using this
set_option maxRecDepth 10000 in
set_option maxHeartbeats 4000000 in
theorem faults65_call {p:Pg} (hp:p.Ok) (hN:(declsF p p.ds 0 0).length≤4000000) (hM:(allT p).length≤1000000) (hI6:∀d∈p.ds,d.its.length≤600) {st:St} (hst:StOk st) :
  runL A (.call 65 [p.av]) st=some ⟨.ret,⟨[.tup [.lst 2 (fls (if rightN p then orderF (ats5 (allT p)) else [])) (if rightN p then .no else .tight),.bool (rightN p)]],[]⟩,st⟩:=by
 have h21:=right21_call hp (fun hm=>⟨may_sound hp hm,hN⟩) hst
 have hds:=hp.ds
 have hxs:=hp.xs
 simp only [Pg.av] at h21
 refine (task_of_aw_d (N:=58) prim65 fn65 rfl rfl hst ?_).1
 intro e he ha K hK
 have a0:=ha 0
 have hpl0:=Pg.low hp
 have hlow:AV.lowsB (st.length+1) e=true:=lows_args ha (by simp only [AV.lowsB,hpl0,Bool.and_true])
 clear ha
 simp only [Pg.av] at hpl0
 simp [Pg.av] at a0
 cases hr:rightN p with
 | false =>
  rw [hr] at h21 hK
  simp [a65,he,a0,h21]
  exact hK _ _ _ _ _ (.inl rfl) rfl (by simp) ⟨_,rfl,by simp [he,fls,AV.stills]⟩
 | true =>
 have hS:=right_sound hp hr
 rw [hr] at h21 hK
 simp [a65,he,a0,h21]
 have hW0:W8 st [] (st++[.cells none [.lst 2 [] .tight]]):=⟨⟨.tight,by simp [ats5,fls],.nil⟩,by simp,obj_ok hst rfl⟩
 refine aw_loop (W:=w65_1) rfl (fun m e ds s=>AV.lowsB s.length e=true∧∃(i:Nat) (ac:List Int),i+m=p.ds.length∧ac++(p.ds.drop i).flatMap (declT p)=allT p∧W8 st ac s∧DOk (st.length+1) ds s∧AX.ev e (.t 18)=.int .i64 i) p.ds.length
  ⟨?_,0,[],by simp,by simp [allT],hW0,.nil,by simp [he]⟩ ?_
 ·simp only [List.length_append,List.length_cons,List.length_nil]
  repeat' refine lows_set ?_ (by first | (simp [AV.lowB,AV.lowsB];done) | (have:=hpl0 (st.length+1);simpa [AV.lowB,AV.lowsB] using this) | (have:=hpl0 (st.length+1);simp [AV.lowB,AV.lowsB] at this ⊢;exact this.1))
  exact hlow
 rintro m e1 ds s hs ⟨hlow1,i,ac,hm,hac,hW,hD,g18⟩ K1 kn kx
 have he1:e1.length=58:=by simp [hs.1,he]
 have g1:=hs.ev 1 rfl (v:=.iptr p.av) (by simp [he,a0,Pg.av])
 have g4:=hs.ev 4 rfl (v:=.ptr st.length 0) (by simp [he])
 have g17:=hs.ev 17 rfl (v:=.int .i64 p.ds.length) (by simp [he,a0])
 simp only [Pg.av] at g1
 have hacl:ac.length≤1000000:=by rw [←hac] at hM;simp only [List.length_append] at hM;omega
 have hltW:=hW.lt
 by_cases hi:i<p.ds.length
 ·have hth:thereF p i=true:=by simp [thereF,hS.may,hi]
  have hvp:varsP p i=varsF p.ds[i]:=by simp [varsP,hth]
  have hrp:rootsP p i=rootsN p.ds[i]:=by simp [rootsP,hth]
  have hdm:=List.getElem_mem hi
  obtain ⟨D,hD0⟩:∃D,D=p.ds[i]:=⟨_,rfl⟩
  have hIn:=hS.inside _ hdm
  have hdo:=hp.dc _ hdm
  rw [drop_get hi,List.flatMap_cons,←List.append_assoc] at hac
  have h69:=all69_call hS (d:=i) (vars_len hp i) hW.ok
  rw [hvp,←hD0] at h69
  rw [←hD0] at hac hIn hdo hdm hrp
  have hits:=hI6 D hdm
  have hTl:=tysF_len p (varsF D)
  obtain ⟨T,hT0⟩:∃T,T=tysF p (varsF D):=⟨_,rfl⟩
  rw [←hT0] at h69 hTl
  -- the two variables of a round
  have hf6:Fit s (s++[.cells none [.lst 1 (ints T) .no]]):=(Fit.refl hW.ok).cells (by simp [AV.lowsB,AV.lowB,lows_ints])
  have hf7:Fit s (s++[.cells none [.lst 1 (ints T) .no],.cells none [.func (.func 101) [] [.ptr s.length 0,.ptr st.length 0,.iptr p.av]]]):=by
   have h2:Fit s (s++[.cells none [.lst 1 (ints T) .no]]++[.cells none [.func (.func 101) [] [.ptr s.length 0,.ptr st.length 0,.iptr p.av]]]):=hf6.cells (by
    simp only [Pg.av]
    have:=hpl0 (s.length+2)
    simp [AV.lowsB,AV.lowB] at this ⊢
    refine ⟨?_,?_,this⟩<;>omega)
   simpa using h2
  have hW7:=hW.fit hf7
  have h6:(s++[.cells none [.lst 1 (ints T) .no],.cells none [.func (.func 101) [] [.ptr s.length 0,.ptr st.length 0,.iptr p.av]]])[s.length]?=some (.cells none [.lst 1 (ints T) .no]):=by simp
  obtain ⟨s8,h102,hW8,hF8⟩:=tops102 hS hTl hi hW7 (by rw [←hD0];omega) (c6:=s.length) (by omega) h6
  have h103:=reached103_call hp (d:=i) hS.ahead (by rw [hrp];exact hIn) (by rw [hrp];have:=nodes_len hdo;omega) hW8.ok
  rw [hrp] at h103
  have hrl:=reachF_len p (rootsN D)
  obtain ⟨bs,hbs⟩:∃bs,bs=reachF p (rootsN D):=⟨_,rfl⟩
  rw [←hbs] at h103 hrl
  have hF78:Frm st.length s s8:=(Frm.fit hf7).trans hF8
  have h68:=hF8.same _ _ (by omega) (by intro _ _ _ h;cases h) h6
  have h7:(s++[AObj.cells none [.lst 1 (ints T) .no],.cells none [.func (.func 101) [] [.ptr s.length 0,.ptr st.length 0,.iptr p.av]]])[s.length+1]?=some (.cells none [.func (.func 101) [] [.ptr s.length 0,.ptr st.length 0,.iptr p.av]]):=by simp
  have h78:=hF8.same _ _ (by omega) (by intro _ _ _ h;cases h) h7
  have hD8:=hD.frm hF78 (by omega)
  have hlen8:s.length+2≤s8.length:=by have:=hF8.len;simpa using this
  rw [←hD0] at hW8
  obtain ⟨ac8,hac8⟩:∃ac8,ac8=ac++(topsF D (varsF D)).flatMap (badW p T):=⟨_,rfl⟩
  rw [←hac8] at hW8
  have hdecl:ac++declT p D=ac8++reachW p T bs p.xs:=by rw [declT,←hT0,←hbs,hac8,List.append_assoc]
  rw [hdecl] at hac
  have w1:IntKind.i64.wrap ((i:Int)+1)=(i:Int)+1:=wrap_i64 (by omega) (by omega)
  simp only [Pg.av] at h69 h102 h103 h68 h78
  simp [a65_1,g1,g4,g17,g18,he1,hi,h69,h102,h103]
  have hds1:∀q∈ds,∀r,s.length≤r→q≠.collected r:=by
   intro q hq r hr he
   obtain ⟨rs,rfl,_,h3⟩:=hD
   obtain ⟨r',hr',rfl⟩:=List.mem_map.1 hq
   cases he
   have:=(List.getElem?_eq_some_iff.1 (h3 _ hr').2).1
   omega
  refine aw_loop (W:=w65_0) rfl (fun m e ds' s'=>AV.lowsB s'.length e=true∧∃(j:Nat) (a:List Int),j+m=bs.length∧a++reachW p T (bs.drop j) (p.xs.drop j)=ac8++reachW p T bs p.xs∧W8 st a s'∧DOk (st.length+1) ds' s'∧Frm st.length s8 s'∧AX.ev e (.t 33)=.int .i64 j) bs.length
   ⟨?_,0,ac8,by simp,by simp,hW8,hD8,Frm.refl _ _,by simp [he1]⟩ ?_
  ·have hl1:=AV.lows_le (by omega:s.length≤s8.length) _ hlow1
   have hp8:=hpl0 s8.length
   repeat' refine lows_set ?_ (by first | (simp [AV.lowB,AV.lowsB,low_bools,lows_ints];done) | (simp [AV.lowB,AV.lowsB,low_bools,lows_ints];omega) | (simpa [AV.lowB,AV.lowsB] using hp8) | (simp [AV.lowB,AV.lowsB] at hp8 ⊢;exact ⟨by omega,by omega,hp8⟩))
   exact hl1
  rintro m2 e2 ds2 s2 hs2 ⟨hlow2,j,a,hm2,ha2,hW2,hD2,hF2,g33⟩ K2 kn2 kx2
  have he2:e2.length=58:=by simp [hs2.1,he1]
  have g1:=hs2.ev 1 rfl (v:=.iptr p.av) (by simp [g1,Pg.av])
  have g4:=hs2.ev 4 rfl (v:=.ptr st.length 0) (by simp [g4])
  have g5:=hs2.ev 5 rfl (v:=.int .i64 i) (by simp [he1])
  have g6:=hs2.ev 6 rfl (v:=.ptr s.length 0) (by simp [he1])
  have g7:=hs2.ev 7 rfl (v:=.ptr (s.length+1) 0) (by simp [he1])
  have g18:=hs2.ev 18 rfl (v:=.int .i64 i) (by simp [g18])
  have g31:=hs2.ev 31 rfl (v:=.lst 1 (bools bs) .no) (by simp [he1])
  have g32:=hs2.ev 32 rfl (v:=.int .i64 bs.length) (by simp [he1,bools_length])
  simp only [Pg.av] at g1
  have h62:=hF2.same _ _ (by omega) (by intro _ _ _ h;cases h) h68
  have h72:=hF2.same _ _ (by omega) (by intro _ _ _ h;cases h) h78
  have hlen2:=hF2.len
  by_cases hj:j<bs.length
  ·have hjx:j<p.xs.length:=by omega
   obtain ⟨b,hb⟩:∃b,b=bs[j]:=⟨_,rfl⟩
   have hgb:(bools bs)[j]'(by rw [bools_length];exact hj)=.bool b:=by simp [bools,hb]
   have hcs:=xs_get hjx
   have hxo:=hp.ex _ (List.getElem_mem hjx)
   have hAj:=hS.ahead j hjx
   rw [drop_get hj,drop_get hjx,←hb,reachW] at ha2
   have w2:IntKind.i64.wrap ((j:Int)+1)=(j:Int)+1:=wrap_i64 (by omega) (by omega)
   cases b with
   | false =>
    simp at ha2
    simp [a65_0,g31,g32,g33,he2,hj,hgb,bools_length,w2]
    refine kn2 (m2-1) _ _ _ (by omega) ⟨?_,j+1,a,by omega,ha2,hW2,hD2,hF2,by simp [he2]⟩
    repeat' refine lows_set ?_ (by simp [AV.lowB,AV.lowsB])
    exact hlow2
   | true =>
    have hit:=wanted135 (ap:=.no) hS hTl hjx (right_call hr hdm hjx (by rw [←hbs];simp [hj,←hb]))
    have h104:=wanted104_call hp (T:=T) .no hxo hW2.ok
    have hwin:∀y∈wantedF p T p.xs[j],0≤y.1∧y.1<(p.xs.length:Int):=fun y hy=>by
     have:=hAj _ (wantedF_in hy);omega
    have hlA:a.length+((wantedF p T p.xs[j]).flatMap (badW p T)).length≤1000000:=by
     have h1:=congrArg List.length ha2
     have h2:=congrArg List.length hac
     simp only [List.length_append] at h1 h2
     simp at h1
     rw [List.length_flatMap]
     omega
    generalize hX:p.xs[j]=x at *
    generalize wantedF p T x=L at *
    simp only [if_true] at ha2
    simp only [Ex.av,Ex.cs] at hcs
    simp only [Pg.av,Ex.av,Ex.cs] at h104 hit
    simp [a65_0,g1,g5,g6,g31,g32,g33,he2,hj,hjx,hgb,hcs,h62,h104,bools_length]
    generalize hE:(List.set _ 47 _:Env)=E
    have k7:AX.ev E (.t 7)=.ptr (s.length+1) 0:=by subst hE;simp [g7]
    have k33:AX.ev E (.t 33)=.int .i64 j:=by subst hE;simp [g33]
    have kl:E.length=58:=by subst hE;simp [he2]
    have hf:AX.ev E (.t 47)=.func (.func 135) [] [.iptr x.av,.iptr (.lst 1 (ints T) .no),.iptr p.av]:=by subst hE;simp [he2,Ex.av,Ex.cs,Pg.av]
    have hEl:AV.lowsB s2.length E=true:=by
     subst hE
     have hp2:=hpl0 s2.length
     have hx2:=Ex.low hxo s2.length
     simp only [Ex.cs] at hx2
     repeat' refine lows_set ?_ (by first | (simp [AV.lowB,AV.lowsB,low_bools,lows_ints];done) | (simpa [AV.lowB,AV.lowsB] using hp2) | (simpa [AV.lowB,AV.lowsB] using hx2) | (simp [AV.lowB,AV.lowsB,lows_ints] at hp2 hx2 ⊢;exact hp2.2) | (simp [AV.lowB,AV.lowsB,lows_ints] at hp2 hx2 ⊢;exact ⟨hx2,hp2⟩))
     exact hlow2
    clear hE
    have hltW2:=hW2.lt
    have hfS:Fit s2 (rangeSt s2 65 0 [48,49] E):=by
     have h1:=(Fit.refl hW2.ok).obj (o:=.defr (some [])) rfl
     have h2:=h1.obj (o:=.loop .ready none 65 0 [48,49] E s2.length) (by
      have:=AV.lows_le (by omega:s2.length≤s2.length+2) _ hEl
      simp [AObj.lowB];exact ⟨this,by omega⟩)
     exact h2
    obtain ⟨S1,hS1⟩:∃S1,S1=rangeSt s2 65 0 [48,49] E:=⟨_,rfl⟩
    have hlpS:S1[s2.length+1]?=some (.loop .ready none 65 0 [48,49] E s2.length):=by rw [hS1];simp [rangeSt]
    have hdfS:S1[s2.length]?=some (.defr (some [])):=by rw [hS1];simp [rangeSt]
    rw [←hS1] at hfS
    have hlpl:s2.length+1<S1.length:=(List.getElem?_eq_some_iff.1 hlpS).1
    have h6S:=hfS.get h62
    have h7S:=hfS.get h72
    have hlowo:∀(n:Nat) (q:LoopState),s2.length<n→AObj.lowB n (.loop q none 65 0 [48,49] E s2.length)=true:=fun n q hn=>by
     have:=AV.lows_le (by omega:s2.length≤n) _ hEl
     simp [AObj.lowB,this,hn]
    obtain ⟨s3,hrun,hW3,hF3⟩:=hit (s2.length+1) S1 (fun k s=>W8 st (a++(L.take k).flatMap (badW p T)) s∧Frm st.length S1 s)
     (fun k s h=>h.1.ok) (fun k s s' h hf=>⟨h.1.fit hf,h.2.trans (Frm.fit hf)⟩)
     (fun k hk sr h=>by
      obtain ⟨hWs,hFs⟩:=h
      have hkL:k<L.length:=by simpa [pairs] using hk
      obtain ⟨y,hy⟩:∃y,y=L[k]:=⟨_,rfl⟩
      have hpk:(pairs L)[k]=[.int .i64 y.1,.int .i64 y.2]:=by simp [pairs,hy]
      have hyw:=hwin y (by rw [hy];exact List.getElem_mem hkL)
      have hbl:(a++(L.take k).flatMap (badW p T)).length≤4000000:=by
       have h1:(L.take k++L.drop k).flatMap (badW p T)=(L.take k).flatMap (badW p T)++(L.drop k).flatMap (badW p T):=List.flatMap_append
       rw [List.take_append_drop] at h1
       have h2:=congrArg List.length h1
       simp only [List.length_append] at h2 ⊢
       omega
      have hlp:=hFs.same _ _ (by omega) (by intro _ _ _ h;cases h) hlpS
      have hlt:=(List.getElem?_eq_some_iff.1 hlp).1
      rw [hpk]
      obtain ⟨b,s',hr',hb',hJ'⟩:=round_of_aw (A:=A) (fn:=65) (r:=s2.length+1) (F:=a65) (site:=0) (ps:=[48,49]) (env:=E) (d:=s2.length) (pend:=none) (args:=[.int .i64 y.1,.int .i64 y.2]) (st:=sr)
       (asg:=(a65.sites.getD 0 (.skip,.skip)).1) (body:=(a65.sites.getD 0 (.skip,.skip)).2) (env1:=((((E.set 48 (.int .i64 y.1)).set 49 (.int .i64 y.2)).set 10 (.int .i64 y.1)).set 11 (.int .i64 y.2)))
       (G:=fun b st'=>b=true∧(W8 st (a++(L.take (k+1)).flatMap (badW p T)) st'∧Frm st.length S1 st'))
       fn65 rfl rfl hlp (by simp [a65,kl]) (by
        intro K hn hr2 _
        simp only [a65,List.getD_cons_zero]
        have hWb:=hWs.setLoop (o':=.loop .busy none 65 0 [48,49] E s2.length) hlp (by intro _ _ _ h;cases h) (by omega) (hlowo _ _ (by omega))
        have h6b:(sr.set (s2.length+1) (.loop .busy none 65 0 [48,49] E s2.length))[s.length]?=some (.cells none [.lst 1 (ints T) .no]):=by
         rw [List.getElem?_set_ne (by omega)];exact hFs.same _ _ (by omega) (by intro _ _ _ h;cases h) h6S
        have h7b:(sr.set (s2.length+1) (.loop .busy none 65 0 [48,49] E s2.length))[s.length+1]?=some (.cells none [.func (.func 101) [] [.ptr s.length 0,.ptr st.length 0,.iptr (.agg [.lst 7 (p.ds.map Dc.av) p.dap,.lst 9 (p.xs.map Ex.av) p.xap])]]):=by
         rw [List.getElem?_set_ne (by omega)];exact hFs.same _ _ (by omega) (by intro _ _ _ h;cases h) h7S
        obtain ⟨s6,q1,q2,q3⟩:=want101 hp hTl hWb hbl (by omega) h6b (x:=y) hyw.1 hyw.2
        have hlb:(sr.set (s2.length+1) (.loop .busy none 65 0 [48,49] E s2.length))[s2.length+1]?=some (.loop .busy none 65 0 [48,49] E s2.length):=by rw [List.getElem?_set_self hlt]
        have hl6:=q3.same _ _ (by omega) (by intro _ _ _ h;cases h) hlb
        have hlt6:=(List.getElem?_eq_some_iff.1 hl6).1
        have hWf:=q2.setLoop (o':=.loop .ready none 65 0 [48,49] E s2.length) hl6 (by intro _ _ _ h;cases h) (by omega) (hlowo _ _ (by omega))
        have hFf:Frm st.length S1 (s6.set (s2.length+1) (.loop .ready none 65 0 [48,49] E s2.length)):=by
         refine ⟨by have h1:=hFs.len;have h2:=q3.len;simp at h2 ⊢;omega,fun jj o h1 h2 h3=>?_⟩
         by_cases hjr:s2.length+1=jj
         ·subst hjr
          rw [List.getElem?_set_self hlt6,←h3,hlpS]
         ·rw [List.getElem?_set_ne hjr]
          exact q3.same _ _ h1 h2 (by rw [List.getElem?_set_ne hjr];exact hFs.same _ _ h1 h2 h3)
        have hstep:a++(L.take (k+1)).flatMap (badW p T)=a++(L.take k).flatMap (badW p T)++badW p T y:=by rw [take_flatMap hkL,←hy,List.append_assoc]
        simp only [Pg.av] at q1
        simp [kl,k7,h7b,q1]
        exact hn _ _ hl6 ⟨rfl,by rw [hstep];exact hWf,hFf⟩)
      exact ⟨s',by rw [hr',hb'],hJ'⟩)
     ⟨by simpa using hW2.fit hfS,Frm.refl _ _⟩
    have hLl:(pairs L).length=L.length:=by simp [pairs]
    rw [hLl,List.take_length] at hW3
    have hlp3:=hF3.same _ _ (by omega) (by intro _ _ _ h;cases h) hlpS
    have hlt3:=(List.getElem?_eq_some_iff.1 hlp3).1
    have hdf3:=hF3.same _ _ (by omega) (by intro _ _ _ h;cases h) hdfS
    have hWx:=hW3.setLoop (o':=.loop .exhausted none 65 0 [48,49] E s2.length) hlp3 (by intro _ _ _ h;cases h) (by omega) (hlowo _ _ (by omega))
    have hF2x:Frm st.length s2 (s3.set (s2.length+1) (.loop .exhausted none 65 0 [48,49] E s2.length)):=by
     refine ⟨by have h1:=hF3.len;have h2:=hfS.len;simp;omega,fun jj o h1 h2 h3=>?_⟩
     have hjl:=(List.getElem?_eq_some_iff.1 h3).1
     rw [List.getElem?_set_ne (by omega)]
     exact hF3.same _ _ h1 h2 (hfS.get h3)
    have hDx:DOk (st.length+1) (.collected s2.length::ds2) (s3.set (s2.length+1) (.loop .exhausted none 65 0 [48,49] E s2.length)) :=
     (hD2.frm hF2x (by omega)).cons (by omega) (by rw [List.getElem?_set_ne (by omega)];exact hdf3) (fun q hq he=>by
      obtain ⟨rs,rfl,_,h3⟩:=hD2
      obtain ⟨r',hr',rfl⟩:=List.mem_map.1 hq
      cases he
      have:=(List.getElem?_eq_some_iff.1 (h3 _ hr').2).1
      omega)
    refine aw_range (s:=.ready) (pend:=none) (f':=65) (site':=0) (ps':=[48,49]) (env':=E) (d':=s2.length) (st3:=s3) hf (by rw [←hS1];simpa [Ex.av,Ex.cs,Pg.av] using hrun) hlp3 (by simp) ?_
    simp [pendEx,k33,kl,w2]
    refine kn2 (m2-1) _ _ _ (by omega) ⟨?_,j+1,_,by omega,by rw [List.append_assoc];exact ha2,hWx,hDx,hF2.trans hF2x,by simp [kl]⟩
    repeat' refine lows_set ?_ (by simp [AV.lowB,AV.lowsB])
    exact AV.lows_le (by have:=hF2x.len;exact this) _ hEl
  ·have hjl:j=bs.length:=by omega
   have e0:reachW p T (bs.drop j) (p.xs.drop j)=[]:=by rw [hjl,List.drop_length];rfl
   rw [e0,List.append_nil] at ha2
   simp [a65_0,g32,g33,he2,hj]
   refine kx2 _ _ _ _ nofun fun hs'=>?_
   simp [he2,g18,w1]
   refine kn (m-1) _ _ _ (by omega) ⟨?_,i+1,a,by omega,by rw [ha2];exact hac,hW2,hD2,by simp [he2]⟩
   repeat' refine lows_set ?_ (by simp [AV.lowB,AV.lowsB])
   exact hlow2
 ·have hil:i=p.ds.length:=by omega
  rw [hil,List.drop_length] at hac
  simp at hac
  subst hac
  obtain ⟨ap,ho,how⟩:=hW.out
  have hor:=order_call (l:=ats5 (allT p)) (ap:=ap) (by rw [ats5_len];omega) hW.ok
  simp [a65_1,g17,g18,he1,hi]
  refine kx _ _ _ _ nofun fun hs'=>?_
  simp [he1,g4,ho,hor]
  obtain ⟨s',q1,q2⟩:=hD.run
  exact hK _ _ _ _ _ (.inl rfl) q1 (by
   have:=congrArg (List.take st.length) q2
   rw [List.take_take,List.take_take,Nat.min_eq_left (by omega),hW.take] at this
   exact this) ⟨_,rfl,by simp [he1,stills_fls,AV.stills]⟩
def faultsT (p:Pg):List Fa:=if rightN p then orderF (ats5 (allT p)) else []
def rightT (p:Pg):Bool:=rightN p && decide ((faultsT p).length=0)
theorem faults35_call {p:Pg} (hp:p.Ok) (hN:(declsF p p.ds 0 0).length≤4000000) (hM:(allT p).length≤1000000) (hI6:∀d∈p.ds,d.its.length≤600) {st:St} (hst:StOk st) :
  ∃ap,Still ap∧runL A (.call 35 [p.av]) st=some ⟨.ret,⟨[.lst 2 (fls (faultsT p)) ap],[]⟩,st⟩:=by
 have h65:=faults65_call hp hN hM hI6 hst
 simp only [Pg.av] at h65
 refine ⟨if rightN p then .no else .tight,by split;exact .no;exact .tight,?_⟩
 obtain ⟨R,hR⟩:∃R,R=rightN p:=⟨_,rfl⟩
 rw [faultsT,←hR]
 rw [←hR] at h65
 generalize (if R=true then orderF (ats5 (allT p)) else [])=F at *
 refine (task_of_aw (N:=11) prim35 fn35 rfl rfl hst ?_).1
 intro e he ha K hK
 have a0:=ha 0
 clear ha
 simp [Pg.av] at a0
 simp [a35,he,a0,h65]
 refine hK _ _ _ (.inl rfl) (by simp) ⟨_,rfl,?_⟩
 cases R<;>simp [he,stills_fls]
theorem right37_call {p:Pg} (hp:p.Ok) (hN:(declsF p p.ds 0 0).length≤4000000) (hM:(allT p).length≤1000000) (hI6:∀d∈p.ds,d.its.length≤600) {st:St} (hst:StOk st) :
  runL A (.call 37 [p.av]) st=some ⟨.ret,⟨[.bool (rightT p)],[]⟩,st⟩:=by
 have h65:=faults65_call hp hN hM hI6 hst
 simp only [Pg.av] at h65
 cases hR:rightN p with
 | false =>
  rw [hR] at h65
  simp at h65
  refine (task_of_aw (N:=16) prim37 fn37 rfl rfl hst ?_).1
  intro e he ha K hK
  have a0:=ha 0
  clear ha
  simp [Pg.av] at a0
  simp [a37,he,a0,h65]
  exact hK _ _ _ (.inl rfl) (by simp) ⟨_,rfl,by simp [he,rightT,hR]⟩
 | true =>
  have hF:faultsT p=orderF (ats5 (allT p)):=by simp [faultsT,hR]
  rw [hR] at h65
  simp at h65
  refine (task_of_aw (N:=16) prim37 fn37 rfl rfl hst ?_).1
  intro e he ha K hK
  have a0:=ha 0
  clear ha
  simp [Pg.av] at a0
  simp [a37,he,a0,h65,fls_length]
  exact hK _ _ _ (.inl rfl) (by simp) ⟨_,rfl,by simp [he,rightT,hR,hF]⟩
end Go.Proofs.YtefildelnccljaaGreat
