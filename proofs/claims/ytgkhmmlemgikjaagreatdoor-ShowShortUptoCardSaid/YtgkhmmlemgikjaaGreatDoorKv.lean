/- Part Kv. No condition. -/
import Derived.Test.YtgkhmmlemgikjaaGreatDoorKr
import Derived.Test.YtgkhmmlemgikjaaGreatDoorKp
import Derived.Test.YtgkhmmlemgikjaaGreatDoorKo
set_option linter.unusedVariables false
set_option linter.unusedSimpArgs false
namespace Go.Proofs.YtgkhmmlemgikjaaGreatDoor.Lx
open Go Ai Go.Proofs.YtgkhmmlemgikjaaGreatDoor
theorem trim0_prefix (l:List UInt8):trim0 l <+: l:=by
 simp only [trim0,Lib.trimRightB]
 rw [←List.reverse_suffix,List.reverse_reverse]
 exact List.dropWhile_suffix _
def numR:List Nat→Nat
 | []=>0
 | d::l=>d * 10 ^ l.length+numR l
theorem numR_lt:∀l:List Nat,(∀d∈l,d<10)→numR l<10 ^ l.length
 | [],_=>by simp [numR]
 | d::l,h=>by
  have h1:=numR_lt l fun x hx=>h x (by simp [hx])
  have h2:=h d (by simp)
  have h3:d * 10 ^ l.length≤9 * 10 ^ l.length:=Nat.mul_le_mul_right _ (by omega)
  simp only [numR,List.length_cons,Nat.pow_succ];omega
theorem dbl_num:∀l:List Nat,2 * numR l=(dbl l).1 * 10 ^ l.length+numR (dbl l).2
 | []=>by simp [numR,dbl]
 | d::l=>by
  have h1:=dbl_num l
  have hl:=dbl_length l
  simp only [numR,dbl,List.length_cons,Nat.pow_succ,hl]
  have e:2 * d+(dbl l).1=(2 * d+(dbl l).1) / 10 * 10+(2 * d+(dbl l).1) % 10:=by omega
  have e2:(2 * d+(dbl l).1) * 10 ^ l.length=(2 * d+(dbl l).1) / 10 * (10 ^ l.length * 10)+(2 * d+(dbl l).1) % 10 * 10 ^ l.length:=by
   conv=>lhs;rw [e,Nat.add_mul]
   congr 1
   rw [Nat.mul_assoc,Nat.mul_comm 10]
  rw [←Nat.add_assoc,←e2,Nat.add_mul,Nat.mul_add,←Nat.mul_assoc]
  omega
theorem fracN_eq:∀(k:Nat) (l:List Nat) (u:Nat),(∀d∈l,d<10)→fracN k l u=u * 2 ^ k+numR l * 2 ^ k / 10 ^ l.length
 | 0,l,u,hd=>by
  have:=numR_lt l hd
  simp only [fracN,Nat.pow_zero,Nat.mul_one,Nat.div_eq_of_lt this,Nat.add_zero]
 | k+1,l,u,hd=>by
  have h1:=fracN_eq k (dbl l).2 (2 * u+(dbl l).1) (dbl_lt l)
  have h2:=dbl_num l
  have hp:0<10 ^ l.length:=Nat.pow_pos (by decide)
  rw [fracN,h1,dbl_length]
  have e:numR l * 2 ^ (k+1)=numR (dbl l).2 * 2 ^ k+(dbl l).1 * 2 ^ k * 10 ^ l.length:=by
   rw [Nat.pow_succ,Nat.mul_comm (2 ^ k) 2,←Nat.mul_assoc,Nat.mul_comm _ 2,h2,Nat.add_mul,Nat.add_comm,Nat.mul_right_comm]
  rw [e,Nat.add_mul_div_right _ _ hp,Nat.add_mul,Nat.pow_succ,Nat.mul_comm (2 ^ k) 2,←Nat.mul_assoc,Nat.mul_comm u 2]
  omega
theorem byteOf_nat {n:Nat} (h:n<10):(byteOf n).toNat=48+n:=by
 simp only [byteOf,UInt8.toNat_ofNat'];omega
theorem byteOf_dig {n:Nat} (h:n<10):digB (byteOf n)=true:=by rw [digB_iff,byteOf_nat h];omega
theorem fr_all:∀(k b:Nat),b<4294967296→∀c∈fr k b,digB c=true
 | 0,_,_,c,h=>by simp [fr] at h
 | k+1,b,hb,c,h=>by
  simp only [fr,List.mem_cons] at h
  rcases h with rfl | h
  ·exact byteOf_dig (by omega)
  ·exact fr_all k _ (by omega) c h
theorem fr_num:∀(k b:Nat),b<4294967296→numR (digsOf (fr k b))=b * 10 ^ k / 4294967296
 | 0,b,hb=>by simp [fr,digsOf,numR];omega
 | k+1,b,hb=>by
  have h1:=fr_num k (b * 10 % 4294967296) (by omega)
  have hl:(digsOf (fr k (b * 10 % 4294967296))).length=k:=by simp [digsOf,fr_length]
  have e0:digsOf (fr (k+1) b)=b * 10 / 4294967296::digsOf (fr k (b * 10 % 4294967296)):=by
   simp only [digsOf,fr,List.map_cons,byteOf_nat (show b * 10 / 4294967296<10 by omega)]
   rw [Nat.add_sub_cancel_left]
  rw [e0,numR,hl,h1]
  have e:b * 10 ^ (k+1)=b * 10 % 4294967296 * 10 ^ k+b * 10 / 4294967296 * 10 ^ k * 4294967296:=by
   rw [Nat.pow_succ,Nat.mul_comm (10 ^ k) 10,←Nat.mul_assoc]
   conv=>lhs;rw [←Nat.mod_add_div (b * 10) 4294967296]
   rw [Nat.add_mul,Nat.mul_comm 4294967296,Nat.mul_right_comm]
  rw [e,Nat.add_mul_div_right _ _ (by decide),Nat.add_comm]
theorem trim0_back (l:List UInt8):∃j,l=trim0 l++List.replicate j 48:=by
 induction h:l.length generalizing l with
 | zero=>rw [List.length_eq_zero_iff] at h;subst h;exact ⟨0,rfl⟩
 | succ n ih =>
  rcases List.eq_nil_or_concat l with rfl | ⟨l',c,rfl⟩
  ·exact ⟨0,rfl⟩
  ·rw [List.concat_eq_append] at *
   by_cases hc:c=48
   ·subst hc
    obtain ⟨j,hj⟩:=ih l' (by simpa using h)
    refine ⟨j+1,?_⟩
    rw [trim0_snoc,List.replicate_succ',←List.append_assoc,←hj]
   ·exact ⟨0,by rw [trim0_keep hc];simp⟩
theorem numR_zeros (l:List Nat):∀j,numR (l++List.replicate j 0)=numR l * 10 ^ j:=by
 intro j
 induction l with
 | nil =>
  simp only [List.nil_append,numR,Nat.zero_mul]
  induction j with
  | zero=>rfl
  | succ j ih=>rw [List.replicate_succ,numR,ih];simp
 | cons d l ih =>
  rw [List.cons_append,numR,numR,ih,List.length_append,List.length_replicate,Nat.pow_add,Nat.add_mul,Nat.mul_assoc]
theorem trim_all {l:List UInt8} (h:∀c∈l,digB c=true):∀c∈trim0 l,digB c=true:=fun c hc=>h c ((trim0_prefix l).subset hc)
theorem frac_back {b:Nat} (hb:b<4294967296):fracN 32 (digsOf (trim0 (fr 32 b))) 0=b:=by
 have hall:=fr_all 32 b hb
 obtain ⟨j,hj⟩:=trim0_back (fr 32 b)
 have hn:=fr_num 32 b hb
 have hlen:(fr 32 b).length=32:=fr_length 32 b
 obtain ⟨t,ht⟩:∃t,t=trim0 (fr 32 b):=⟨_,rfl⟩
 have hta:∀c∈t,digB c=true:=by rw [ht];exact trim_all hall
 rw [←ht] at hj ⊢
 rw [fracN_eq 32 _ 0 (digs_lt hta),Nat.zero_mul,Nat.zero_add]
 have hdj:digsOf (fr 32 b)=digsOf t++List.replicate j 0:=by
  rw [hj];simp [digsOf]
 rw [hdj,numR_zeros] at hn
 have hl:(digsOf t).length+j=32:=by
  have:(digsOf (fr 32 b)).length=32:=by simp [digsOf,hlen]
  rw [hdj] at this;simpa using this
 have hp:0<10 ^ j:=Nat.pow_pos (by decide)
 rw [←Nat.mul_div_mul_right _ _ hp,←Nat.pow_add,hl,Nat.mul_right_comm,hn]
 have e:b * 10 ^ 32 / 4294967296=b * 5 ^ 32:=by
  rw [show (10:Nat) ^ 32=5 ^ 32 * 4294967296 by decide,←Nat.mul_assoc,Nat.mul_div_cancel _ (by decide)]
 rw [e,Nat.mul_assoc,show (5:Nat) ^ 32 * 2 ^ 32=10 ^ 32 by decide,Nat.mul_div_cancel _ (by decide)]
theorem dec_back:∀(n a:Nat),a≤n→decN (Lib.decDigits a)=a∧(∀c∈Lib.decDigits a,digB c=true)∧(1≤a→(Lib.decDigits a).head?≠some 48)∧1≤(Lib.decDigits a).length
 | 0,a,h=>by
  have:a=0:=by omega
  subst this
  rw [Lib.decDigits_one (by decide)]
  exact ⟨by decide,by decide,by omega,by decide⟩
 | n+1,a,h=>by
  by_cases ha:a<10
  ·rw [Lib.decDigits_one ha]
   refine ⟨?_,?_,?_,by simp⟩
   ·have:=byteOf_nat ha
    simp only [byteOf] at this
    simp only [decN,List.foldl_cons,List.foldl_nil,this];omega
   ·intro c hc
    rw [List.mem_singleton] at hc
    rw [hc];exact byteOf_dig ha
   ·intro h1 h2
    have:=byteOf_nat ha
    simp only [byteOf] at this
    rw [List.head?_cons] at h2
    rw [Option.some.inj h2] at this
    have h48:(48:UInt8).toNat=48:=rfl
    omega
  ·obtain ⟨h1,h2,h3,h4⟩:=dec_back n (a / 10) (by omega)
   have hb:=byteOf_nat (show a % 10<10 by omega)
   have e:Lib.decDigits a=Lib.decDigits (a / 10)++[byteOf (a % 10)]:=by rw [Lib.decDigits,dif_neg ha];rfl
   rw [e]
   refine ⟨?_,?_,?_,by simp⟩
   ·rw [decN_snoc,h1,hb];omega
   ·intro c hc
    simp only [List.mem_append,List.mem_singleton] at hc
    rcases hc with hc | rfl
    ·exact h2 c hc
    ·exact byteOf_dig (by omega)
   ·intro _
    have h3':=h3 (by omega)
    cases hx:Lib.decDigits (a / 10) with
    | nil=>rw [hx] at h4;simp at h4
    | cons b l=>rw [hx] at h3';simpa using h3'
theorem cutAt_not {c:UInt8}:∀{s:List UInt8},c ∉ s→cutAt c s=none
 | [],_=>rfl
 | b::l,h=>by
  simp only [List.mem_cons,not_or] at h
  rw [cutAt,if_neg fun e=>h.1 e.symm,cutAt_not h.2];rfl
theorem cutAt_in {c:UInt8} {y:List UInt8}:∀{x:List UInt8},c ∉ x→cutAt c (x++c::y)=some (x,y)
 | [],_=>by simp [cutAt]
 | b::l,h=>by
  simp only [List.mem_cons,not_or] at h
  rw [List.cons_append,cutAt,if_neg fun e=>h.1 e.symm,cutAt_in h.2];rfl
theorem dot_not {l:List UInt8} (h:∀c∈l,digB c=true):(46:UInt8) ∉ l:=fun hh=>by
 have:=h _ hh
 revert this;decide
theorem dec_len10:∀(k a:Nat),0<k→a<10 ^ k→(Lib.decDigits a).length≤k
 | 0,_,h,_=>by omega
 | k+1,a,_,h=>by
  rw [Lib.decDigits]
  split
  ·simp
  ·cases k with
   | zero=>simp at h;omega
   | succ k =>
    have:=dec_len10 (k+1) (a / 10) (by omega) (by
     rw [Nat.pow_succ] at h
     exact Nat.div_lt_of_lt_mul (by rw [Nat.mul_comm];exact h))
    simp;omega
theorem dec_okA {a:Nat} (h:a<10000000000):okA (Lib.decDigits a)=true:=by
 obtain ⟨h1,h2,h3,h4⟩:=dec_back a a (Nat.le_refl _)
 have hl:(Lib.decDigits a).length≤10:=by
  exact dec_len10 10 a (by decide) (by simpa using h)
 have hall:(Lib.decDigits a).all digB=true:=by rw [List.all_eq_true];exact h2
 by_cases ha:a<10
 ·rw [Lib.decDigits_one ha]
  have:=byteOf_dig ha
  simp only [byteOf] at this
  simp only [okA,okD,List.length_singleton,List.all_cons,List.all_nil,this]
  rfl
 ·have:=h3 (by omega)
  simp [okA,okD,h4,hl,this]
  exact h2
def textF (a:Nat) (f:List UInt8):List UInt8:=if f=[] then Lib.decDigits a else Lib.decDigits a++46::f
theorem parts_text {a:Nat} {f:List UInt8} (h:a<10000000000) (hf:∀c∈f,digB c=true) (hfl:f.length≤40):partsAv (textF a f)=some (Lib.decDigits a,f):=by
 have h2:=(dec_back a a (Nat.le_refl _)).2.1
 have ho:=dec_okA h
 have hd:=dot_not h2
 unfold textF
 by_cases hz:f=[]
 ·subst hz
  rw [if_pos rfl,partsAv,cutAt_not hd]
  simp [ho]
 ·rw [if_neg hz,partsAv,cutAt_in hd]
  have:okD f 40=true:=by
   have:=List.length_pos_iff.2 hz
   have hall:f.all digB=true:=by rw [List.all_eq_true];exact hf
   simp [okD,hfl]
   exact ⟨by omega,hf⟩
  simp [ho,this]
theorem shortF_text (q:Int):shortF q 32=(if q<0 then [45] else [])++textF (q.natAbs / 4294967296) (trim0 (fr 32 (q.natAbs % 4294967296))):=by
 simp only [shortF,textF]
 split
 ·rfl
 ·simp
theorem size_text {u:Nat} (hu:u≤9223372036854775808):sizeN (Lib.decDigits (u / 4294967296),trim0 (fr 32 (u % 4294967296)))=u:=by
 have h1:=(dec_back (u / 4294967296) _ (Nat.le_refl _)).1
 have h2:=frac_back (b:=u % 4294967296) (by omega)
 simp only [sizeN,h1,h2]
 rw [if_neg (by omega)];omega
theorem parts_short {u:Nat} (hu:u≤9223372036854775808):partsAv (textF (u / 4294967296) (trim0 (fr 32 (u % 4294967296))))=some (Lib.decDigits (u / 4294967296),trim0 (fr 32 (u % 4294967296))):=by
 refine parts_text (by omega) (trim_all (fr_all 32 _ (by omega))) ?_
 have:=(trim0_prefix (fr 32 (u % 4294967296))).length_le
 rw [fr_length] at this;omega
end Go.Proofs.YtgkhmmlemgikjaaGreatDoor.Lx
namespace Go.Proofs.YtgkhmmlemgikjaaGreatDoor.Lx
open Go Ai Go.Proofs.YtgkhmmlemgikjaaGreatDoor
def Tok.z (t:Tok):Tok:={ t with pos:=0 }
def LexAs (T:List UInt8) (ks:List Tok) (q:UInt8→Bool):Prop :=
 ∀(r:List UInt8) (p:Nat),(∀d r',r=d::r'→q d=true)→∃ts,ts.map Tok.z=ks∧lexK (T++r) p=(lexK r (p+T.length)).map (ts++·)
def anyB (_:UInt8):Bool:=true
def namB (d:UInt8):Bool:=!innB d
def numB (d:UInt8):Bool:=!innB d && decide (d≠46)
def bgnB (d:UInt8):Bool:=letB d || digB d || decide (d=40) || decide (d=45)
theorem LexAs.nil {q:UInt8→Bool}:LexAs [] [] q:=fun r p _=>⟨[],rfl,by cases h:lexK r p<;>simp [h,Except.map]⟩
theorem LexAs.app {T1 T2:List UInt8} {k1 k2:List Tok} {q1 q2:UInt8→Bool} (h1:LexAs T1 k1 q1) (h2:LexAs T2 k2 q2) (h:∃c T,T2=c::T∧q1 c=true):LexAs (T1++T2) (k1++k2) q2:=fun r p hr=>by
 obtain ⟨c,T,rfl,hc⟩:=h
 obtain ⟨t1,e1,f1⟩:=h1 (c::T++r) p (fun d r' hd=>by cases hd;exact hc)
 obtain ⟨t2,e2,f2⟩:=h2 r (p+T1.length) hr
 refine ⟨t1++t2,by rw [List.map_append,e1,e2],?_⟩
 rw [List.append_assoc,f1,f2,List.length_append,Nat.add_assoc]
 cases lexK r (p+(T1.length+(c::T).length))<;>simp [Except.map]
theorem LexAs.any {T1 T2:List UInt8} {k1 k2:List Tok} {q2:UInt8→Bool} (h1:LexAs T1 k1 anyB) (h2:LexAs T2 k2 q2):LexAs (T1++T2) (k1++k2) q2:=fun r p hr=>by
 obtain ⟨t1,e1,f1⟩:=h1 (T2++r) p (fun _ _ _=>rfl)
 obtain ⟨t2,e2,f2⟩:=h2 r (p+T1.length) hr
 refine ⟨t1++t2,by rw [List.map_append,e1,e2],?_⟩
 rw [List.append_assoc,f1,f2,List.length_append,Nat.add_assoc]
 cases lexK r (p+(T1.length+T2.length))<;>simp [Except.map]
theorem LexAs.mono {T:List UInt8} {ks:List Tok} {q q':UInt8→Bool} (h:LexAs T ks q) (hq:∀d,q' d=true→q d=true):LexAs T ks q':=fun r p hr=>h r p fun d r' hd=>hq d (hr d r' hd)
theorem LexAs.gap {c:UInt8} (hc:c=32∨c=10):LexAs [c] [] anyB:=fun r p _=>by
 refine ⟨[],rfl,?_⟩
 have h1:lexK ([c]++r) p=lexK r (p+1):=by
  unfold lexK
  have:skipN false ([c]++r)=1+skipN false r:=by
   rw [List.singleton_append,skipN,if_neg (by rcases hc with rfl | rfl<;>decide),if_pos (by rcases hc with rfl | rfl<;>decide)]
  rw [this,Nat.add_comm 1,List.singleton_append,List.drop_succ_cons]
  congr 1;omega
 rw [h1]
 cases h:lexK r (p+1)<;>simp [h,Except.map]
theorem LexAs.one {x:Tok} {c:UInt8} {y:List UInt8} (hx:x.text=c::y) (hc:c≠35∧gapB c=false) (hp:x.pos=0) {q:UInt8→Bool} (h:∀r p,(∀d r',r=d::r'→q d=true)→tokOf (c::(y++r)) p=({ x with pos:=p },true)):LexAs (c::y) [x] q:=fun r p hr=>by
 refine ⟨[{ x with pos:=p }],by cases x;simp [Tok.z] at hp ⊢;exact hp.symm,?_⟩
 have hs:skipN false (c::(y++r))=0:=by rw [skipN,if_neg hc.1,if_neg (by simp [hc.2])]
 rw [List.cons_append]
 conv=>lhs;unfold lexK
 rw [hs,List.drop_zero,Nat.add_zero,lexS_tok (h r p hr),hx]
 have:(c::(y++r)).drop (c::y).length=r:=by rw [←List.cons_append,List.drop_left]
 simp only [this]
 rfl
def sgnT (s:List UInt8):Tok:=⟨4,s,0,0⟩
theorem letter_ne {c:UInt8} (h:letB c=true∨digB c=true):c≠35∧gapB c=false:=by
 refine ⟨fun e=>by subst e;revert h;decide,?_⟩
 cases hg:gapB c with
 | false=>rfl
 | true =>
  simp only [gapB,Bool.or_eq_true,decide_eq_true_eq] at hg
  rcases hg with ((rfl | rfl) | rfl) | rfl<;>revert h<;>decide
theorem LexAs.sign {c:UInt8} (hc:c∈[40,41,123,125,44,59,58,43,42,47,46]):LexAs [c] [sgnT [c]] anyB:=by
 have h3:∀d,twoB c d=false:=by
  intro d
  simp only [List.mem_cons,List.mem_nil_iff,or_false] at hc
  rcases hc with rfl | rfl | rfl | rfl | rfl | rfl | rfl | rfl | rfl | rfl | rfl<;>simp [twoB]
 have h4:c∈ones∧letB c=false∧digB c=false∧c≠35∧gapB c=false:=by
  simp only [List.mem_cons,List.mem_nil_iff,or_false] at hc
  rcases hc with rfl | rfl | rfl | rfl | rfl | rfl | rfl | rfl | rfl | rfl | rfl<;>decide
 refine LexAs.one rfl h4.2.2.2 rfl fun r p _=>?_
 have h5:signLen (c::r)=1:=by
  cases r with
  | nil=>simp [signLen,h4.1]
  | cons d r=>simp [signLen,h3,h4.1]
 rw [List.nil_append,tokOf_cons,h4.2.1,h4.2.2.1,h5]
 rfl
theorem LexAs.sign1 {c:UInt8} {q:UInt8→Bool} (hc:c∈[45,60,61]) (hq:∀d,q d=true→twoB c d=false):LexAs [c] [sgnT [c]] q:=by
 have h4:c∈ones∧letB c=false∧digB c=false∧c≠35∧gapB c=false:=by
  simp only [List.mem_cons,List.mem_nil_iff,or_false] at hc
  rcases hc with rfl | rfl | rfl<;>decide
 refine LexAs.one rfl h4.2.2.2 rfl fun r p hr=>?_
 have h5:signLen (c::r)=1:=by
  cases r with
  | nil=>simp [signLen,h4.1]
  | cons d r=>simp [signLen,hq d (hr d r rfl),h4.1]
 rw [List.nil_append,tokOf_cons,h4.2.1,h4.2.2.1,h5]
 rfl
theorem LexAs.sign2 {c d:UInt8} (hc:(c=45∧d=62)∨(c=60∧d=61)∨(c=61∧d=61)):LexAs [c,d] [sgnT [c,d]] anyB:=by
 have h4:twoB c d=true∧letB c=false∧digB c=false∧c≠35∧gapB c=false:=by
  rcases hc with ⟨rfl,rfl⟩ | ⟨rfl,rfl⟩ | ⟨rfl,rfl⟩<;>decide
 refine LexAs.one rfl h4.2.2.2 rfl fun r p hr=>?_
 rw [List.singleton_append,tokOf_cons,h4.2.1,h4.2.2.1]
 simp [signLen,h4.1,sgnT]
def nameB (w:List UInt8):Bool:=(match w with
 | []=>false
 | c::_=>letB c) && w.all innB && decide (w.length≤16)
def wordT (w:List UInt8):Tok:=⟨if wordB w then 3 else 1,w,0,0⟩
theorem LexAs.word {w:List UInt8} (hw:nameB w=true):LexAs w [wordT w] namB:=by
 cases w with
 | nil=>cases hw
 | cons c y =>
  simp only [nameB,Bool.and_eq_true,decide_eq_true_eq] at hw
  refine LexAs.one rfl (letter_ne (.inl hw.1.1)) rfl fun r p hr=>?_
  have hz:∀d z',r=d::z'→innB d=false:=fun d z' e=>by have:=hr d z' e;simpa [namB] using this
  have h1:(c::(y++r)).takeWhile innB=c::y:=by
   rw [←List.cons_append];exact takeWhile_app (List.all_eq_true.1 hw.1.2) hz
  rw [tokOf_cons,if_pos hw.1.1,h1]
  simp only [wordT,hw.2,decide_true]
def numT (v:Int):Tok:=⟨2,shortF v 32,v,0⟩
theorem short_pos {v:Int} (h0:0≤v):shortF v 32=textF (v.natAbs / 4294967296) (trim0 (fr 32 (v.natAbs % 4294967296))):=by
 rw [shortF_text,if_neg (by omega),List.nil_append]
theorem short_head {v:Int} (h0:0≤v):∃c y,shortF v 32=c::y∧digB c=true:=by
 obtain ⟨_,h2,_,h4⟩:=dec_back (v.natAbs / 4294967296) _ (Nat.le_refl _)
 rw [short_pos h0]
 cases hd:Lib.decDigits (v.natAbs / 4294967296) with
 | nil=>rw [hd] at h4;simp at h4
 | cons c l =>
  refine ⟨c,?_,?_,h2 c (by rw [hd];simp)⟩
  ·exact if trim0 (fr 32 (v.natAbs % 4294967296))=[] then l else l++46::trim0 (fr 32 (v.natAbs % 4294967296))
  ·unfold textF
   rw [hd]
   split<;>rfl
theorem dig_let {c:UInt8} (h:digB c=true):letB c=false:=by
 have:=digB_iff.1 h
 simp [letB];omega
theorem LexAs.num {v:Int} (h0:0≤v) (h1:v≤9223372036854775807):LexAs (shortF v 32) [numT v] numB:=by
 obtain ⟨c,y,hc,hd⟩:=short_head h0
 have hp:=parts_short (u:=v.natAbs) (by omega)
 have hs:=size_text (u:=v.natAbs) (by omega)
 have hv:valP (shortF v 32)=(v,true):=by
  rw [short_pos h0,valP,hp]
  simp only [hs]
  rw [if_neg (by omega)]
  congr 1;omega
 obtain ⟨_,g2,_,g4⟩:=dec_back (v.natAbs / 4294967296) _ (Nat.le_refl _)
 have g3:=trim_all (fr_all 32 (v.natAbs % 4294967296) (by omega))
 have hn:∀r,(∀d r',r=d::r'→numB d=true)→numLen (shortF v 32++r)=(shortF v 32).length:=by
  intro r hr
  rw [short_pos h0]
  generalize trim0 (fr 32 (v.natAbs % 4294967296))=f at *
  have hz:∀d z',r=d::z'→digB d=false∧d≠46:=fun d z' e=>by
   have:=hr d z' e
   simp only [numB,innB,Bool.and_eq_true,Bool.not_eq_true',Bool.or_eq_false_iff,decide_eq_true_eq] at this
   exact ⟨this.1.2,this.2⟩
  unfold textF
  split
  ·rw [numLen_of g2 (fun d z' e=>(hz d z' e).1)]
   cases r with
   | nil=>rfl
   | cons d r=>simp only [numAfter,if_neg (hz d r rfl).2]
  ·rename_i hf
   rw [List.append_assoc,numLen_of g2 (fun d z' e=>by cases e;decide)]
   cases f with
   | nil=>exact absurd rfl hf
   | cons e f =>
    simp only [List.cons_append,numAfter,if_true,g3 e (by simp)]
    rw [←List.cons_append,takeWhile_app g3 (fun d z' e=>(hz d z' e).1)]
    simp only [List.length_append,List.length_cons];omega
 rw [hc]
 refine LexAs.one (x:=numT v) hc (letter_ne (.inr hd)) rfl fun r p hr=>?_
 have h2:=hn r hr
 rw [hc,List.cons_append] at h2
 have h3:(c::(y++r)).take (c::y).length=c::y:=by rw [←List.cons_append,List.take_left]
 rw [tokOf_cons,dig_let hd,hd,h2,h3,←hc,hv]
 rfl
end Go.Proofs.YtgkhmmlemgikjaaGreatDoor.Lx
namespace Go.Proofs.YtgkhmmlemgikjaaGreatDoor
open Go Ai
inductive Tr where
 | num (v:Int)
 | bool (b:Bool)
 | name (n:Sx)
 | isS (n s:Sx)
 | pre (k:Int) (a:Tr)
 | two (k:Int) (a b:Tr)
 | ite (a b c:Tr)
 | call (n:Sx) (l:Tr)
 | nil
 | arg (a l:Tr)
def wrapS (t w:Int) (s:Sx):Sx:=if t<w then [40]++(s++[41]) else s
def wrapK (t w:Int) (s:List Tk):List Tk:=if t<w then [Lx.sgnT [40]]++(s++[Lx.sgnT [41]]) else s
def preW (k:Int):Sx:=if k=5 then [110,111,116] else if k=16 then [112,114,101] else [115,113,114,116]
def preS (k:Int):Sx:=if k=4 then [45] else preW k++[32]
def preK (k:Int):Tk:=if k=4 then Lx.sgnT [45] else Lx.wordT (preW k)
def signK (k:Int):Tk:=if k=13∨k=14∨k=18 then Lx.wordT (signF k) else Lx.sgnT (signF k)
def boolW (b:Bool):Sx:=if b then [116,114,117,101] else [102,97,108,115,101]
def Tr.tight:Tr→Int
 | .two k _ _=>tightF k
 | .pre _ _=>6
 | .ite _ _ _=>0
 | _=>7
def Tr.tx:Tr→Int→Sx
 | .num v,w=>wrapS 7 w (shortF v 32)
 | .bool b,w=>wrapS 7 w (boolW b)
 | .name n,w=>wrapS 7 w n
 | .isS n s,w=>wrapS 7 w (n++([32,105,115,32]++s))
 | .pre k a,w=>wrapS 6 w (preS k++a.tx 6)
 | .two k a b,w=>wrapS (tightF k) w (a.tx (oneW k)++([32]++signF k++[32]++b.tx (nextW k)))
 | .ite a b c,w=>wrapS 0 w ([105,102,32]++(a.tx 0++([32,116,104,101,110,32]++(b.tx 0++([32,101,108,115,101,32]++c.tx 0)))))
 | .call n l,w=>wrapS 7 w ((n++[40])++(l.tx 0++[41]))
 | .nil,_=>[]
 | .arg a l,w=>(if w=0 then [] else [44,32])++(a.tx 0++l.tx 1)
def Tr.tk:Tr→Int→List Tk
 | .num v,w=>wrapK 7 w [Lx.numT v]
 | .bool b,w=>wrapK 7 w [Lx.wordT (boolW b)]
 | .name n,w=>wrapK 7 w [Lx.wordT n]
 | .isS n s,w=>wrapK 7 w ([Lx.wordT n]++([Lx.wordT [105,115]]++[Lx.wordT s]))
 | .pre k a,w=>wrapK 6 w ([preK k]++a.tk 6)
 | .two k a b,w=>wrapK (tightF k) w (a.tk (oneW k)++([signK k]++b.tk (nextW k)))
 | .ite a b c,w=>wrapK 0 w ([Lx.wordT [105,102]]++(a.tk 0++([Lx.wordT [116,104,101,110]]++(b.tk 0++([Lx.wordT [101,108,115,101]]++c.tk 0)))))
 | .call n l,w=>wrapK 7 w (([Lx.wordT n]++[Lx.sgnT [40]])++(l.tk 0++[Lx.sgnT [41]]))
 | .nil,_=>[]
 | .arg a l,w=>(if w=0 then [] else [Lx.sgnT [44]])++(a.tk 0++l.tk 1)
def NmOk (n:Sx):Prop:=Lx.nameB n=true∧Lx.wordB n=false
def TwoK (k:Int):Prop:=k=6∨k=7∨k=8∨k=9∨k=10∨k=11∨k=12∨k=13∨k=14∨k=17∨k=18
def Tr.Ok:Tr→Bool→Prop
 | .num v,e=>e=true∧0≤v∧v≤9223372036854775807
 | .bool _,e=>e=true
 | .name n,e=>e=true∧NmOk n
 | .isS n s,e=>e=true∧NmOk n∧NmOk s
 | .pre k a,e=>e=true∧(k=4∨k=5∨k=16∨k=21)∧a.Ok true
 | .two k a b,e=>e=true∧TwoK k∧a.Ok true∧b.Ok true
 | .ite a b c,e=>e=true∧a.Ok true∧b.Ok true∧c.Ok true
 | .call n l,e=>e=true∧NmOk n∧l.Ok false
 | .nil,e=>e=false
 | .arg a l,e=>e=false∧a.Ok true∧l.Ok false
def cloB (d:UInt8):Bool:=decide (d=32) || decide (d=41) || decide (d=44) || decide (d=59)
theorem clo_cases {d:UInt8} (h:cloB d=true):d=32∨d=41∨d=44∨d=59:=by
 simp only [cloB,Bool.or_eq_true,decide_eq_true_eq] at h
 rcases h with ((h | h) | h) | h<;>simp [h]
theorem clo_nam {d:UInt8} (h:cloB d=true):Lx.namB d=true:=by rcases clo_cases h with rfl | rfl | rfl | rfl<;>decide
theorem clo_num {d:UInt8} (h:cloB d=true):Lx.numB d=true:=by rcases clo_cases h with rfl | rfl | rfl | rfl<;>decide
section
open Lx
def Begins (T:Sx):Prop:=∃c U,T=c::U∧bgnB c=true
theorem Begins.app {T U:Sx} (h:Begins T):Begins (T++U):=by
 obtain ⟨c,V,rfl,hc⟩:=h
 exact ⟨c,V++U,rfl,hc⟩
theorem wrap_lex {t w:Int} {s:Sx} {k:List Tk} (h:LexAs s k cloB∧Begins s):LexAs (wrapS t w s) (wrapK t w k) cloB∧Begins (wrapS t w s):=by
 unfold wrapS wrapK
 split
 ·exact ⟨((LexAs.sign (by simp)).any (h.1.app (LexAs.sign (by simp)) ⟨41,[],rfl,rfl⟩)).mono fun _ _=>rfl,40,_,rfl,rfl⟩
 ·exact h
theorem name_begins {n:Sx} (h:nameB n=true):Begins n:=by
 cases n with
 | nil=>cases h
 | cons c y =>
  simp only [nameB,Bool.and_eq_true] at h
  exact ⟨c,y,rfl,by simp [bgnB,h.1.1]⟩
theorem word_gap {w:Sx} (h:nameB w=true):LexAs (w++[32]) [wordT w] anyB:=(LexAs.word h).app (LexAs.gap (.inl rfl)) ⟨32,[],rfl,by decide⟩
theorem gap_word_gap {w:Sx} (h:nameB w=true):LexAs ([32]++(w++[32])) [wordT w] anyB:=(LexAs.gap (.inl rfl)).any (word_gap h)
theorem sign_lex {k:Int} (h:TwoK k):LexAs ([32]++signF k++[32]) [signK k] anyB:=by
 rw [List.append_assoc]
 have g:LexAs [32] [] anyB:=LexAs.gap (.inl rfl)
 have one:∀c:UInt8,c∈[40,41,123,125,44,59,58,43,42,47,46]→LexAs ([32]++([c]++[32])) [sgnT [c]] anyB:=fun c hc=>g.any ((LexAs.sign hc).any g)
 have oneq:∀c:UInt8,c∈[45,60,61]→LexAs ([32]++([c]++[32])) [sgnT [c]] anyB:=fun c hc =>
  g.any ((LexAs.sign1 (q:=cloB) hc (fun d hd=>by
   simp only [List.mem_cons,List.mem_nil_iff,or_false] at hc
   rcases clo_cases hd with rfl | rfl | rfl | rfl<;>rcases hc with rfl | rfl | rfl<;>rfl)).app g ⟨32,[],rfl,rfl⟩)
 have two:∀c d:UInt8,(c=45∧d=62)∨(c=60∧d=61)∨(c=61∧d=61)→LexAs ([32]++([c,d]++[32])) [sgnT [c,d]] anyB:=fun c d hc=>g.any ((LexAs.sign2 hc).any g)
 rcases h with rfl | rfl | rfl | rfl | rfl | rfl | rfl | rfl | rfl | rfl | rfl
 ·exact one 43 (by simp)
 ·exact oneq 45 (by simp)
 ·exact one 42 (by simp)
 ·exact one 47 (by simp)
 ·exact oneq 60 (by simp)
 ·exact two 60 61 (by simp)
 ·exact two 61 61 (by simp)
 ·exact gap_word_gap (w:=[97,110,100]) (by decide)
 ·exact gap_word_gap (w:=[111,114]) (by decide)
 ·exact two 45 62 (by simp)
 ·exact gap_word_gap (w:=[102,98,121]) (by decide)
theorem args_head {l:Tr} (h:l.Ok false):∃c T,l.tx 1++[41]=c::T∧cloB c=true:=by
 cases l with
 | nil=>exact ⟨41,[],rfl,rfl⟩
 | arg a l=>exact ⟨44,_,rfl,rfl⟩
 | _=>simp [Tr.Ok] at h
theorem Tr.lex:∀t:Tr,(t.Ok true→∀w,LexAs (t.tx w) (t.tk w) cloB∧Begins (t.tx w))∧(t.Ok false→∀w,LexAs (t.tx w++[41]) (t.tk w++[sgnT [41]]) anyB)
 | .num v=>⟨fun h w=>wrap_lex ⟨(LexAs.num h.2.1 h.2.2).mono fun _=>clo_num,by
   obtain ⟨c,y,hc,hd⟩:=short_head h.2.1
   exact ⟨c,y,hc,by simp [bgnB,hd]⟩⟩,fun h=>by simp [Tr.Ok] at h⟩
 | .bool b=>⟨fun h w=>wrap_lex ⟨(LexAs.word (by cases b<;>decide)).mono fun _=>clo_nam,by cases b<;>exact ⟨_,_,rfl,by decide⟩⟩,fun h=>by simp [Tr.Ok] at h⟩
 | .name n=>⟨fun h w=>wrap_lex ⟨(LexAs.word h.2.1).mono fun _=>clo_nam,name_begins h.2.1⟩,fun h=>by simp [Tr.Ok] at h⟩
 | .isS n s=>⟨fun h w=>wrap_lex ⟨(LexAs.word h.2.1.1).app (gap_word_gap (w:=[105,115]) (by decide) |>.any ((LexAs.word h.2.2.1).mono fun _=>clo_nam)) ⟨32,_,rfl,by decide⟩,(name_begins h.2.1.1).app⟩,fun h=>by simp [Tr.Ok] at h⟩
 | .pre k a=>⟨fun h w=>by
   obtain ⟨h1,h2⟩:=(Tr.lex a).1 h.2.2 6
   refine wrap_lex ?_
   by_cases h4:k=4
   ·have hb:=h2
    obtain ⟨c,U,hc,hd⟩:=h2
    rw [preS,preK,if_pos h4,if_pos h4]
    exact ⟨(LexAs.sign1 (q:=bgnB) (by simp) (fun d hd=>by
     have:d≠62:=fun e=>by subst e;revert hd;decide
     simp [twoB,this])).app h1 ⟨c,U,hc,hd⟩,45,_,rfl,by decide⟩
   ·rw [preS,preK,if_neg h4,if_neg h4]
    have hw:nameB (preW k)=true:=by
     rcases h.2.1 with rfl | rfl | rfl | rfl
     ·exact absurd rfl h4
     all_goals decide
    exact ⟨(word_gap hw).any h1,((name_begins hw).app).app⟩,fun h=>by simp [Tr.Ok] at h⟩
 | .two k a b=>⟨fun h w=>by
   obtain ⟨h1,h2⟩:=(Tr.lex a).1 h.2.2.1 (oneW k)
   obtain ⟨h3,_⟩:=(Tr.lex b).1 h.2.2.2 (nextW k)
   exact wrap_lex ⟨h1.app ((sign_lex h.2.1).any h3) ⟨32,_,rfl,rfl⟩,h2.app⟩,fun h=>by simp [Tr.Ok] at h⟩
 | .ite a b c=>⟨fun h w=>by
   obtain ⟨h1,_⟩:=(Tr.lex a).1 h.2.1 0
   obtain ⟨h2,_⟩:=(Tr.lex b).1 h.2.2.1 0
   obtain ⟨h3,_⟩:=(Tr.lex c).1 h.2.2.2 0
   exact wrap_lex ⟨(word_gap (w:=[105,102]) (by decide)).any (h1.app ((gap_word_gap (w:=[116,104,101,110]) (by decide)).any (h2.app ((gap_word_gap (w:=[101,108,115,101]) (by decide)).any h3) ⟨32,_,rfl,rfl⟩)) ⟨32,_,rfl,rfl⟩),105,_,rfl,by decide⟩,fun h=>by simp [Tr.Ok] at h⟩
 | .call n l=>⟨fun h w=>wrap_lex ⟨(((LexAs.word h.2.1.1).app (LexAs.sign (by simp)) ⟨40,[],rfl,by decide⟩).any ((Tr.lex l).2 h.2.2 0)).mono fun _ _=>rfl,((name_begins h.2.1.1).app).app⟩,fun h=>by simp [Tr.Ok] at h⟩
 | .nil=>⟨fun h=>by simp [Tr.Ok] at h,fun _ w=>LexAs.sign (by simp)⟩
 | .arg a l=>⟨fun h=>by simp [Tr.Ok] at h,fun h w=>by
   obtain ⟨h1,_⟩:=(Tr.lex a).1 h.2.1 0
   have h2:=h1.app ((Tr.lex l).2 h.2.2 1) (args_head h.2.2)
   simp only [Tr.tx,Tr.tk,List.append_assoc]
   split
   ·exact h2
   ·exact ((LexAs.sign (c:=44) (by simp)).any (LexAs.gap (.inl rfl))).any h2⟩
end
def Tr.size:Tr→Nat
 | .pre _ a=>a.size+1
 | .two _ a b=>a.size+b.size+1
 | .ite a b c=>a.size+b.size+c.size+1
 | .call _ l=>l.size+1
 | .nil=>0
 | .arg a l=>a.size+l.size
 | _=>1
def rtN (n s:Nat):Int:=((n+s-1:Nat):Int)
def Tr.idx:Tr→Nat→List Int
 | .arg a l,n=>rtN n a.size::l.idx (n+a.size)
 | _,_=>[]
def Tr.flat:Tr→Nat→List Ex
 | .num v,_=>[⟨1,0,0,0,[],[],v,[],.tight,0⟩]
 | .bool b,_=>[⟨2,0,0,0,[],[],if b then 1 else 0,[],.tight,0⟩]
 | .name m,_=>[⟨3,0,0,0,m,[],0,[],.tight,0⟩]
 | .isS m s,_=>[⟨20,0,0,0,m,s,0,[],.tight,0⟩]
 | .pre k a,n=>a.flat n++[⟨k,rtN n a.size,0,0,[],[],0,[],.tight,0⟩]
 | .two k a b,n=>a.flat n++(b.flat (n+a.size)++[⟨k,rtN n a.size,rtN (n+a.size) b.size,0,[],[],0,[],.tight,0⟩])
 | .ite a b c,n=>a.flat n++(b.flat (n+a.size)++(c.flat (n+a.size+b.size)++[⟨15,rtN n a.size,rtN (n+a.size) b.size,rtN (n+a.size+b.size) c.size,[],[],0,[],.tight,0⟩]))
 | .call m l,n=>l.flat n++[⟨19,0,0,0,m,[],0,l.idx n,endAp (l.idx n).length,0⟩]
 | .nil,_=>[]
 | .arg a l,n=>a.flat n++l.flat (n+a.size)
theorem Tr.flat_len:∀(t:Tr) (n:Nat),(t.flat n).length=t.size
 | .num _,_=>rfl
 | .bool _,_=>rfl
 | .name _,_=>rfl
 | .isS _ _,_=>rfl
 | .pre _ a,n=>by simp [Tr.flat,Tr.size,Tr.flat_len a]
 | .two _ a b,n=>by simp [Tr.flat,Tr.size,Tr.flat_len a,Tr.flat_len b];omega
 | .ite a b c,n=>by simp [Tr.flat,Tr.size,Tr.flat_len a,Tr.flat_len b,Tr.flat_len c];omega
 | .call _ l,n=>by simp [Tr.flat,Tr.size,Tr.flat_len l]
 | .nil,_=>rfl
 | .arg a l,n=>by simp [Tr.flat,Tr.size,Tr.flat_len a,Tr.flat_len l]
end Go.Proofs.YtgkhmmlemgikjaaGreatDoor
namespace Go.Proofs.YtgkhmmlemgikjaaGreatDoor
open Go Ai
def Has (xs:List Ex) (n:Nat) (l:List Ex):Prop:=∃u v,xs.map Ex.z=u++(l++v)∧u.length=n
theorem Has.left {xs:List Ex} {n:Nat} {a b:List Ex} (h:Has xs n (a++b)):Has xs n a:=by
 obtain ⟨u,v,e,hn⟩:=h
 exact ⟨u,b++v,by rw [e,List.append_assoc],hn⟩
theorem Has.right {xs:List Ex} {n k:Nat} {a b:List Ex} (h:Has xs n (a++b)) (hk:a.length=k):Has xs (n+k) b:=by
 obtain ⟨u,v,e,hn⟩:=h
 exact ⟨u++a,v,by rw [e];simp,by rw [List.length_append,hn,hk]⟩
theorem Has.get {xs:List Ex} {n:Nat} {x:Ex} (h:Has xs n [x]):((xs.getD n zEx).z=x∧n<xs.length):=by
 obtain ⟨u,v,e,hn⟩:=h
 have hl:=congrArg List.length e
 simp at hl
 have hlt:n<xs.length:=by omega
 refine ⟨?_,hlt⟩
 have h1:(xs.map Ex.z)[n]?=some x:=by rw [e,←hn];simp
 rw [List.getElem?_map,List.getElem?_eq_getElem hlt] at h1
 simp only [Option.map_some,Option.some.injEq] at h1
 rw [List.getD_eq_getElem?_getD,List.getElem?_eq_getElem hlt]
 exact h1
theorem wrap_eq {xs:List Ex} {f:Nat} {e w:Int} {x:Ex} {s:Sx} (hx:(xs.getD e.toNat zEx).z=x) (hs:ownF (shE xs f) (xs.getD e.toNat zEx)=s):shE xs (f+1) e w=wrapS (tightF x.k) w s:=by
 have hk:(xs.getD e.toNat zEx).k=x.k:=by rw [←hx];rfl
 rw [shE,hs,hk];rfl
theorem args_flat {E:Int→Int→Sx} {i:Int} {l:List Int}:argsT E (i::l)=E i 0++l.flatMap fun b=>[44,32]++E b 0:=rfl
theorem Tr.show {xs:List Ex}:∀(t:Tr),(t.Ok true→∀n,Has xs n (t.flat n)→∀f,n+t.size≤f→∀w,shE xs f (rtN n t.size) w=t.tx w) ∧
  (t.Ok false→∀n,Has xs n (t.flat n)→∀f,n+t.size≤f→argsT (shE xs f) (t.idx n)=t.tx 0∧((t.idx n).flatMap fun b=>[44,32]++shE xs f b 0)=t.tx 1):=by
 intro t
 have atom:∀{x:Ex} {n f:Nat} {w:Int} {s:Sx},Has xs n [x]→n+1≤f→(∀y E,Ex.z y=x→ownF E y=s)→shE xs f (rtN n 1) w=wrapS (tightF x.k) w s:=by
  intro x n f w s h hf ho
  obtain ⟨f,rfl⟩:∃g,f=g+1:=⟨f-1,by omega⟩
  have hg:=h.get.1
  have hn:(rtN n 1).toNat=n:=by simp [rtN]
  rw [←hn] at hg
  exact wrap_eq hg (ho _ _ hg)
 induction t with
 | num v=>exact ⟨fun h n hh f hf w=>atom hh hf fun y E hy=>by
   have h1:y.k=1:=congrArg Ex.k hy
   have h2:y.v=v:=congrArg Ex.v hy
   simp [ownF,h1,h2],fun h=>by simp [Tr.Ok] at h⟩
 | bool b=>exact ⟨fun h n hh f hf w=>atom hh hf fun y E hy=>by
   have h1:y.k=2:=congrArg Ex.k hy
   have h2:y.v=if b then 1 else 0:=congrArg Ex.v hy
   cases b<;>simp [ownF,h1,h2,boolW],fun h=>by simp [Tr.Ok] at h⟩
 | name m=>exact ⟨fun h n hh f hf w=>atom hh hf fun y E hy=>by
   have h1:y.k=3:=congrArg Ex.k hy
   have h2:y.n=m:=congrArg Ex.n hy
   simp [ownF,h1,h2],fun h=>by simp [Tr.Ok] at h⟩
 | isS m s=>exact ⟨fun h n hh f hf w=>atom hh hf fun y E hy=>by
   have h1:y.k=20:=congrArg Ex.k hy
   have h2:y.n=m:=congrArg Ex.n hy
   have h3:y.s=s:=congrArg Ex.s hy
   simp [ownF,h1,h2,h3],fun h=>by simp [Tr.Ok] at h⟩
 | pre k a iha=>exact ⟨fun h n hh f hf w=>by
   obtain ⟨f,rfl⟩:∃g,f=g+1:=⟨f-1,by simp [Tr.size] at hf;omega⟩
   simp only [Tr.size] at hf
   simp only [Tr.flat] at hh
   have ha:=iha.1 h.2.2 n hh.left f (by omega) 6
   have hg:=(hh.right (a.flat_len n)).get.1
   have hn:(rtN n (a.size+1)).toNat=n+a.size:=by simp [rtN];omega
   rw [←hn] at hg
   have e:(Tr.pre k a).size=a.size+1:=rfl
   rw [e,wrap_eq (s:=preS k++a.tx 6) hg ?_]
   ·have:tightF k=6:=by rcases h.2.1 with rfl | rfl | rfl | rfl<;>rfl
    simp only [Tr.tx];rw [this]
   ·generalize xs.getD _ zEx=y at hg ⊢
    have h1:y.k=k:=congrArg Ex.k hg
    have h2:y.a=rtN n a.size:=congrArg Ex.a hg
    rcases h.2.1 with rfl | rfl | rfl | rfl<;>simp [ownF,h1,h2,ha,preS,preW],fun h=>by simp [Tr.Ok] at h⟩
 | two k a b iha ihb=>exact ⟨fun h n hh f hf w=>by
   obtain ⟨f,rfl⟩:∃g,f=g+1:=⟨f-1,by simp [Tr.size] at hf;omega⟩
   simp only [Tr.size] at hf
   simp only [Tr.flat] at hh
   have ha:=iha.1 h.2.2.1 n hh.left f (by omega) (oneW k)
   have hh2:=hh.right (a.flat_len n)
   have hb:=ihb.1 h.2.2.2 _ hh2.left f (by omega) (nextW k)
   have hg:=(hh2.right (b.flat_len _)).get.1
   have hn:(rtN n (a.size+b.size+1)).toNat=n+a.size+b.size:=by simp [rtN];omega
   rw [←hn] at hg
   have e:(Tr.two k a b).size=a.size+b.size+1:=rfl
   rw [e,wrap_eq (s:=a.tx (oneW k)++([32]++signF k++[32]++b.tx (nextW k))) hg ?_]
   ·rfl
   ·generalize xs.getD _ zEx=y at hg ⊢
    have h1:y.k=k:=congrArg Ex.k hg
    have h2:y.a=rtN n a.size:=congrArg Ex.a hg
    have h3:y.b=rtN (n+a.size) b.size:=congrArg Ex.b hg
    rcases h.2.1 with rfl | rfl | rfl | rfl | rfl | rfl | rfl | rfl | rfl | rfl | rfl<;>simp only [ownF,h1,h2,h3,ha,hb]<;>rfl,fun h=>by simp [Tr.Ok] at h⟩
 | ite a b c iha ihb ihc=>exact ⟨fun h n hh f hf w=>by
   obtain ⟨f,rfl⟩:∃g,f=g+1:=⟨f-1,by simp [Tr.size] at hf;omega⟩
   simp only [Tr.size] at hf
   simp only [Tr.flat] at hh
   have ha:=iha.1 h.2.1 n hh.left f (by omega) 0
   have hh2:=hh.right (a.flat_len n)
   have hb:=ihb.1 h.2.2.1 _ hh2.left f (by omega) 0
   have hh3:=hh2.right (b.flat_len _)
   have hc:=ihc.1 h.2.2.2 _ hh3.left f (by omega) 0
   have hg:=(hh3.right (c.flat_len _)).get.1
   have hn:(rtN n (a.size+b.size+c.size+1)).toNat=n+a.size+b.size+c.size:=by simp [rtN];omega
   rw [←hn] at hg
   have e:(Tr.ite a b c).size=a.size+b.size+c.size+1:=rfl
   rw [e,wrap_eq (s:=[105,102,32]++(a.tx 0++([32,116,104,101,110,32]++(b.tx 0++([32,101,108,115,101,32]++c.tx 0))))) hg ?_]
   ·rfl
   ·generalize xs.getD _ zEx=y at hg ⊢
    have h1:y.k=15:=congrArg Ex.k hg
    have h2:y.a=rtN n a.size:=congrArg Ex.a hg
    have h3:y.b=rtN (n+a.size) b.size:=congrArg Ex.b hg
    have h4:y.c=rtN (n+a.size+b.size) c.size:=congrArg Ex.c hg
    simp [ownF,h1,h2,h3,h4,ha,hb,hc],fun h=>by simp [Tr.Ok] at h⟩
 | call m l ihl=>exact ⟨fun h n hh f hf w=>by
   obtain ⟨f,rfl⟩:∃g,f=g+1:=⟨f-1,by simp [Tr.size] at hf;omega⟩
   simp only [Tr.size] at hf
   simp only [Tr.flat] at hh
   have ha:=(ihl.2 h.2.2 n hh.left f (by omega)).1
   have hg:=(hh.right (l.flat_len n)).get.1
   have hn:(rtN n (l.size+1)).toNat=n+l.size:=by simp [rtN];omega
   rw [←hn] at hg
   have e:(Tr.call m l).size=l.size+1:=rfl
   rw [e,wrap_eq (s:=(m++[40])++(l.tx 0++[41])) hg ?_]
   ·rfl
   ·generalize xs.getD _ zEx=y at hg ⊢
    have h1:y.k=19:=congrArg Ex.k hg
    have h2:y.n=m:=congrArg Ex.n hg
    have h3:y.args=l.idx n:=congrArg Ex.args hg
    simp [ownF,h1,h2,h3,ha],fun h=>by simp [Tr.Ok] at h⟩
 | nil=>exact ⟨fun h=>by simp [Tr.Ok] at h,fun h n hh f hf=>⟨rfl,rfl⟩⟩
 | arg a l iha ihl=>exact ⟨fun h=>by simp [Tr.Ok] at h,fun h n hh f hf=>by
   simp only [Tr.size] at hf
   simp only [Tr.flat] at hh
   have ha:=iha.1 h.2.1 n hh.left f (by omega) 0
   have hl:=(ihl.2 h.2.2 _ (hh.right (a.flat_len n)) f (by omega)).2
   refine ⟨?_,?_⟩
   ·simp only [Tr.idx,args_flat,Tr.tx,if_true,List.nil_append,ha,hl]
   ·simp only [Tr.idx,Tr.tx,List.flatMap_cons,ha,hl]
    simp⟩
end Go.Proofs.YtgkhmmlemgikjaaGreatDoor
namespace Go.Proofs.YtgkhmmlemgikjaaGreatDoor
open Go Ai
def nE (t:Int) (d:Nat):Nat:=if t=0 then d else d+1
def nW (t w:Int) (d:Nat):Nat:=if t<w then nE t d+1 else d
def Tr.dp:Tr→Nat
 | .pre _ a=>1+nW a.tight 6 a.dp
 | .two k a b=>if tightF k=0 then 1+max (nW a.tight 1 a.dp) (nE b.tight b.dp) else max (nW a.tight (oneW k) a.dp) (nW b.tight (nextW k) b.dp)
 | .ite a b c=>1+max (nE a.tight a.dp) (max (nE b.tight b.dp) (nE c.tight c.dp))
 | .call _ l=>1+l.dp
 | .nil=>0
 | .arg a l=>max (nE a.tight a.dp) l.dp
 | _=>1
def Tr.need (t:Tr) (w:Int):Nat:=if w=0 then nE t.tight t.dp else nW t.tight w t.dp
def LexOk (L:List Tk):Prop:=∀t∈L,(t.kind=1→NmOk t.text)∧(t.kind=2→0≤t.v∧t.v≤9223372036854775807)
structure Made (t:Tr) (w:Int) (f:Nat) (R:Rd) (q:Int×Rd):Prop where
 ok:t.Ok true
 need:t.need w≤f
 xs:q.2.xs.map Ex.z=R.xs.map Ex.z++t.flat R.xs.length
 rt:q.1=rtN R.xs.length t.size
 len:(t.tk w).length+R.i≤q.2.i
def MadeE (w:Int) (f:Nat) (E:RM Int):Prop:=∀R,R.c=0→(E R).2.c=0→∃t,Made t w f R (E R)
theorem wrapK_len {t w:Int} {k:List Tk}:(wrapK t w k).length=k.length+if t<w then 2 else 0:=by
 unfold wrapK
 split<;>simp
theorem Tr.tk_wrap {t:Tr} (h:t.Ok true):∃k,∀w,t.tk w=wrapK t.tight w k:=by
 cases t<;>first | exact ⟨_,fun w=>rfl⟩ | simp [Tr.Ok] at h
theorem Tr.tk_le {t:Tr} (h:t.Ok true) {w w':Int}:(t.tk w').length≤(t.tk w).length+2∧(w'≤w→(t.tk w').length≤(t.tk w).length):=by
 obtain ⟨k,hk⟩:=tk_wrap h
 rw [hk,hk,wrapK_len,wrapK_len]
 refine ⟨by split<;>split<;>omega,fun hw=>by split<;>split<;>omega⟩
theorem tight_two {k:Int} (h:TwoK k):0≤tightF k∧tightF k≤5∧(tightF k=0↔k=17∨k=18)∧oneW k=(if tightF k=3 then 4 else if tightF k=0 then 1 else tightF k)∧nextW k=(if tightF k=3 then 4 else if tightF k=0 then 0 else tightF k+1):=by
 rcases h with rfl | rfl | rfl | rfl | rfl | rfl | rfl | rfl | rfl | rfl | rfl<;>decide
theorem Tr.tight_ge {t:Tr} (h:t.Ok true):0≤t.tight:=by
 cases t<;>simp [Tr.Ok,Tr.tight] at h ⊢
 exact (tight_two h.1).1
theorem Tr.need_mono {t:Tr} (h:t.Ok true) {w w':Int} (h0:0<w) (hw:w≤w'):t.need w≤t.need w':=by
 unfold Tr.need nW nE
 rw [if_neg (show ¬w=0 by omega),if_neg (show ¬w'=0 by omega)]
 repeat' split
 all_goals omega
theorem Made.mono {t:Tr} {w w':Int} {f:Nat} {R:Rd} {q:Int×Rd} (h:Made t w f R q) (h0:0<w') (hw:w'≤w):Made t w' f R q :=
 ⟨h.ok,Nat.le_trans (h.ok |> fun ho=>Tr.need_mono ho h0 hw) h.need,h.xs,h.rt,by have:=(Tr.tk_le h.ok (w:=w) (w':=w')).2 hw;have:=h.len;omega⟩
section
variable {L:List Tk} {R:Rd}
theorem want_ok {w:Sx} (h:(wantR L w R).c=0):wantR L w R=R.adv∧R.c=0:=by
 unfold wantR at h ⊢
 split at h
 ·rename_i hw
  rw [if_pos hw];exact ⟨rfl,isR_c hw⟩
 ·unfold failR at h
  split at h
  ·cases h
  ·contradiction
theorem nameR_ok (hL:LexOk L) (h:(nameR L R).2.c=0):(nameR L R).2=R.adv∧R.c=0∧NmOk (nameR L R).1:=by
 unfold nameR at h ⊢
 split at h
 ·rename_i hw
  rw [if_pos hw]
  refine ⟨rfl,hw.1,?_⟩
  have hm:tkF L R∈L:=by
   unfold tkF
   rw [List.getD_eq_getElem?_getD]
   cases hg:L[R.i]? with
   | none=>have:=hw.2;rw [tkF,List.getD_eq_getElem?_getD,hg] at this;cases this
   | some x=>exact List.mem_of_getElem? hg
  exact (hL _ hm).1 hw.2
 ·unfold failR at h
  split at h
  ·cases h
  ·contradiction
theorem tk_mem (h:(tkF L R).kind≠5):tkF L R∈L:=by
 unfold tkF at h ⊢
 rw [List.getD_eq_getElem?_getD] at h ⊢
 cases hg:L[R.i]? with
 | none=>rw [hg] at h;exact absurd rfl h
 | some x=>exact List.mem_of_getElem? hg
theorem adv_i:R.adv.i=R.i+1:=rfl
theorem adv_xs:R.adv.xs=R.xs:=rfl
theorem rt_put {n s:Nat}:((n+s:Nat):Int)=rtN n (s+1):=by simp [rtN]
theorem len_xs {xs ys:List Ex} {l:List Ex} (h:xs.map Ex.z=ys.map Ex.z++l):xs.length=ys.length+l.length:=by
 have:=congrArg List.length h
 simpa using this
theorem Made.leaf {t:Tr} {f:Nat} {x:Ex} {R':Rd} (ho:t.Ok true) (hn:t.need 6≤f) (hx:t.flat R.xs.length=[x.z]) (hs:R'.xs=R.xs) (hl:(t.tk 6).length+R.i≤R'.i) (h1:t.size=1):Made t 6 f R (putR x R'):=by
 refine ⟨ho,hn,?_,?_,hl⟩
 ·simp [putR,hs,hx]
 ·rw [h1];simp [putR,hs,rtN]
theorem made_args (E:RM Int) {f:Nat} (hE:MadeE 0 f E) (gE:GoesOn E):∀(m:Nat) (l:List Int) (R:Rd),R.c=0→(argsF L E m l R).2.c=0→∃tl:Tr,tl.Ok false∧tl.dp≤f∧(argsF L E m l R).1=l++tl.idx R.xs.length∧(argsF L E m l R).2.xs.map Ex.z=R.xs.map Ex.z++tl.flat R.xs.length∧(tl.tk 1).length+R.i≤(argsF L E m l R).2.i
 | 0,l,R,_,_=>⟨.nil,rfl,Nat.zero_le _,by simp [argsF,Tr.idx],by simp [argsF,Tr.flat],by simp [argsF,Tr.tk]⟩
 | m+1,l,R,hc,h=>by
  simp only [argsF] at h ⊢
  split at h
  ·rename_i hw
   rw [if_pos hw]
   have hz:(E R.adv).2.c=0:=(Step.args gE _ _ _).c h
   obtain ⟨a,ha⟩:=hE R.adv hc hz
   obtain ⟨tl,h1,h2,h3,h4,h5⟩:=made_args E hE gE m _ _ hz h
   have hlen:=len_xs ha.xs
   rw [Tr.flat_len] at hlen
   have e:R.adv.xs=R.xs:=rfl
   rw [e] at hlen
   have hrt:=ha.rt
   rw [e] at hrt
   refine ⟨.arg a tl,⟨rfl,ha.ok,h1⟩,?_,?_,?_,?_⟩
   ·have:=ha.need
    simp only [Tr.need,if_true] at this
    simp only [Tr.dp];omega
   ·rw [h3,hlen,hrt];simp [Tr.idx]
   ·rw [h4,ha.xs,hlen];simp [Tr.flat,e]
   ·have:=ha.len
    rw [adv_i] at this
    simp only [Tr.tk,List.length_append,if_neg (show ¬(1:Int)=0 by decide),List.length_cons,List.length_nil];omega
  ·rename_i hw
   rw [if_neg hw]
   exact ⟨.nil,rfl,Nat.zero_le _,by simp [Tr.idx],by simp [Tr.flat],by simp [Tr.tk]⟩
theorem made_call {E:RM Int} {f:Nat} (hE:MadeE 0 f E) (gE:GoesOn E) (hc:R.c=0) (h:(callF L E R).2.c=0):∃tl:Tr,tl.Ok false∧tl.dp≤f∧(callF L E R).1=tl.idx R.xs.length∧(callF L E R).2.xs.map Ex.z=R.xs.map Ex.z++tl.flat R.xs.length∧(tl.tk 0).length+1+R.i≤(callF L E R).2.i:=by
 unfold callF at h ⊢
 split at h
 ·rename_i hw
  rw [if_pos hw]
  exact ⟨.nil,rfl,Nat.zero_le _,rfl,by simp [Tr.flat,Rd.adv],by simp [Tr.tk,Rd.adv];omega⟩
 ·rename_i hw
  rw [if_neg hw]
  simp only [] at h ⊢
  obtain ⟨w1,w2⟩:=want_ok h
  rw [w1]
  have hz:(E R).2.c=0:=(Step.args gE _ _ _).c w2
  obtain ⟨a,ha⟩:=hE _ hc hz
  obtain ⟨tl,h1,h2,h3,h4,h5⟩:=made_args E hE gE _ _ _ hz w2
  have hlen:=len_xs ha.xs
  rw [Tr.flat_len] at hlen
  refine ⟨.arg a tl,⟨rfl,ha.ok,h1⟩,?_,?_,?_,?_⟩
  ·have:=ha.need
   simp only [Tr.need,if_true] at this
   simp only [Tr.dp];omega
  ·rw [h3,hlen,ha.rt];simp [Tr.idx]
  ·show (argsF L E L.length [(E R).1] (E R).2).2.xs.map Ex.z=_
   rw [h4,ha.xs,hlen];simp [Tr.flat]
  ·have:=ha.len
   simp only [Tr.tk,List.length_append,if_true,List.length_nil]
   show _≤(argsF L E L.length [(E R).1] (E R).2).2.i+1
   omega
theorem made_atom (hL:LexOk L) {E:RM Int} {f:Nat} (hE:MadeE 0 f E) (gE:GoesOn E):MadeE 6 (f+1) (atomF L E):=fun R hc h=>by
 unfold atomF at h ⊢
 simp only [] at h ⊢
 by_cases h2:(tkF L R).kind=2
 ·rw [if_pos h2]
  have hm:=(hL _ (tk_mem (R:=R) (by omega))).2 h2
  exact ⟨.num (tkF L R).v,Made.leaf ⟨rfl,hm⟩ (by simp [Tr.need,nW,Tr.tight,Tr.dp]) rfl rfl (by simp [Tr.tk,wrapK,Rd.adv];omega) rfl⟩
 rw [if_neg h2] at h ⊢
 by_cases h3:isR L [116,114,117,101] R=true
 ·rw [if_pos h3]
  exact ⟨.bool true,Made.leaf rfl (by simp [Tr.need,nW,Tr.tight,Tr.dp]) rfl rfl (by simp [Tr.tk,wrapK,Rd.adv];omega) rfl⟩
 rw [if_neg h3] at h ⊢
 by_cases h4:isR L [102,97,108,115,101] R=true
 ·rw [if_pos h4]
  exact ⟨.bool false,Made.leaf rfl (by simp [Tr.need,nW,Tr.tight,Tr.dp]) rfl rfl (by simp [Tr.tk,wrapK,Rd.adv];omega) rfl⟩
 rw [if_neg h4] at h ⊢
 by_cases h5:(tkF L R).kind=1
 ·rw [if_pos h5] at h ⊢
  have hm:=(hL _ (tk_mem (R:=R) (by omega))).1 h5
  by_cases h6:isR L [105,115] R.adv=true
  ·rw [if_pos h6] at h ⊢
   have hz:(nameR L R.adv.adv).2.c=0:=h
   obtain ⟨n1,_,n2⟩:=nameR_ok hL hz
   exact ⟨.isS (tkF L R).text (nameR L R.adv.adv).1,Made.leaf ⟨rfl,hm,n2⟩ (by simp [Tr.need,nW,Tr.tight,Tr.dp]) rfl (by rw [n1];rfl) (by rw [n1];simp [Tr.tk,wrapK,Rd.adv];omega) rfl⟩
  rw [if_neg h6] at h ⊢
  by_cases h7:isR L [40] R.adv=true
  ·rw [if_pos h7] at h ⊢
   have hz:(callF L E R.adv.adv).2.c=0:=h
   obtain ⟨tl,g1,g2,g3,g4,g5⟩:=made_call hE gE (R:=R.adv.adv) hc hz
   have e:R.adv.adv.xs=R.xs:=rfl
   rw [e] at g3 g4
   have hlen:=len_xs g4
   rw [Tr.flat_len] at hlen
   refine ⟨.call (tkF L R).text tl,⟨rfl,hm,g1⟩,?_,?_,?_,?_⟩
   ·simp [Tr.need,nW,Tr.tight,Tr.dp];omega
   ·simp [putR,g4,Tr.flat,g3,Ex.z]
   ·simp only [putR];rw [hlen];exact rt_put
   ·simp [Tr.tk,wrapK,putR,Rd.adv] at g5 ⊢;omega
  ·rw [if_neg h7]
   exact ⟨.name (tkF L R).text,Made.leaf ⟨rfl,hm⟩ (by simp [Tr.need,nW,Tr.tight,Tr.dp]) rfl rfl (by simp [Tr.tk,wrapK,Rd.adv];omega) rfl⟩
 rw [if_neg h5] at h ⊢
 obtain ⟨w1,w2⟩:=want_ok h
 have hw:=(gE _).c w2
 obtain ⟨v1,v2⟩:=want_ok hw
 rw [v1] at w2 w1 ⊢
 rw [w1]
 obtain ⟨t,ht⟩:=hE R.adv hc w2
 refine ⟨t,ht.ok,?_,ht.xs,ht.rt,?_⟩
 ·have:=ht.need
  simp only [Tr.need,if_true] at this
  simp [Tr.need,nW]
  unfold nE at this ⊢
  repeat' split
  all_goals split at this<;>omega
 ·have:=ht.len
  have:=(Tr.tk_le ht.ok (w:=0) (w':=6)).1
  simp [Rd.adv] at *;omega
theorem made_pref (hL:LexOk L) {E P:RM Int} {f:Nat} (hE:MadeE 0 f E) (hP:MadeE 6 f P) (gE:GoesOn E):MadeE 6 (f+1) (prefB L E P):=fun R hc h=>by
 unfold prefB at h ⊢
 by_cases h0:preR L R=0
 ·rw [if_pos h0] at h ⊢
  exact made_atom hL hE gE R hc h
 ·rw [if_neg h0] at h ⊢
  have hk:preR L R=4∨preR L R=5∨preR L R=16∨preR L R=21:=by
   rcases pre_cases (L:=L) (R:=R) with ⟨h1,_⟩ | ⟨e,he,h1,_⟩
   ·exact absurd h1 h0
   ·rw [h1]
    simp only [preTab,List.mem_cons,List.mem_nil_iff,or_false] at he
    rcases he with rfl | rfl | rfl | rfl<;>simp
  have hz:(P R.adv).2.c=0:=h
  obtain ⟨a,ha⟩:=hP R.adv hc hz
  have hx:=ha.xs
  have hr:=ha.rt
  have e:R.adv.xs=R.xs:=rfl
  rw [e] at hx hr
  have hlen:=len_xs hx
  rw [Tr.flat_len] at hlen
  refine ⟨.pre (preR L R) a,⟨rfl,hk,ha.ok⟩,?_,?_,?_,?_⟩
  ·have:=ha.need
   simp [Tr.need,nW,Tr.tight,Tr.dp] at this ⊢;omega
  ·simp [putR,hx,Tr.flat,hr,Ex.z]
  ·simp only [putR];rw [hlen];exact rt_put
  ·have:=ha.len
   simp [Tr.tk,wrapK,putR,Rd.adv] at this ⊢;omega
theorem Made.two {a b:Tr} {k w w1 w2 p:Int} {f n:Nat} {q1 q2:Int×Rd} (hk:TwoK k) (hw:w=tightF k) (h1:oneW k=w1) (h2:nextW k=w2) (ha:Made a w1 f R q1) {R2:Rd} (hx2:R2.xs=q1.2.xs) (hi2:R2.i=q1.2.i+1) (hb:Made b w2 f R2 q2) (hf:(if tightF k=0 then f+1 else f)≤n):Made (.two k a b) w n R (putR ⟨k,q1.1,q2.1,0,[],[],0,[],.tight,p⟩ q2.2):=by
 have hl1:=len_xs ha.xs
 rw [Tr.flat_len] at hl1
 have hx:=hb.xs
 have hr:=hb.rt
 rw [hx2] at hx hr
 have hl2:=len_xs hx
 rw [Tr.flat_len] at hl2
 subst h1 h2 hw
 obtain ⟨t0,t5,tz,t1,t2⟩:=tight_two hk
 refine ⟨⟨rfl,hk,ha.ok,hb.ok⟩,?_,?_,?_,?_⟩
 ·have n1:=ha.need
  have n2:=hb.need
  rw [t1] at n1;rw [t2] at n2
  by_cases h0:tightF k=0
  ·have m1:nW a.tight 1 a.dp≤f:=by simpa [h0,Tr.need] using n1
   have m2:nE b.tight b.dp≤f:=by simpa [h0,Tr.need] using n2
   rw [if_pos h0] at hf
   show (if tightF k=0 then nE (tightF k) (Tr.dp (.two k a b)) else _)≤n
   rw [if_pos h0,h0,Tr.dp,if_pos h0]
   show 1+max _ _≤n
   omega
  ·rw [if_neg h0] at hf
   have e1:¬oneW k=0:=by rw [t1];split<;>simp_all
   have e2:¬nextW k=0:=by rw [t2];split<;>simp_all;omega
   rw [←t1] at n1;rw [←t2] at n2
   simp only [Tr.need,if_neg e1,if_neg e2] at n1 n2
   show (if tightF k=0 then _ else nW (tightF k) (tightF k) (Tr.dp (.two k a b)))≤n
   rw [if_neg h0,nW,if_neg (by omega),Tr.dp,if_neg h0]
   omega
 ·simp only [putR,List.map_append,hx,ha.xs,Tr.flat,hl1,ha.rt,hr]
  simp [Ex.z]
 ·simp only [putR,Tr.size]
  rw [hl2,hl1,Nat.add_assoc];exact rt_put
 ·have:=ha.len
  have:=hb.len
  simp [Tr.tk,wrapK_len,putR] at *;omega
theorem made_chain {B:RM Int} {f:Nat} {least:Int} (h1:1≤least) (h5:least≤5) (hB:MadeE (least+1) f B) (gB:GoesOn B) {R0:Rd}:∀(m:Nat) (a:Tr) (i:Int) (R:Rd),R.c=0→Made a (if least=3 then 4 else least) f R0 (i,R)→(chainF L B least m i R).2.c=0→∃t,Made t least f R0 (chainF L B least m i R)
 | 0,a,i,R,_,ha,_=>⟨a,ha.mono (by omega) (by split<;>omega)⟩
 | m+1,a,i,R,hc,ha,h=>by
  simp only [chainF,hc,if_true] at h ⊢
  by_cases hlv:(levelR L R).1=least
  ·simp only [if_pos hlv] at h ⊢
   obtain ⟨e,he,h2,_⟩:∃e∈lvTab,levelR L R=e.2∧isR L e.1 R=true:=by
    rcases level_cases (L:=L) hc with ⟨h0,_⟩ | h2
    ·rw [h0] at hlv;simp at hlv;omega
    ·exact h2
   have hk:TwoK (levelR L R).2∧tightF (levelR L R).2=(levelR L R).1:=by
    rw [h2]
    simp only [lvTab,List.mem_cons,List.mem_nil_iff,or_false] at he
    rcases he with rfl | rfl | rfl | rfl | rfl | rfl | rfl | rfl | rfl<;>exact ⟨by simp [TwoK],rfl⟩
   rw [hlv] at hk
   obtain ⟨_,_,_,t1,t2⟩:=tight_two hk.1
   rw [hk.2] at t1 t2
   have l0:¬least=0:=by omega
   rw [if_neg l0] at t1 t2
   have hbc:(B R.adv).2.c=0:=by
    split at h
    ·exact h
    ·have h9:=(Step.chain gB m _ _).c h
     exact h9
   obtain ⟨b,hb⟩:=hB R.adv hc hbc
   have hm:Made (.two (levelR L R).2 a b) least f R0 (putR ⟨(levelR L R).2,i,(B R.adv).1,0,[],[],0,[],.tight,posF L R⟩ (B R.adv).2) :=
    Made.two (R2:=R.adv) hk.1 hk.2.symm t1 (by rw [t2];split<;>omega) ha rfl rfl hb (by rw [hk.2,if_neg l0];exact Nat.le_refl _)
   by_cases h3:least=3
   ·rw [if_pos h3];exact ⟨_,hm⟩
   ·rw [if_neg h3] at h ⊢
    have hm':Made (.two (levelR L R).2 a b) (if least=3 then 4 else least) f R0 (putR ⟨(levelR L R).2,i,(B R.adv).1,0,[],[],0,[],.tight,posF L R⟩ (B R.adv).2):=by rw [if_neg h3];exact hm
    exact made_chain h1 h5 hB gB m _ _ (putR ⟨(levelR L R).2,i,(B R.adv).1,0,[],[],0,[],.tight,posF L R⟩ (B R.adv).2).2 hbc hm' h
  ·simp only [if_neg hlv]
   exact ⟨a,ha.mono (by omega) (by split<;>omega)⟩
theorem made_bin {P:RM Int} {f:Nat} (hP:MadeE 6 f P) (gP:GoesOn P):∀n:Nat,n≤5→MadeE (6-n) f (binF L P n)
 | 0,_=>by rw [show ((6:Int)-((0:Nat):Int))=6 from rfl];exact hP
 | n+1,hn=>fun R hc h=>by
  have ih:=made_bin hP gP n (by omega)
  simp only [binF] at h ⊢
  have hz:(binF L P n R).2.c=0:=(Step.chain (Step.bin gP n) _ _ _).c h
  obtain ⟨a,ha⟩:=ih R hc hz
  have e:(6-((n+1:Nat):Int))=5-(n:Int):=by omega
  rw [e]
  refine made_chain (by omega) (by omega) (by have : 5 - (n : Int) + 1 = 6 - n := by omega
                                              rw [this];exact ih) (Step.bin gP n) _ a _ _ hz (ha.mono (by split<;>omega) (by split<;>omega)) h
theorem made_expr {E P:RM Int} {f:Nat} (hE:MadeE 0 f E) (hP:MadeE 6 f P) (gE:GoesOn E) (gP:GoesOn P):MadeE 0 (f+1) (exprB L E P):=fun R hc h=>by
 unfold exprB at h ⊢
 by_cases h0:isR L [105,102] R=true
 ·rw [if_pos h0] at h ⊢
  simp only [] at h ⊢
  have hc3:(E (wantR L [101,108,115,101] (E (wantR L [116,104,101,110] (E R.adv).2)).2)).2.c=0:=h
  obtain ⟨w3,hc2⟩:=want_ok ((gE _).c hc3)
  obtain ⟨w2,hc1⟩:=want_ok ((gE _).c hc2)
  obtain ⟨a,ha⟩:=hE R.adv hc hc1
  rw [w2] at hc2 w3 hc3 ⊢
  rw [w3] at hc3 ⊢
  obtain ⟨b,hb⟩:=hE (E R.adv).2.adv hc1 hc2
  obtain ⟨c,hcc⟩:=hE (E (E R.adv).2.adv).2.adv hc2 hc3
  have x1:=ha.xs
  have r1:=ha.rt
  have x2:=hb.xs
  have r2:=hb.rt
  have x3:=hcc.xs
  have r3:=hcc.rt
  have i1:=ha.len
  have i2:=hb.len
  have i3:=hcc.len
  have n1:=ha.need
  have n2:=hb.need
  have n3:=hcc.need
  have o1:=ha.ok
  have o2:=hb.ok
  have o3:=hcc.ok
  clear ha hb hcc
  simp only [adv_xs,adv_i] at x1 r1 x2 r2 x3 r3 i1 i2 i3 ⊢
  have l1:=len_xs x1
  have l2:=len_xs x2
  have l3:=len_xs x3
  rw [Tr.flat_len] at l1 l2 l3
  refine ⟨.ite a b c,⟨rfl,o1,o2,o3⟩,?_,?_,?_,?_⟩
  ·have m1:nE a.tight a.dp≤f:=by simpa [Tr.need] using n1
   have m2:nE b.tight b.dp≤f:=by simpa [Tr.need] using n2
   have m3:nE c.tight c.dp≤f:=by simpa [Tr.need] using n3
   show 1+max _ (max _ _)≤f+1
   omega
  ·simp only [putR,List.map_append,x3,x2,x1,Tr.flat,l2,l1,r1,r2,r3]
   simp [Ex.z]
  ·simp only [putR,Tr.size]
   rw [l3,l2,l1,Nat.add_assoc,Nat.add_assoc,←Nat.add_assoc a.size];exact rt_put
  ·simp [Tr.tk,wrapK_len,putR];omega
 ·rw [if_neg h0] at h ⊢
  simp only [] at h ⊢
  have hb:(binF L P 5 R).2.c=0:=by
   split at h
   ·exact (gE (binF L P 5 R).2.adv).c h
   ·exact h
  obtain ⟨a,ha⟩:=made_bin hP gP 5 (Nat.le_refl _) R hc hb
  have e:(6-((5:Nat):Int))=1:=rfl
  rw [e] at ha
  by_cases h2:(isR L [45,62] (binF L P 5 R).2 || isR L [102,98,121] (binF L P 5 R).2)=true
  ·rw [if_pos h2] at h ⊢
   have hz:(E (binF L P 5 R).2.adv).2.c=0:=h
   obtain ⟨b,hbb⟩:=hE (binF L P 5 R).2.adv hb hz
   have hk:∀b:Bool,TwoK (if b=true then 18 else 17)∧0=tightF (if b=true then 18 else 17)∧oneW (if b=true then 18 else 17)=1∧nextW (if b=true then 18 else 17)=0:=by
    intro b
    cases b<;>exact ⟨by simp [TwoK],rfl,rfl,rfl⟩
   have hk':=hk (isR L [102,98,121] (binF L P 5 R).2)
   exact ⟨_,Made.two (R2:=(binF L P 5 R).2.adv) (w:=0) (w1:=1) (w2:=0) (n:=f+1) hk'.1 hk'.2.1 hk'.2.2.1 hk'.2.2.2 ha rfl rfl hbb (by rw [←hk'.2.1];exact Nat.le_refl _)⟩
  ·rw [if_neg h2]
   refine ⟨a,ha.ok,?_,ha.xs,ha.rt,?_⟩
   ·have n1:=ha.need
    have:=Tr.tight_ge ha.ok
    simp [Tr.need,nW,nE] at n1 ⊢
    repeat' split
    all_goals (split at n1;all_goals omega)
   ·have:=ha.len
    have:=(Tr.tk_le ha.ok (w:=1) (w':=0)).2 (by omega)
    omega
theorem made_ep (hL:LexOk L):∀f,MadeE 0 f (epF L f).1∧MadeE 6 f (epF L f).2
 | 0=>⟨fun R hc h=>by simp [epF,failR,hc] at h,fun R hc h=>by simp [epF,failR,hc] at h⟩
 | f+1=>by
  have ih:=made_ep hL f
  have gs:=Step.ep (L:=L) f
  refine ⟨fun R hc h=>?_,fun R hc h=>?_⟩
  ·simp only [epF,hc,if_true] at h ⊢
   exact made_expr ih.1 ih.2 gs.1 gs.2 R hc h
  ·simp only [epF,hc,if_true] at h ⊢
   exact made_pref hL ih.1 ih.2 gs.1 R hc h
theorem made_exprF (hL:LexOk L):MadeE 0 30 (exprF L):=(made_ep hL 30).1
end
end Go.Proofs.YtgkhmmlemgikjaaGreatDoor
