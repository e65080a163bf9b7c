/- Part Kf. No condition. -/
import Derived.Test.YtgkhmmlemgikjaaGreatDoorKd
import Derived.Test.YtgkhmmlemgikjaaGreatDoorEd
set_option linter.unusedVariables false
set_option linter.unusedSimpArgs false
namespace Go.Proofs.YtgkhmmlemgikjaaGreatDoor.Lx
open Go Ai Go.Proofs.YtgkhmmlemgikjaaGreatDoor
theorem wrap_u64 {n:Int} (h0:0≤n) (h1:n<18446744073709551616):IntKind.u64.wrap n=n:=by
 simp [IntKind.wrap,IntKind.signed,IntKind.bits];omega
theorem wrap_u8 {n:Int} (h0:0≤n) (h1:n<256):IntKind.u8.wrap n=n:=by
 simp [IntKind.wrap,IntKind.signed,IntKind.bits];omega
theorem tmodN {u:Nat} {b:Int}:(u:Int).tmod b=(u:Int) % b:=Int.tmod_eq_emod_of_nonneg (by omega)
attribute [simp] tmodN
def digP (k:Nat):Bool:=decide (48≤k) && decide (k≤57)
def digB (c:UInt8):Bool:=digP c.toNat
def cutAt (c:UInt8):List UInt8→Option (List UInt8×List UInt8)
 | []=>none
 | b::l=>if b=c then some ([],l) else (cutAt c l).map fun x=>(b::x.1,x.2)
theorem cutAt_some {c:UInt8}:∀{s x y:List UInt8},cutAt c s=some (x,y)→Lib.indexByte s c=x.length∧s=x++c::y∧c ∉ x
 | [],_,_,h=>by cases h
 | b::l,x,y,h=>by
  unfold cutAt at h
  split at h
  ·rename_i hb
   cases h
   exact ⟨by simp [Lib.indexByte,hb],by simp [hb],by simp⟩
  ·rename_i hb
   simp only [Option.map_eq_some_iff] at h
   obtain ⟨⟨x1,y1⟩,h,e⟩:=h
   cases e
   obtain ⟨h1,h2,h3⟩:=cutAt_some h
   have hn:¬Lib.indexByte l c=-1:=by rw [h1];omega
   refine ⟨by simp [Lib.indexByte,hb,h1],by simp [←h2],?_⟩
   simp only [List.mem_cons,not_or]
   exact ⟨fun e=>hb e.symm,h3⟩
def okD (s:List UInt8) (n:Nat):Bool:=decide (1≤s.length) && decide (s.length≤n) && s.all digB
def okA (x:List UInt8):Bool:=okD x 10 && !(decide (1<x.length) && decide (x.head?=some 48))
def partsAv (s:List UInt8):Option (List UInt8×List UInt8):=match cutAt 46 s with
 | none=>if okA s then some (s,[]) else none
 | some (x,y)=>if okA x && okD y 40 then some (x,y) else none
def decN (l:List UInt8):Nat:=l.foldl (fun n c=>10 * n+(c.toNat-48)) 0
theorem decN_snoc (l:List UInt8) (c:UInt8):decN (l++[c])=10 * decN l+(c.toNat-48):=by simp [decN]
theorem digB_iff {c:UInt8}:digB c=true↔48≤c.toNat∧c.toNat≤57:=by simp [digB,digP]
theorem decN_lt:∀(n:Nat) (l:List UInt8),l.length=n→(∀c∈l,digB c=true)→decN l<10 ^ n
 | 0,l,h,_=>by
  have:l=[]:=List.eq_nil_of_length_eq_zero h
  subst this;simp [decN]
 | n+1,l,h,hd=>by
  rcases List.eq_nil_or_concat l with rfl | ⟨l',c,rfl⟩
  ·simp at h
  ·rw [List.concat_eq_append] at *
   have h1:=decN_lt n l' (by simpa using h) fun c hc=>hd c (by simp [hc])
   have h2:=digB_iff.1 (hd c (by simp))
   rw [decN_snoc,Nat.pow_succ];omega
def dbl:List Nat→Nat×List Nat
 | []=>(0,[])
 | d::l=>((2 * d+(dbl l).1) / 10,(2 * d+(dbl l).1) % 10::(dbl l).2)
theorem dbl_length:∀l,(dbl l).2.length=l.length
 | []=>rfl
 | d::l=>by simp [dbl,dbl_length l]
theorem dbl_lt:∀l:List Nat,∀d∈(dbl l).2,d<10
 | [],d,h=>by simp [dbl] at h
 | x::l,d,h=>by
  simp only [dbl,List.mem_cons] at h
  rcases h with rfl | h
  ·exact Nat.mod_lt _ (by decide)
  ·exact dbl_lt l d h
theorem dbl_carry:∀l:List Nat,(∀d∈l,d<10)→(dbl l).1≤1
 | [],_=>by simp [dbl]
 | x::l,h=>by
  have h1:=dbl_carry l fun d hd=>h d (by simp [hd])
  have h2:=h x (by simp)
  simp only [dbl];omega
def fracN:Nat→List Nat→Nat→Nat
 | 0,_,u=>u
 | k+1,l,u=>fracN k (dbl l).2 (2 * u+(dbl l).1)
theorem fracN_lt:∀(k:Nat) (l:List Nat) (u n:Nat),(∀d∈l,d<10)→u<2 ^ n→fracN k l u<2 ^ (n+k)
 | 0,_,_,_,_,h=>h
 | k+1,l,u,n,hd,h=>by
  have h1:=dbl_carry l hd
  have:=fracN_lt k (dbl l).2 (2 * u+(dbl l).1) (n+1) (dbl_lt l) (by rw [Nat.pow_succ];omega)
  rw [fracN,show n+(k+1)=n+1+k by omega];exact this
def digsOf (s:List UInt8):List Nat:=s.map fun c=>c.toNat-48
theorem okD_all {s:List UInt8} {n:Nat} (h:okD s n=true):s.length≤n∧∀c∈s,digB c=true:=by
 simp only [okD,Bool.and_eq_true,decide_eq_true_eq,List.all_eq_true] at h
 exact ⟨h.1.2,h.2⟩
theorem partsAv_ok {s x y:List UInt8} (h:partsAv s=some (x,y)):okD x 10=true∧y.length≤40∧∀c∈y,digB c=true:=by
 unfold partsAv at h
 split at h
 ·split at h
  ·rename_i ho
   cases h
   simp only [okA,Bool.and_eq_true] at ho
   exact ⟨ho.1,by simp,by simp⟩
  ·cases h
 ·split at h
  ·rename_i ho
   cases h
   simp only [okA,Bool.and_eq_true] at ho
   exact ⟨ho.1.1,okD_all ho.2⟩
  ·cases h
def sizeN (p:List UInt8×List UInt8):Nat:=if 4294967295<decN p.1 then 18446744073709551615 else decN p.1 * 4294967296+fracN 32 (digsOf p.2) 0
theorem frac_lt {y:List UInt8} (hd:∀c∈y,digB c=true):fracN 32 (digsOf y) 0<4294967296:=by
 refine fracN_lt 32 (digsOf y) 0 0 ?_ (by decide)
 intro d hdd
 simp only [digsOf,List.mem_map] at hdd
 obtain ⟨c,hc,rfl⟩:=hdd
 have:=digB_iff.1 (hd c hc)
 omega
/-! Gaps. -/
def gapB (c:UInt8):Bool:=decide (c=32) || decide (c=9) || decide (c=10) || decide (c=13)
def letB (c:UInt8):Bool:=(decide (65≤c.toNat) && decide (c.toNat≤90)) || (decide (97≤c.toNat) && decide (c.toNat≤122)) || decide (c.toNat=95)
def innB (c:UInt8):Bool:=letB c || digB c
def skipN:Bool→List UInt8→Nat
 | _,[]=>0
 | true,c::l=>1+skipN (!decide (c=10)) l
 | false,c::l=>if c=35 then 1+skipN true l else if gapB c then 1+skipN false l else 0
theorem skipN_le:∀(b:Bool) (l:List UInt8),skipN b l≤l.length
 | true,[]=>by simp [skipN]
 | false,[]=>by simp [skipN]
 | true,c::l=>by have:=skipN_le (!decide (c=10)) l;simp [skipN];omega
 | false,c::l=>by
  have h1:=skipN_le true l
  have h2:=skipN_le false l
  simp only [skipN,List.length_cons]
  split
  ·omega
  ·split<;>omega
structure Tok where
 kind:Nat
 text:List UInt8
 v:Int
 pos:Nat
 deriving DecidableEq
def wordsL:List (List UInt8):=[[102,117,110],[110,111,100,101],[104,121,98,114,105,100],[108,101,116],[100,101,114],[105,110,105,116],[114,101,115,101,116],[111,110],[117,112],[109,101,109],[109,111,100,101],[102,114,111,109],[103,111,116,111],[111,117,116],[105,102],[116,104,101,110],[101,108,115,101],[112,114,101],[102,98,121],[116,114,117,101],[102,97,108,115,101],[110,111,116],[97,110,100],[111,114],[105,115],[115,113,114,116],[114,101,116,117,114,110],[115,101,116],[102,105,120],[98,111,111,108]]
def wordB (s:List UInt8):Bool:=decide (s∈wordsL)
def numAfter (a:Nat):List UInt8→Nat
 | []=>a
 | d::r=>if d=46 then (match r with
  | []=>a
  | c::r'=>if digB c then a+1+((c::r').takeWhile digB).length else a) else a
def numLen (l:List UInt8):Nat:=numAfter (l.takeWhile digB).length (l.drop (l.takeWhile digB).length)
def ones:List UInt8:=[40,41,123,125,44,59,58,61,43,45,42,47,60,46]
def twoB (c d:UInt8):Bool:=(decide (c=45) && decide (d=62)) || (decide (c=60) && decide (d=61)) || (decide (c=61) && decide (d=61))
def signLen:List UInt8→Nat
 | []=>0
 | [c]=>if c∈ones then 1 else 0
 | c::d::_=>if twoB c d then 2 else if c∈ones then 1 else 0
def valP (x:List UInt8):Int×Bool:=match partsAv x with
 | none=>(0,false)
 | some p=>if 9223372036854775807<sizeN p then (0,false) else ((sizeN p:Int),true)
def tokOf (l:List UInt8) (pos:Nat):Tok×Bool:=match l with
 | []=>(⟨0,[],0,pos⟩,false)
 | c::_ =>
  if letB c then (⟨if wordB (l.takeWhile innB) then 3 else 1,l.takeWhile innB,0,pos⟩,decide ((l.takeWhile innB).length≤16))
  else if digB c then (⟨2,l.take (numLen l),(valP (l.take (numLen l))).1,pos⟩,(valP (l.take (numLen l))).2)
  else (⟨4,l.take (signLen l),0,pos⟩,decide (signLen l≠0))
theorem takeWhile_len {α} (p:α→Bool):∀l:List α,(l.takeWhile p).length≤l.length
 | []=>by simp
 | a::l=>by
  have:=takeWhile_len p l
  rw [List.takeWhile_cons];split<;>simp;omega
theorem numLen_pos {c:UInt8} {l:List UInt8} (h:digB c=true):0<numLen (c::l):=by
 have:0<((c::l).takeWhile digB).length:=by simp [List.takeWhile_cons,h]
 unfold numLen
 generalize ((c::l).drop ((c::l).takeWhile digB).length)=z
 cases z with
 | nil=>exact this
 | cons d r =>
  simp only [numAfter]
  split
  ·cases r with
   | nil=>exact this
   | cons e r=>simp only;split<;>omega
  ·exact this
theorem tokOf_cons (c:UInt8) (l:List UInt8) (pos:Nat):tokOf (c::l) pos =
  if letB c then (⟨if wordB ((c::l).takeWhile innB) then 3 else 1,(c::l).takeWhile innB,0,pos⟩,decide (((c::l).takeWhile innB).length≤16))
  else if digB c then (⟨2,(c::l).take (numLen (c::l)),(valP ((c::l).take (numLen (c::l)))).1,pos⟩,(valP ((c::l).take (numLen (c::l)))).2)
  else (⟨4,(c::l).take (signLen (c::l)),0,pos⟩,decide (signLen (c::l)≠0)):=rfl
theorem tokOf_pos {c:UInt8} {l:List UInt8} {pos:Nat} (h:(tokOf (c::l) pos).2=true):0<(tokOf (c::l) pos).1.text.length:=by
 unfold tokOf at h ⊢
 simp only at h ⊢
 split
 ·rename_i hc
  simp [List.takeWhile_cons,innB,hc]
 ·split
  ·rename_i hc
   have:=numLen_pos (l:=l) hc
   simp only [List.length_take,List.length_cons];omega
  ·rename_i h1 h2
   rw [if_neg h1,if_neg h2] at h
   simp only [decide_eq_true_eq] at h
   simp only [List.length_take,List.length_cons];omega
def lexS:List UInt8→Nat→Except Nat (List Tok)
 | [],pos=>.ok [⟨5,[],0,pos⟩]
 | c::l,pos =>
  if h:(tokOf (c::l) pos).2=true then
   (lexS (((c::l).drop (tokOf (c::l) pos).1.text.length).drop (skipN false ((c::l).drop (tokOf (c::l) pos).1.text.length)))
    (pos+(tokOf (c::l) pos).1.text.length+skipN false ((c::l).drop (tokOf (c::l) pos).1.text.length))).map ((tokOf (c::l) pos).1::·)
  else .error pos
termination_by l=>l.length
decreasing_by
 have:=tokOf_pos h
 simp only [List.length_drop,List.length_cons];omega
def lexK (l:List UInt8) (pos:Nat):Except Nat (List Tok):=lexS (l.drop (skipN false l)) (pos+skipN false l)
theorem lexS_nil (pos:Nat):lexS [] pos=.ok [⟨5,[],0,pos⟩]:=by rw [lexS]
theorem lexS_tok {c:UInt8} {l:List UInt8} {pos:Nat} {x:Tok} (h:tokOf (c::l) pos=(x,true)):lexS (c::l) pos=(lexK ((c::l).drop x.text.length) (pos+x.text.length)).map (x::·):=by
 rw [lexS,dif_pos (by rw [h]),h];rfl
theorem lexS_bad {c:UInt8} {l:List UInt8} {pos:Nat} (h:(tokOf (c::l) pos).2=false):lexS (c::l) pos=.error pos:=by
 rw [lexS,dif_neg (by rw [h];simp)]
def Safe (z r:List UInt8):Prop :=
 z=[]∨(∃z',z=32::z'∨z=10::z')∨∃d z' r',z=d::z'∧r=d::r'∧(z'=[]∨(∃q,z'=10::q∨z'=32::q)∨∃e z'' r'',z'=e::z''∧r'=e::r'')
theorem takeWhile_app {p:UInt8→Bool} {y z:List UInt8} (hy:∀c∈y,p c=true) (hz:∀d z',z=d::z'→p d=false):(y++z).takeWhile p=y:=by
 induction y with
 | nil =>
  cases z with
  | nil=>rfl
  | cons d z=>simp [List.takeWhile_cons,hz d z rfl]
 | cons a y ih =>
  rw [List.cons_append,List.takeWhile_cons,if_pos (hy a (by simp)),ih fun c hc=>hy c (by simp [hc])]
theorem takeWhile_all {p:UInt8→Bool}:∀{l:List UInt8},∀c∈l.takeWhile p,p c=true
 | [],c,h=>by simp at h
 | a::l,c,h=>by
  rw [List.takeWhile_cons] at h
  split at h
  ·rename_i ha
   rw [List.mem_cons] at h
   rcases h with rfl | h
   ·exact ha
   ·exact takeWhile_all c h
  ·simp at h
theorem takeWhile_stop {p:UInt8→Bool}:∀{l:List UInt8} {d:UInt8} {r:List UInt8},l.drop (l.takeWhile p).length=d::r→p d=false
 | [],d,r,h=>by simp at h
 | a::l,d,r,h=>by
  rw [List.takeWhile_cons] at h
  split at h
  ·rw [List.length_cons,List.drop_succ_cons] at h;exact takeWhile_stop h
  ·rename_i ha
   simp at h
   obtain ⟨rfl,_⟩:=h
   simpa using ha
theorem takeWhile_split (p:UInt8→Bool) (l:List UInt8):l=l.takeWhile p++l.drop (l.takeWhile p).length:=by
 induction l with
 | nil=>rfl
 | cons a l ih =>
  rw [List.takeWhile_cons]
  split
  ·rw [List.length_cons,List.drop_succ_cons,List.cons_append,←ih]
  ·rfl
theorem safe_head {p:UInt8→Bool} (h32:p 32=false) (h10:p 10=false) {z r:List UInt8} (hs:Safe z r) (hr:∀d r',r=d::r'→p d=false):∀d z',z=d::z'→p d=false:=by
 rintro d z' rfl
 rcases hs with h | ⟨q,h | h⟩ | ⟨e,z1,r1,h1,h2,_⟩
 ·cases h
 ·cases h;exact h32
 ·cases h;exact h10
 ·cases h1;exact hr _ _ h2
theorem numLen_of {D z:List UInt8} (hD:∀c∈D,digB c=true) (hz:∀d z',z=d::z'→digB d=false):numLen (D++z)=numAfter D.length z:=by
 unfold numLen
 rw [takeWhile_app hD hz,List.drop_left]
set_option maxHeartbeats 1000000 in
theorem tok_again {c:UInt8} {l:List UInt8} {pos pos':Nat} {x:Tok} (h:tokOf (c::l) pos=(x,true)) {z:List UInt8} (hs:Safe z ((c::l).drop x.text.length)) :
  tokOf (x.text++z) pos'=({ x with pos:=pos' },true)∧(c::l)=x.text++(c::l).drop x.text.length∧∃y,x.text=c::y:=by
 unfold tokOf at h
 simp only at h
 split at h
 ·rename_i hc
  have hi:innB c=true:=by simp [innB,hc]
  simp only [Prod.mk.injEq] at h
  obtain ⟨rfl,hok⟩:=h
  simp only at hs ⊢
  have hstop:∀d r',(c::l).drop ((c::l).takeWhile innB).length=d::r'→innB d=false:=fun d r' hd=>takeWhile_stop hd
  have hz:=safe_head (p:=innB) (by decide) (by decide) hs hstop
  have hw:((c::l).takeWhile innB++z).takeWhile innB=(c::l).takeWhile innB:=takeWhile_app takeWhile_all hz
  have hcons:(c::l).takeWhile innB=c::l.takeWhile innB:=by rw [List.takeWhile_cons,if_pos hi]
  refine ⟨?_,takeWhile_split innB (c::l),_,hcons⟩
  have e:(c::l).takeWhile innB++z=c::(l.takeWhile innB++z):=by rw [hcons];rfl
  rw [e,tokOf_cons]
  simp only [hc,if_true]
  rw [←e,hw,hok]
 ·rename_i hc
  split at h
  ·rename_i hd
   simp only [Prod.mk.injEq] at h
   obtain ⟨rfl,hok⟩:=h
   simp only at hs ⊢
   obtain ⟨D,hDD⟩:∃D,D=(c::l).takeWhile digB:=⟨_,rfl⟩
   obtain ⟨r1,hr1⟩:∃r1,r1=(c::l).drop D.length:=⟨_,rfl⟩
   have hall:∀q∈D,digB q=true:=by rw [hDD];exact takeWhile_all
   have hsp:c::l=D++r1:=by rw [hr1,hDD];exact takeWhile_split digB (c::l)
   have hst:∀d r',r1=d::r'→digB d=false:=by
    intro d r' hh
    rw [hr1,hDD] at hh;exact takeWhile_stop hh
   have hDc:∃D',D=c::D':=⟨l.takeWhile digB,by rw [hDD,List.takeWhile_cons,if_pos hd]⟩
   obtain ⟨D',hD'⟩:=hDc
   have hn:=numLen_of hall hst
   rw [←hsp] at hn
   -- what is read
   have main:∃y,y=(c::l).take (numLen (c::l))∧numLen (c::l)=y.length∧(∃y',y=c::y')∧(c::l=y++(c::l).drop y.length)∧∀z,Safe z ((c::l).drop y.length)→numLen (y++z)=y.length:=by
    have plain:numLen (c::l)=D.length→(∀z,Safe z r1→numLen (D++z)=D.length)→∃y,y=(c::l).take (numLen (c::l))∧numLen (c::l)=y.length∧(∃y',y=c::y')∧(c::l=y++(c::l).drop y.length)∧∀z,Safe z ((c::l).drop y.length)→numLen (y++z)=y.length:=by
     intro h1 h2
     refine ⟨D,?_,h1,⟨D',hD'⟩,?_,?_⟩
     ·rw [h1,hsp];simp
     ·rw [←hr1];exact hsp
     ·rw [←hr1];exact h2
    have gen:∀z,Safe z r1→(∀z',z=46::z'→∀e z'',z'=e::z''→digB e=false)→numLen (D++z)=D.length:=by
     intro z hz hh
     have hz2:=safe_head (p:=digB) (by decide) (by decide) hz hst
     rw [numLen_of hall hz2]
     cases z with
     | nil=>rfl
     | cons d z =>
      simp only [numAfter]
      split
      ·rename_i h46
       subst h46
       cases z with
       | nil=>rfl
       | cons e z=>simp only;rw [if_neg (by rw [hh _ rfl e z rfl];simp)]
      ·rfl
    cases r1 with
    | nil =>
     refine plain hn fun z hz=>gen z hz ?_
     rintro z' rfl
     rcases hz with h | ⟨q,h | h⟩ | ⟨e,z1,r2,h1,h2,_⟩
     ·cases h
     ·cases h
     ·cases h
     ·cases h2
    | cons d r2 =>
     simp only [numAfter] at hn
     by_cases h46:d=46
     ·subst h46
      rw [if_pos rfl] at hn
      cases r2 with
      | nil =>
       refine plain hn fun z hz=>gen z hz ?_
       rintro z' rfl e z'' rfl
       rcases hz with h | ⟨q,h | h⟩ | ⟨e',z1,r2,h1,h2,h3⟩
       ·cases h
       ·cases h
       ·cases h
       ·cases h1;cases h2
        rcases h3 with h | ⟨q,h | h⟩ | ⟨_,_,_,_,h⟩
        ·cases h
        ·cases h;decide
        ·cases h;decide
        ·cases h
      | cons e r2 =>
       simp only [numAfter] at hn
       by_cases he:digB e=true
       ·rw [if_pos he] at hn
        obtain ⟨E,hE⟩:∃E,E=(e::r2).takeWhile digB:=⟨_,rfl⟩
        have hEa:∀q∈E,digB q=true:=by rw [hE];exact takeWhile_all
        have hEs:e::r2=E++(e::r2).drop E.length:=by rw [hE];exact takeWhile_split digB _
        rw [←hE] at hn
        have hsp2:c::l=(D++46::E)++(e::r2).drop E.length:=by
         rw [hsp,hEs];simp
        have hlen:(D++46::E).length=D.length+1+E.length:=by simp;omega
        have hdrop:(c::l).drop (D++46::E).length=(e::r2).drop E.length:=by
         conv=>lhs;rw [hsp2]
         exact List.drop_left
        refine ⟨D++46::E,?_,by rw [hn,hlen],⟨D'++46::E,by rw [hD'];rfl⟩,?_,?_⟩
        ·rw [hn,←hlen,hsp2];exact (List.take_left).symm
        ·rw [hdrop];exact hsp2
        ·rw [hdrop]
         intro z hz
         have hz2:=safe_head (p:=digB) (by decide) (by decide) hz (fun d r' hh=>by rw [hE] at hh;exact takeWhile_stop hh)
         rw [List.append_assoc,List.cons_append,numLen_of hall (by rintro d z' hh;cases hh;decide)]
         simp only [numAfter,if_true]
         have hEc:∃E',E=e::E':=⟨r2.takeWhile digB,by rw [hE,List.takeWhile_cons,if_pos he]⟩
         obtain ⟨E',hE'⟩:=hEc
         have hw:(E++z).takeWhile digB=E:=takeWhile_app hEa hz2
         rw [hE'] at hw
         rw [hE',List.cons_append]
         simp only [he,if_true]
         rw [List.cons_append] at hw
         rw [hw];simp;omega
       ·rw [if_neg he] at hn
        refine plain hn fun z hz=>gen z hz ?_
        rintro z' rfl e1 z'' rfl
        rcases hz with h | ⟨q,h | h⟩ | ⟨e',z1,r3,h1,h2,h3⟩
        ·cases h
        ·cases h
        ·cases h
        ·cases h1;cases h2
         rcases h3 with h | ⟨q,h | h⟩ | ⟨_,_,_,h,h'⟩
         ·cases h
         ·cases h;decide
         ·cases h;decide
         ·cases h;cases h';simpa using he
     ·rw [if_neg h46] at hn
      refine plain hn fun z hz=>gen z hz ?_
      rintro z' rfl e1 z'' rfl
      rcases hz with h | ⟨q,h | h⟩ | ⟨e',z1,r3,h1,h2,h3⟩
      ·cases h
      ·cases h
      ·cases h
      ·cases h1;cases h2;exact absurd rfl h46
   obtain ⟨y,hy,hyl,⟨y',hyc⟩,hys,hyz⟩:=main
   rw [←hy] at hs hok ⊢
   refine ⟨?_,hys,y',hyc⟩
   have e:y++z=c::(y'++z):=by rw [hyc];rfl
   have hnl:=hyz z hs
   rw [e,tokOf_cons]
   simp only [hc,if_false,hd,if_true]
   rw [←e,hnl,List.take_left,hok]
   rfl
  ·rename_i hd
   simp only [Prod.mk.injEq,decide_eq_true_eq] at h
   obtain ⟨rfl,hok⟩:=h
   simp only at hs ⊢
   have key:∃y,y=(c::l).take (signLen (c::l))∧signLen (c::l)=y.length∧(∃y',y=c::y')∧(c::l=y++(c::l).drop y.length)∧∀z,Safe z ((c::l).drop y.length)→signLen (y++z)=y.length:=by
    have one:c∈ones→signLen (c::l)=1→(∀d l',l=d::l'→twoB c d=false)→∃y,y=(c::l).take (signLen (c::l))∧signLen (c::l)=y.length∧(∃y',y=c::y')∧(c::l=y++(c::l).drop y.length)∧∀z,Safe z ((c::l).drop y.length)→signLen (y++z)=y.length:=by
     intro h1 h2 h3
     refine ⟨[c],by rw [h2];simp,h2,⟨[],rfl⟩,by simp,fun z hz=>?_⟩
     simp only [List.length_singleton,List.drop_succ_cons,List.drop_zero] at hz
     cases z with
     | nil=>simp [signLen,h1]
     | cons d z =>
      have hz2:=safe_head (p:=twoB c) (by simp [twoB]) (by simp [twoB]) hz h3
      have:=hz2 d z rfl
      simp [signLen,h1,this]
    cases l with
    | nil =>
     simp only [signLen] at hok
     split at hok
     ·rename_i h1
      exact one h1 (by simp [signLen,h1]) (by rintro d l' h;cases h)
     ·exact absurd rfl hok
    | cons d l =>
     simp only [signLen] at hok
     split at hok
     ·rename_i h2
      refine ⟨[c,d],by simp [signLen,h2],by simp [signLen,h2],⟨[d],rfl⟩,by simp,fun z _=>by simp [signLen,h2]⟩
     ·rename_i h2
      split at hok
      ·rename_i h1
       refine one h1 (by simp [signLen,h1,h2]) ?_
       rintro d' l' h;cases h;simpa using h2
      ·exact absurd rfl hok
   obtain ⟨y,hy,hyl,⟨y',hyc⟩,hys,hyz⟩:=key
   rw [←hy] at hs ⊢
   refine ⟨?_,hys,y',hyc⟩
   have e:y++z=c::(y'++z):=by rw [hyc];rfl
   have hnl:=hyz z hs
   rw [e,tokOf_cons]
   simp only [hc,if_false,hd]
   rw [←e,hnl,List.take_left]
   simp [hyc]
theorem map_map' {α β γ} {f:α→β} {g:β→γ} (x:Except Nat α):(x.map f).map g=x.map fun a=>g (f a):=by
 cases x<;>rfl
theorem tokOf_le {c:UInt8} {l:List UInt8} {p:Nat} {x:Tok} (h:tokOf (c::l) p=(x,true)):x.text.length≤(c::l).length:=by
 have h2:=(tok_again (pos':=0) h (z:=[]) (.inl rfl)).2.1
 have:=congrArg List.length h2
 simp only [List.length_append,List.length_drop] at this
 omega
theorem byte_eq {c:UInt8} {n:Nat} (hn:n<256):(c=UInt8.ofNat n)↔c.toNat=n:=by
 constructor
 ·rintro rfl;simp only [UInt8.toNat_ofNat'];omega
 ·intro h;apply UInt8.toNat_inj.1;rw [h];simp only [UInt8.toNat_ofNat'];omega
theorem tw_le (p:UInt8→Bool) (s:List UInt8) {i:Nat} (h:i≤s.length):i+((s.drop i).takeWhile p).length≤s.length:=by
 have:=takeWhile_len p (s.drop i)
 rw [List.length_drop] at this;omega
def twosL:List (List UInt8):=[[45,62],[60,61],[61,61]]
def preB (w s:List UInt8):Bool:=decide (w.length≤s.length) && decide (s.take w.length=w)
theorem pre_two {c d:UInt8} {r:List UInt8} {a b:UInt8}:preB [a,b] (c::d::r)=(decide (c=a) && decide (d=b)):=by
 simp [preB]
theorem pre_one {c:UInt8} {a b:UInt8}:preB [a,b] [c]=false:=by simp [preB]
def Tok.av (t:Tok):AV:=.agg [.int .i64 t.kind,.str t.text,.int .i64 t.v,.int .i64 t.pos]
theorem tok_low (n:Nat) (t:Tok):AV.lowB n t.av=true:=by simp [Tok.av,AV.lowB,AV.lowsB]
theorem take_tw (p:UInt8→Bool):∀l:List UInt8,l.take (l.takeWhile p).length=l.takeWhile p
 | []=>rfl
 | a::l=>by
  rw [List.takeWhile_cons]
  split
  ·simp [take_tw p l]
  ·rfl
theorem numAfter_le:∀(a:Nat) (z:List UInt8),numAfter a z≤a+z.length
 | a,[]=>by simp [numAfter]
 | a,[d]=>by simp only [numAfter];split<;>simp
 | a,d::c::r=>by
  have:=takeWhile_len digB (c::r)
  simp only [numAfter]
  simp only [List.length_cons] at this ⊢
  split
  ·split<;>omega
  ·omega
theorem numLen_le (l:List UInt8):numLen l≤l.length:=by
 have h1:=numAfter_le (l.takeWhile digB).length (l.drop (l.takeWhile digB).length)
 have h2:=takeWhile_len digB l
 rw [List.length_drop] at h1
 unfold numLen;omega
def endTok (n:Nat):Tok:=⟨5,[],0,n⟩
def outAv (us:List Tok) (ap:Ap):AV:=if us=[] then .lst 4 [] .tight else .lst 4 (us.map Tok.av) ap
theorem outAv_cells (us:List Tok) (ap:Ap):(outAv us ap).cells=[outAv us ap]:=by unfold outAv;split<;>rfl
theorem outAv_isCell (us:List Tok) (ap:Ap):(outAv us ap).isCell=true:=by unfold outAv;split<;>rfl
attribute [simp] outAv_cells outAv_isCell
theorem appendA_nil {m m' bytes:Nat} {ty:Option TypeId} {st:St} {ap:Ap} {y:AV}:appendA m bytes ty st (.lst m' [] ap) y=appendA m bytes ty st (.lst m [] ap) y:=by
 simp [appendA,AV.asLst]
theorem own_app_out {st:St} {b:Nat} {us:List Tok} {ap:Ap} {x:Tok} (hb:b≤st.length) (ho:OwnW st b 4 (some 55) ap us.length) (h0:us=[]→ap=.tight) (hlen:us.length<1000000) {y:AV} (hy:y=.lst 4 [x.av] .tight) :
  ∃ap' st',appendA 4 40 (some 55) st (outAv us ap) y=some (.val (outAv (us++[x]) ap') st')∧Own st' b 4 (some 55) ap' (us++[x]).length∧Grew b st st'∧Steady b st st':=by
 subst hy
 have e:appendA 4 40 (some 55) st (outAv us ap) (.lst 4 [x.av] .tight)=appendA 4 40 (some 55) st (.lst 4 (us.map Tok.av) ap) (.lst 4 [x.av] .tight):=by
  unfold outAv
  split
  ·rename_i h;rw [h0 h,h];exact appendA_nil
  ·rfl
 obtain ⟨ap',st',h1,h2,h3,_⟩:=append_own (bytes:=40) (ap0:=.tight) (ys:=[x.av]) (es:=us.map Tok.av) hb (by simpa using ho) (by simp) (by simp [Ai.great];omega) (by omega)
 refine ⟨ap',st',?_,by simpa using h2,h3,append_steady h1⟩
 rw [e,h1]
 simp [outAv]
def toksAv (ts:List Tok):AV:=.lst 4 (ts.map Tok.av) .no
def flt (c p:Int):AV:=.agg [.int .i64 c,.int .i64 p]
def noToks:AV:=.lst 4 [] .tight
def lexP (s:List UInt8):AV×AV:=if 20000<s.length then (noToks,flt 10 0) else match lexK s 0 with
 | .ok ts=>(toksAv ts,flt 0 0)
 | .error p=>(noToks,flt 1 p)
theorem still_toks {n:Nat} {st st':St} {b:Nat} {us:List Tok} {ap:Ap} (hne:us≠[]) (h:Own st' b 4 (some 55) ap us.length) (hb:n≤b):AV.still n st (outAv us ap)=some (toksAv us):=by
 have h0:us.length≠0:=by simpa using hne
 rcases h with ⟨h,_⟩ | ⟨_,id,rfl,hid,_⟩
 ·omega
 ·have hs:AV.stills n st (us.map Tok.av)=some (us.map Tok.av):=stills_of fun x hx=>by
   obtain ⟨t,_,rfl⟩:=List.mem_map.1 hx
   simp [Tok.av,AV.still,AV.stills]
  simp [outAv,hne,AV.still,hs,toksAv,show ¬id<n by omega]
def scan:List UInt8→Nat→Nat→Nat→Option (Nat×Nat×Nat)
 | [],a,b,d=>some (a,b,d)
 | c::l,a,b,d=>if c=46 then scan l a b (d+1) else if digB c then (if d=0 then scan l (a+1) b d else scan l a (b+1) d) else none
def litOk (s:List UInt8):Nat×Nat×Nat→Bool
 | (a,b,d)=>if a<1∨10<a∨1<d∨(d=1∧(b<1∨40<b)) then false else decide (a=1) || decide (s.head?≠some 48)
def refLit (s:List UInt8):Bool:=match scan s 0 0 0 with
 | none=>false
 | some x=>litOk s x
theorem fn118:A.fn 118=some a118:=by kernel_rfl
theorem prim118:A.prim 118=none:=by kernel_rfl
def w118_0:List Nat:=a118_0.writes
set_option maxHeartbeats 2000000 in
theorem refLit_call {s:List UInt8} (hs:s.length≤1000000000) {st:St} (hst:StOk st) :
  runL A (.call 118 [.str s]) st=some ⟨.ret,⟨[.bool (refLit s)],[]⟩,st⟩:=by
 refine (task_of_aw (N:=64) prim118 fn118 rfl rfl hst ?_).1
 intro e he ha K hK
 have a0:=ha 0
 clear ha
 simp at a0
 simp [a118,he,a0]
 refine aw_loop (W:=w118_0) rfl (fun m e ds st'=>ds=[]∧st'=st∧∃i a b d:Nat,i+m=s.length∧a+b+d=i∧scan s 0 0 0=scan (s.drop i) a b d∧(0<a→s≠[]) ∧
   AX.ev e (.t 6)=.int .i64 i∧AX.ev e (.t 3)=.int .i64 a∧AX.ev e (.t 4)=.int .i64 b∧AX.ev e (.t 5)=.int .i64 d) s.length
  ⟨rfl,rfl,0,0,0,0,by simp,rfl,rfl,by simp,by simp [he],by simp [he],by simp [he],by simp [he]⟩ ?_
 rintro m e1 ds st' hs' ⟨rfl,rfl,i,a,b,d,hm,habd,hsc,hne,g6,g3,g4,g5⟩ K1 kn kx
 have he1:e1.length=64:=by simp [hs'.1,he]
 have g0:=hs'.ev 0 rfl (v:=.str s) (by simp [a0])
 cases m with
 | zero =>
  have:i=s.length:=by omega
  subst this
  simp [scan] at hsc
  have hrl:refLit s=litOk s (a,b,d):=by simp [refLit,hsc]
  simp [a118_0,g0,g6,he1]
  refine kx _ _ _ _ nofun fun hs'=>?_
  have fin:∀(r:Bool) (E:Env),refLit s=r→(∃vs,resultsA st' E a118.results=some vs∧oneOf vs=.bool r)→K .ret E [] st':=by
   rintro r E hr ⟨vs,h1,h2⟩
   refine hK _ _ _ (.inl rfl) (by simp) ⟨vs,h1,?_⟩
   rw [h2,hr];simp [AV.still]
  by_cases h1:a<1
  ·have h1':(a:Int)<1:=by omega
   simp [g3,g4,g5,g0,he1,h1,h1']
   exact fin false _ (by rw [hrl];simp [litOk,h1]) ⟨_,rfl,by simp [he1]⟩
  ·have h1':¬(a:Int)<1:=by omega
   by_cases h2:10<a
   ·have h2':(10:Int)<(a:Int):=by omega
    simp [g3,g4,g5,g0,he1,h1,h1',h2,h2']
    exact fin false _ (by rw [hrl];simp [litOk,h2]) ⟨_,rfl,by simp [he1]⟩
   ·have h2':¬(10:Int)<(a:Int):=by omega
    by_cases h3:1<d
    ·have h3':(1:Int)<(d:Int):=by omega
     simp [g3,g4,g5,g0,he1,h1,h1',h2,h2',h3,h3']
     exact fin false _ (by rw [hrl];simp [litOk,h3]) ⟨_,rfl,by simp [he1]⟩
    ·have h3':¬(1:Int)<(d:Int):=by omega
     have hs0:=hne (by omega)
     cases s with
     | nil=>exact absurd rfl hs0
     | cons c s =>
      have tail:¬(d=1∧(b<1∨40<b))→refLit (c::s)=(decide (a=1) || !decide (c=48)):=by
       intro hh
       have hh2:¬(a<1∨10<a∨1<d∨(d=1∧(b<1∨40<b))):=by omega
       rw [hrl];simp only [litOk,if_neg hh2];simp
      have hcc:(decide (c.toNat=48))=decide (c=48):=by
       rw [Bool.eq_iff_iff,decide_eq_true_iff,decide_eq_true_iff]
       exact ⟨fun h=>UInt8.toNat_inj.1 h,fun h=>by rw [h];rfl⟩
      have ha1:((a:Int)=1)=(a=1):=by simp;omega
      by_cases h4:d=1
      ·have h4':(d:Int)=1:=by omega
       by_cases h5:b<1
       ·have h5':(b:Int)<1:=by omega
        simp [g3,g4,g5,g0,he1,h1,h1',h2,h2',h3,h3',h4,h4',h5,h5']
        exact fin false _ (by rw [hrl];simp [litOk,h4,h5]) ⟨_,rfl,by simp [he1]⟩
       ·have h5':¬(b:Int)<1:=by omega
        by_cases h6:40<b
        ·have h6':(40:Int)<(b:Int):=by omega
         simp [g3,g4,g5,g0,he1,h1,h1',h2,h2',h3,h3',h4,h4',h5,h5',h6,h6']
         exact fin false _ (by rw [hrl];simp [litOk,h4,h6]) ⟨_,rfl,by simp [he1]⟩
        ·have h6':¬(40:Int)<(b:Int):=by omega
         have ht:=tail (by omega)
         by_cases h7:a=1
         ·have h7':(a:Int)=1:=by omega
          simp [g3,g4,g5,g0,he1,h1,h1',h2,h2',h3,h3',h4,h4',h5,h5',h6,h6',h7,h7']
          exact fin true _ (by rw [ht];simp [h7]) ⟨_,rfl,by simp [he1]⟩
         ·have h7':¬(a:Int)=1:=by omega
          by_cases h8:c=48
          ·have h8':(c.toNat:Int)=48:=by rw [h8];rfl
           simp [g3,g4,g5,g0,he1,h1,h1',h2,h2',h3,h3',h4,h4',h5,h5',h6,h6',h7,h7',byteV,h8',h8]
           exact fin false _ (by rw [ht];simp [h7,h8]) ⟨_,rfl,by simp [he1]⟩
          ·have h8':¬(c.toNat=48):=fun h=>h8 (UInt8.toNat_inj.1 h)
           have h8'':¬((c.toNat:Int)=48):=by omega
           simp [g3,g4,g5,g0,he1,h1,h1',h2,h2',h3,h3',h4,h4',h5,h5',h6,h6',h7,h7',byteV,h8',h8'',h8]
           exact fin true _ (by rw [ht];simp [h7,h8]) ⟨_,rfl,by simp [he1]⟩
      ·have h4':¬(d:Int)=1:=by omega
       have ht:=tail (by omega)
       by_cases h7:a=1
       ·have h7':(a:Int)=1:=by omega
        simp [g3,g4,g5,g0,he1,h1,h1',h2,h2',h3,h3',h4,h4',h7,h7']
        exact fin true _ (by rw [ht];simp [h7]) ⟨_,rfl,by simp [he1]⟩
       ·have h7':¬(a:Int)=1:=by omega
        by_cases h8:c=48
        ·have h8':(c.toNat:Int)=48:=by rw [h8];rfl
         simp [g3,g4,g5,g0,he1,h1,h1',h2,h2',h3,h3',h4,h4',h7,h7',byteV,h8',h8]
         exact fin false _ (by rw [ht];simp [h7,h8]) ⟨_,rfl,by simp [he1]⟩
        ·have h8':¬(c.toNat=48):=fun h=>h8 (UInt8.toNat_inj.1 h)
         have h8'':¬((c.toNat:Int)=48):=by omega
         simp [g3,g4,g5,g0,he1,h1,h1',h2,h2',h3,h3',h4,h4',h7,h7',byteV,h8',h8'',h8]
         exact fin true _ (by rw [ht];simp [h7,h8]) ⟨_,rfl,by simp [he1]⟩
 | succ m =>
  have hi:i<s.length:=by omega
  have hdr:s.drop i=s[i]::s.drop (i+1):=List.drop_eq_getElem_cons hi
  obtain ⟨c,hc⟩:∃c,c=s[i]:=⟨_,rfl⟩
  rw [hdr,←hc,scan] at hsc
  have hs0:s≠[]:=by intro h;subst h;simp at hi
  have w1:IntKind.i64.wrap ((i:Int)+1)=(i:Int)+1:=wrap_i64 (by omega) (by omega)
  have w2:IntKind.i64.wrap ((d:Int)+1)=(d:Int)+1:=wrap_i64 (by omega) (by omega)
  have w3:IntKind.i64.wrap ((a:Int)+1)=(a:Int)+1:=wrap_i64 (by omega) (by omega)
  have w4:IntKind.i64.wrap ((b:Int)+1)=(b:Int)+1:=wrap_i64 (by omega) (by omega)
  by_cases h46:c=46
  ·have h46':c.toNat=46:=by rw [h46];rfl
   rw [if_pos h46] at hsc
   simp [a118_0,g0,g6,g5,he1,hi,←hc,byteV,h46',w1,w2]
   exact kn m _ _ _ (by omega) ⟨rfl,rfl,i+1,a,b,d+1,by omega,by omega,hsc,fun _=>hs0,by simp [he1],by simp [he1,g3],by simp [he1,g4],by simp [he1]⟩
  ·have h46':¬c.toNat=46:=fun h=>h46 (UInt8.toNat_inj.1 h)
   have h46'':¬(c.toNat:Int)=46:=by omega
   rw [if_neg h46] at hsc
   by_cases hd:digB c=true
   ·have hd2:=digB_iff.1 hd
    have c1:¬(c.toNat:Int)<48:=by omega
    have c2:¬(57:Int)<(c.toNat:Int):=by omega
    have c1':¬c.toNat<48:=by omega
    have c2':¬57<c.toNat:=by omega
    rw [if_pos hd] at hsc
    by_cases hd0:d=0
    ·rw [if_pos hd0] at hsc
     have hd0':(d:Int)=0:=by omega
     simp [a118_0,g0,g3,g6,g5,he1,hi,←hc,byteV,h46',h46'',c1,c2,c1',c2',hd0,hd0',w1,w3]
     exact kn m _ _ _ (by omega) ⟨rfl,rfl,i+1,a+1,b,d,by omega,by omega,hsc,fun _=>hs0,by simp [he1],by simp [he1],by simp [he1,g4],by simp [he1,g5]⟩
    ·rw [if_neg hd0] at hsc
     have hd0':¬(d:Int)=0:=by omega
     simp [a118_0,g0,g4,g6,g5,he1,hi,←hc,byteV,h46',h46'',c1,c2,c1',c2',hd0,hd0',w1,w4]
     exact kn m _ _ _ (by omega) ⟨rfl,rfl,i+1,a,b+1,d,by omega,by omega,hsc,fun _=>hs0,by simp [he1],by simp [he1,g3],by simp [he1],by simp [he1,g5]⟩
   ·rw [if_neg hd] at hsc
    have hrl:refLit s=false:=by simp [refLit,hsc]
    have hd2:¬(48≤c.toNat∧c.toNat≤57):=fun h=>hd (digB_iff.2 h)
    by_cases c1:c.toNat<48
    ·have c1':(c.toNat:Int)<48:=by omega
     simp [a118_0,g0,g6,he1,hi,←hc,byteV,h46',h46'',c1,c1']
     refine kx _ _ _ _ nofun fun hs'=>?_
     exact hK _ _ _ (.inl rfl) (by simp) ⟨_,rfl,by simp [he1,hrl,AV.still]⟩
    ·have c1':¬(c.toNat:Int)<48:=by omega
     have c2:57<c.toNat:=by omega
     have c2':(57:Int)<(c.toNat:Int):=by omega
     simp [a118_0,g0,g6,he1,hi,←hc,byteV,h46',h46'',c1,c1',c2,c2']
     refine kx _ _ _ _ nofun fun hs'=>?_
     exact hK _ _ _ (.inl rfl) (by simp) ⟨_,rfl,by simp [he1,hrl,AV.still]⟩
/-! What the document's Literal says. -/
theorem scan_two:∀(l:List UInt8) (a b d:Nat) {x y z:Nat},scan l a b d=some (x,y,z)→d≤z∧(1≤d→z=d→(∀c∈l,digB c=true)∧x=a∧y=b+l.length)
 | [],a,b,d,x,y,z,h=>by
  simp only [scan,Option.some.injEq,Prod.mk.injEq] at h
  obtain ⟨rfl,rfl,rfl⟩:=h
  exact ⟨Nat.le_refl _,fun _ _=>⟨by simp,rfl,by simp⟩⟩
 | c::l,a,b,d,x,y,z,h=>by
  simp only [scan] at h
  split at h
  ·have:=(scan_two l a b (d+1) h).1
   exact ⟨by omega,fun _ _=>by omega⟩
  ·split at h
   ·rename_i hc
    split at h
    ·rename_i hd
     have:=(scan_two l (a+1) b d h).1
     exact ⟨this,fun h1 _=>by omega⟩
    ·have h2:=scan_two l a (b+1) d h
     refine ⟨h2.1,fun h1 h3=>?_⟩
     obtain ⟨h4,h5,h6⟩:=h2.2 h1 h3
     refine ⟨?_,h5,by simp;omega⟩
     intro q hq
     rw [List.mem_cons] at hq
     rcases hq with rfl | hq
     ·exact hc
     ·exact h4 q hq
   ·cases h
theorem scan_one:∀(l:List UInt8) (a b:Nat) {x y z:Nat},scan l a b 0=some (x,y,z)→z≤1 →
  (z=0→cutAt 46 l=none∧(∀c∈l,digB c=true)∧x=a+l.length∧y=b)∧(z=1→∃p q,cutAt 46 l=some (p,q)∧(∀c∈p,digB c=true)∧(∀c∈q,digB c=true)∧x=a+p.length∧y=b+q.length)
 | [],a,b,x,y,z,h,_=>by
  simp only [scan,Option.some.injEq,Prod.mk.injEq] at h
  obtain ⟨rfl,rfl,rfl⟩:=h
  exact ⟨fun _=>⟨rfl,by simp,rfl,rfl⟩,fun h=>by omega⟩
 | c::l,a,b,x,y,z,h,hz=>by
  simp only [scan] at h
  split at h
  ·rename_i hc
   subst hc
   have h2:=scan_two l a b (0+1) h
   refine ⟨fun h0=>by omega,fun h1=>?_⟩
   obtain ⟨h4,h5,h6⟩:=h2.2 (by omega) (by omega)
   exact ⟨[],l,by simp [cutAt],by simp,h4,h5,h6⟩
  ·rename_i hne
   split at h
   ·rename_i hc
    simp only [if_true] at h
    obtain ⟨h1,h2⟩:=scan_one l (a+1) b h hz
    refine ⟨fun h0=>?_,fun h0=>?_⟩
    ·obtain ⟨g1,g2,g3,g4⟩:=h1 h0
     refine ⟨by simp [cutAt,hne,g1],?_,by simp;omega,g4⟩
     intro q hq
     rw [List.mem_cons] at hq
     rcases hq with rfl | hq
     ·exact hc
     ·exact g2 q hq
    ·obtain ⟨p,q,g1,g2,g3,g4,g5⟩:=h2 h0
     refine ⟨c::p,q,by simp [cutAt,hne,g1],?_,g3,by simp;omega,g5⟩
     intro r hr
     rw [List.mem_cons] at hr
     rcases hr with rfl | hr
     ·exact hc
     ·exact g2 r hr
   ·cases h
theorem refLit_parts {s:List UInt8} (h:refLit s=true):∃x y,partsAv s=some (x,y)∧(∀c∈x,digB c=true)∧(∀c∈y,digB c=true)∧(cutAt 46 s=some (x,y)∨cutAt 46 s=none∧x=s∧y=[]):=by
 unfold refLit at h
 split at h
 ·cases h
 ·rename_i r hsc
  obtain ⟨a,b,d⟩:=r
  simp only [litOk] at h
  split at h
  ·cases h
  ·rename_i hn
   obtain ⟨h0,h1⟩:=scan_one s 0 0 hsc (by omega)
   by_cases hd:d=0
   ·obtain ⟨g1,g2,g3,g4⟩:=h0 hd
    refine ⟨s,[],?_,g2,by simp,.inr ⟨g1,rfl,rfl⟩⟩
    have hall:s.all digB=true:=by rw [List.all_eq_true];exact g2
    have hok:okA s=true:=by
     simp only [okA,okD,hall]
     rw [decide_eq_true (by omega),decide_eq_true (by omega)]
     simp only [Bool.or_eq_true,decide_eq_true_eq] at h
     rcases h with h | h
     ·rw [decide_eq_false (p:=1<s.length) (by omega)];rfl
     ·rw [decide_eq_false (p:=s.head?=some 48) h];simp
    simp [partsAv,g1,hok]
   ·obtain ⟨p,q,g1,g2,g3,g4,g5⟩:=h1 (by omega)
    refine ⟨p,q,?_,g2,g3,.inl g1⟩
    obtain ⟨_,hs,_⟩:=cutAt_some g1
    have hall:p.all digB=true:=by rw [List.all_eq_true];exact g2
    have hall2:q.all digB=true:=by rw [List.all_eq_true];exact g3
    have hh:s.head?=p.head?:=by
     cases p with
     | nil=>simp at g4;omega
     | cons c p=>rw [hs];rfl
    have hok:okA p=true:=by
     simp only [okA,okD,hall]
     rw [decide_eq_true (by omega),decide_eq_true (by omega)]
     simp only [Bool.or_eq_true,decide_eq_true_eq] at h
     rcases h with h | h
     ·rw [decide_eq_false (p:=1<p.length) (by omega)];rfl
     ·rw [hh] at h;rw [decide_eq_false (p:=p.head?=some 48) h];simp
    have hok2:okD q 40=true:=by
     simp only [okD,hall2]
     rw [decide_eq_true (by omega),decide_eq_true (by omega)];rfl
    simp [partsAv,g1,hok,hok2]
theorem scan_dig:∀(l z:List UInt8) (a b:Nat),(∀c∈l,digB c=true)→scan (l++z) a b 0=scan z (a+l.length) b 0
 | [],z,a,b,_=>by simp
 | c::l,z,a,b,h=>by
  have hc:=h c (by simp)
  have hne:¬c=46:=by rintro rfl;revert hc;decide
  rw [List.cons_append,scan,if_neg hne,if_pos hc,if_pos rfl,scan_dig l z _ _ fun x hx=>h x (by simp [hx]),List.length_cons]
  congr 1;omega
theorem scan_dig1:∀(l:List UInt8) (a b:Nat),(∀c∈l,digB c=true)→scan l a b 1=some (a,b+l.length,1)
 | [],a,b,_=>by simp [scan]
 | c::l,a,b,h=>by
  have hc:=h c (by simp)
  have hne:¬c=46:=by rintro rfl;revert hc;decide
  rw [scan,if_neg hne,if_pos hc,if_neg (by decide),scan_dig1 l _ _ fun x hx=>h x (by simp [hx]),List.length_cons]
  congr 3;omega
theorem okD_spec {s:List UInt8} {n:Nat} (h:okD s n=true):1≤s.length∧s.length≤n∧∀c∈s,digB c=true:=by
 simp only [okD,Bool.and_eq_true,decide_eq_true_eq,List.all_eq_true] at h
 exact ⟨h.1.1,h.1.2,h.2⟩
theorem lit_of_parts {s x y:List UInt8} (h:partsAv s=some (x,y)):refLit s=true:=by
 unfold partsAv at h
 split at h
 ·split at h
  ·rename_i hok
   cases h
   simp only [okA,Bool.and_eq_true] at hok
   obtain ⟨h1,h2,h3⟩:=okD_spec hok.1
   have:=scan_dig s [] 0 0 h3
   simp only [List.append_nil,Nat.zero_add,scan] at this
   simp only [refLit,this,litOk]
   rw [if_neg (by omega)]
   by_cases hl:s.length=1
   ·simp [hl]
   ·have h4:=hok.2
    rw [decide_eq_true (p:=1<s.length) (by omega)] at h4
    simpa [hl] using h4
  ·cases h
 ·rename_i x' y' hc
  split at h
  ·rename_i hok
   cases h
   obtain ⟨_,hs,_⟩:=cutAt_some hc
   simp only [Bool.and_eq_true] at hok
   obtain ⟨hok,hok2⟩:=hok
   simp only [okA,Bool.and_eq_true] at hok
   obtain ⟨h1,h2,h3⟩:=okD_spec hok.1
   obtain ⟨g1,g2,g3⟩:=okD_spec hok2
   have:=scan_dig x (46::y) 0 0 h3
   rw [←hs] at this
   rw [scan,if_pos rfl,scan_dig1 _ _ _ g3] at this
   simp only [Nat.zero_add] at this
   simp only [refLit,this,litOk]
   rw [if_neg (by omega)]
   have hh:s.head?=x.head?:=by
    cases x with
    | nil=>simp at h1
    | cons c x=>rw [hs];rfl
   by_cases hl:x.length=1
   ·simp [hl]
   ·have h4:=hok.2
    rw [decide_eq_true (p:=1<x.length) (by omega)] at h4
    simpa [hl,hh] using h4
  ·cases h
theorem refLit_eq (s:List UInt8):refLit s=(partsAv s).isSome:=by
 cases h:refLit s with
 | true=>obtain ⟨x,y,h1,_⟩:=refLit_parts h;rw [h1];rfl
 | false =>
  cases h1:partsAv s with
  | none=>rfl
  | some p=>obtain ⟨x,y⟩:=p;rw [lit_of_parts h1] at h;cases h
theorem fn119:A.fn 119=some a119:=by kernel_rfl
theorem prim119:A.prim 119=none:=by kernel_rfl
theorem fn82:A.fn 82=some a82:=by kernel_rfl
theorem prim82:A.prim 82=none:=by kernel_rfl
def w119_0:List Nat:=a119_0.writes
def w119_1:List Nat:=a119_1.writes
def w119_2:List Nat:=a119_2.writes
def w119_3:List Nat:=a119_3.writes
theorem fracN_add:∀(k:Nat) (l:List Nat) (u v:Nat),fracN k l (u+v)=u * 2 ^ k+fracN k l v
 | 0,l,u,v=>by simp [fracN]
 | k+1,l,u,v=>by
  rw [fracN,fracN,show 2 * (u+v)+(dbl l).1=2 * u+(2 * v+(dbl l).1) by omega,fracN_add k,Nat.pow_succ,Nat.mul_comm (2 ^ k) 2,Nat.mul_assoc,Nat.mul_left_comm]
def iv (d:Nat):AV:=.int .i64 d
theorem iv_cells (l:List Nat):∀e∈l.map iv,e.cells.length=1:=by
 intro e he;obtain ⟨d,_,rfl⟩:=List.mem_map.1 he;rfl
theorem flat_iv:∀l:List Nat,flat (l.map iv)=l.map iv
 | []=>rfl
 | d::l=>by simp [flat,iv] ;simpa [iv] using flat_iv l
theorem iv_low (n:Nat) (l:List Nat):AV.lowsB n (l.map iv)=true:=lows_all fun x hx=>by obtain ⟨d,_,rfl⟩:=List.mem_map.1 hx;rfl
theorem turn_loop {l:List Nat} {x:AV} (hl:l.length≤1000) (hd:∀d∈l,d<10) {st:St} {b:Nat} (hx:Mine st b 1 (l.map iv) x) {e:Env} (he:e.length=84) (h6:AX.ev e (.t 6)=x) (h9:AX.ev e (.t 9)=.int .i64 0)
  (h10:AX.ev e (.t 10)=.int .i64 ((l.length:Int)-1)) {Q:PostQ}
  (hq:∀e' st',Ai.Same w119_0 e e'→Mine st' b 1 ((dbl l).2.map iv) x→st'.take b=st.take b→st'.length=st.length→(StOk st→StOk st')→AX.ev e' (.t 9)=.int .i64 (dbl l).1→Q (.exit 6) e' [] st') :
  AW A 119 none (.loop a119_0) e [] st Q:=by
 rcases hx with ⟨hn,m',rfl⟩ | ⟨hne,r,rfl,hbr,hr⟩
 ·have:l=[]:=by simpa using hn
  subst this
  refine aw_loop (W:=w119_0) rfl (fun m e ds st'=>ds=[]∧st'=st∧AX.ev e (.t 10)=.int .i64 (-1)∧AX.ev e (.t 9)=.int .i64 0) 0 ⟨rfl,rfl,by simpa using h10,h9⟩ ?_
  rintro m e1 ds st' hs' ⟨rfl,rfl,g10,g9⟩ K1 kn kx
  have he1:e1.length=84:=by simp [hs'.1,he]
  simp [a119_0,g10,he1]
  refine kx _ _ _ _ nofun fun hs'=>?_
  exact hq _ _ hs' (.inl ⟨rfl,m',rfl⟩) rfl rfl id (by simp [g9,he1,dbl])
 ·rw [flat_iv] at hr
  rw [List.length_map] at h6
  have hrl:=(List.getElem?_eq_some_iff.1 hr).1
  refine aw_loop (W:=w119_0) rfl (fun m e ds st'=>ds=[]∧m≤l.length∧st'=st.set r (.cells none ((l.take m++(dbl (l.drop m)).2).map iv))∧AX.ev e (.t 10)=.int .i64 ((m:Int)-1)∧AX.ev e (.t 9)=.int .i64 (dbl (l.drop m)).1) l.length
   ⟨rfl,Nat.le_refl _,?_,h10,by simp [h9,dbl]⟩ ?_
  ·have:(l.take l.length++(dbl (l.drop l.length)).2)=l:=by simp [dbl]
   rw [this]
   apply List.ext_getElem?
   intro i
   rw [List.getElem?_set]
   split
   ·rename_i h;subst h;exact hr
   ·rfl
  rintro m e1 ds st' hs' ⟨rfl,hml,rfl,g10,g9⟩ K1 kn kx
  have he1:e1.length=84:=by simp [hs'.1,he]
  have g6:=hs'.ev 6 rfl (v:=.sl r 1 0 l.length none) (by simp [h6])
  cases m with
  | zero =>
   simp at g9 g10
   simp [a119_0,g10,he1]
   refine kx _ _ _ _ nofun fun hs'=>?_
   refine hq _ _ hs' (.inr ⟨?_,r,by simp [dbl_length],hbr,by simp [flat_iv,hrl]⟩) ?_ (by simp) (fun hok=>hok.set' ?_) (by simp [g9,he1])
   ·have:=dbl_length l
    intro h
    have h2:(dbl l).2=[]:=by simpa using h
    rw [h2] at this
    exact hne (by rw [List.map_eq_nil_iff];exact List.eq_nil_of_length_eq_zero this.symm)
   ·rw [List.take_set,List.set_eq_of_length_le (by simp;omega)]
   ·exact iv_low _ _
  | succ m =>
   have hm:m<l.length:=by omega
   have hc:=dbl_carry (l.drop (m+1)) fun d hdd=>hd d (List.mem_of_mem_drop hdd)
   obtain ⟨c,hcc⟩:∃c:Nat,c=(dbl (l.drop (m+1))).1:=⟨_,rfl⟩
   have hx:=hd _ (List.getElem_mem hm)
   obtain ⟨x,hxx⟩:∃x:Nat,x=l[m]:=⟨_,rfl⟩
   have hdr:l.drop m=x::l.drop (m+1):=by rw [hxx];exact List.drop_eq_getElem_cons hm
   have htk:l.take (m+1)=l.take m++[x]:=by rw [hxx];simp
   rw [←hcc] at hc g9
   rw [←hxx] at hx
   have g10':AX.ev e1 (.t 10)=.int .i64 (m:Int):=by rw [g10];congr 1;omega
   have hdb1:(dbl (l.drop m)).1=(2 * x+c) / 10:=by rw [hdr,hcc];rfl
   have hdb2:(dbl (l.drop m)).2=(2 * x+c) % 10::(dbl (l.drop (m+1))).2:=by rw [hdr,hcc];rfl
   have hlen2:=dbl_length (l.drop (m+1))
   obtain ⟨t,ht⟩:∃t,t=(dbl (l.drop (m+1))).2:=⟨_,rfl⟩
   rw [←ht] at hdb2 hlen2
   rw [htk,←ht]
   have hgx:(List.map iv (List.take m l++[x]++t))[m]?=some (iv x):=by
    rw [List.getElem?_map,List.append_assoc,List.getElem?_append_right (by simp;omega)]
    simp [Nat.min_eq_left (Nat.le_of_lt hm)]
   have hset:(List.map iv (List.take m l++[x]++t)).set m (iv ((2 * x+c) % 10))=List.map iv (List.take m l++(dbl (l.drop m)).2):=by
    rw [hdb2,List.append_assoc,List.map_append,List.map_append,List.set_append]
    simp [Nat.min_eq_left (Nat.le_of_lt hm)]
   have hlen:(List.map iv (List.take m l++[x]++t)).length=l.length:=by simp [hlen2];omega
   obtain ⟨cs,hcs⟩:∃cs,cs=List.map iv (List.take m l++[x]++t):=⟨_,rfl⟩
   rw [←hcs] at hgx hset hlen ⊢
   have w2:IntKind.i64.wrap (2 * (x:Int))=((2 * x:Nat):Int):=by rw [wrap_i64 (by omega) (by omega)];simp
   have w3:IntKind.i64.wrap (2 * (x:Int)+(c:Int))=((2 * x+c:Nat):Int):=by rw [wrap_i64 (by omega) (by omega)];simp
   obtain ⟨y,hy⟩:∃y:Nat,y=2 * x+c:=⟨_,rfl⟩
   rw [←hy] at hdb1 hdb2 hset w3
   have w4:IntKind.i64.wrap ((y:Int).tdiv 10)=((y / 10:Nat):Int):=by rw [Int.tdiv_eq_ediv_of_nonneg (by omega),wrap_i64 (by omega) (by omega)];simp
   have w4':IntKind.i64.wrap ((y:Int) / 10)=((y / 10:Nat):Int):=by rw [wrap_i64 (by omega) (by omega)];simp
   have w6:IntKind.i64.wrap ((m:Int)-1)=(m:Int)-1:=wrap_i64 (by omega) (by omega)
   have hml':(m:Int)<(l.length:Int):=by omega
   have hmn:¬(m:Int)<0:=by omega
   have hm1:m+1≤l.length:=by omega
   have hgx':cs[m]'(by omega)=.int .i64 (x:Int):=(List.getElem?_eq_some_iff.1 hgx).2
   have hset':cs.set m (.int .i64 ((y:Int) % 10))=List.map iv (List.take m l++(dbl (List.drop m l)).2):=by
    rw [←hset];simp [iv]
   simp [a119_0,g6,g9,g10',he1,hrl,takeVar,w2,w3,w4,w4',w6,hml',hmn,hm,hm1,hlen,putCells,hgx',hset']
   exact kn m _ _ _ (by omega) ⟨rfl,by omega,by simp,by simp [he1],by simp [he1,hdb1]⟩
theorem turns_loop {l:List Nat} {x:AV} (hl:l.length≤1000) (hd:∀d∈l,d<10) {st:St} {b n:Nat} (hx:Mine st b 1 (l.map iv) x) (hn:n≤2147483648) {e:Env} (he:e.length=84) (h6:AX.ev e (.t 6)=x) (h7:AX.ev e (.t 7)=.int .u64 n)
  (h8:AX.ev e (.t 8)=.int .i64 0) {Q:PostQ}
  (hq:∀e' st',Ai.Same w119_1 e e'→st'.take b=st.take b→st'.length=st.length→(StOk st→StOk st')→AX.ev e' (.t 7)=.int .u64 (fracN 32 l n)→Q (.exit 4) e' [] st') :
  AW A 119 none (.loop a119_1) e [] st Q:=by
 refine aw_loop (W:=w119_1) rfl (fun m e ds st'=>ds=[]∧∃(l':List Nat) (u k:Nat),k+m=32∧l'.length=l.length∧(∀d∈l',d<10)∧fracN m l' u=fracN 32 l n∧u<2 ^ (32+k) ∧
   Mine st' b 1 (l'.map iv) x∧st'.take b=st.take b∧st'.length=st.length∧(StOk st→StOk st')∧AX.ev e (.t 7)=.int .u64 u∧AX.ev e (.t 8)=.int .i64 k) 32
  ⟨rfl,l,n,0,rfl,rfl,hd,rfl,by omega,hx,rfl,rfl,id,h7,h8⟩ ?_
 rintro m e1 ds st' hs' ⟨rfl,l',u,k,hm,hl',hd',hf,hu,hx',ht,hlen,hok,g7,g8⟩ K1 kn kx
 have he1:e1.length=84:=by simp [hs'.1,he]
 have g6:=hs'.ev 6 rfl (v:=x) (by simp [h6])
 cases m with
 | zero =>
  have:k=32:=by omega
  subst this
  simp [a119_1,g8,he1]
  refine kx _ _ _ _ nofun fun hs'=>?_
  have hf0:fracN 0 l' u=u:=rfl
  rw [hf0] at hf
  exact hq _ _ hs' ht hlen hok (by simp [g7,he1,hf])
 | succ m =>
  have hk:(k:Int)<32:=by omega
  have hk':k<32:=by omega
  have w1:IntKind.i64.wrap ((k:Int)+1)=(k:Int)+1:=wrap_i64 (by omega) (by omega)
  have w0:IntKind.i64.wrap ((l'.length:Int)-1)=(l'.length:Int)-1:=wrap_i64 (by omega) (by omega)
  have hlenx:∀S E,AX.ev E (.t 55)=x→opA (.lenSl (.t 55)) E S=some (.val (.int .i64 l'.length) S):=by
   intro S E hE
   rw [opA_lenSl,hE]
   rcases hx' with ⟨hn,m',rfl⟩ | ⟨hne,r,rfl,hbr,hr⟩
   ·have:l'=[]:=by simpa using hn
    subst this
    simp [AV.asLst]
   ·simp [AV.asLst]
  have hcar:=dbl_carry l' hd'
  simp only [a119_1]
  simp [g8,he1,hk,hk',g6,-opA_lenSl,hlenx,w0]
  refine turn_loop (l:=l') (x:=x) (b:=b) (by omega) hd' hx' (by simp [he1]) (by simp [he1,g6]) (by simp [he1]) (by simp [he1]) fun e' st2 hsm hx2 ht2 hlen2 hok2 g9=>?_
  have he':e'.length=84:=by simp [hsm.1,he1]
  have q7:AX.ev e' (.t 7)=.int .u64 u:=hsm.ev 7 rfl (by simp [he1,g7])
  have q8:AX.ev e' (.t 8)=.int .i64 k:=hsm.ev 8 rfl (by simp [he1,g8])
  have hb2:2 * u+(dbl l').1<2 ^ (32+(k+1)):=by rw [show 32+(k+1)=32+k+1 by omega,Nat.pow_succ];omega
  have hpow:2 ^ (32+(k+1))≤2 ^ 64:=Nat.pow_le_pow_right (by omega) (by omega)
  have w2:IntKind.u64.wrap (2 * (u:Int))=((2 * u:Nat):Int):=by rw [wrap_u64 (by omega) (by omega)];simp
  have w3:IntKind.u64.wrap ((dbl l').1:Int)=((dbl l').1:Int):=wrap_u64 (by omega) (by omega)
  have w4:IntKind.u64.wrap (2 * (u:Int)+((dbl l').1:Int))=((2 * u+(dbl l').1:Nat):Int):=by rw [wrap_u64 (by omega) (by omega)];simp
  simp [he',q7,q8,g9,w1,w2,w3,w4]
  exact kn m _ _ _ (by omega) ⟨rfl,(dbl l').2,2 * u+(dbl l').1,k+1,by omega,by rw [dbl_length];exact hl',dbl_lt l',by rw [←hf,fracN],hb2,hx2,ht2.trans ht,by omega,fun h=>hok2 (hok h),by simp [he'],by simp [he']⟩
def sizeR (x y:List UInt8):Nat×Bool:=if 2147483648<decN x then (0,true) else (fracN 32 (digsOf y) (decN x),decide (9223372036854775808<fracN 32 (digsOf y) (decN x)))
theorem digs_lt {y:List UInt8} (hd:∀c∈y,digB c=true):∀d∈digsOf y,d<10:=by
 intro d h
 obtain ⟨c,hc,rfl⟩:=List.mem_map.1 h
 have:=digB_iff.1 (hd c hc)
 omega
theorem digsOf_snoc (l:List UInt8) (c:UInt8):digsOf (l++[c])=digsOf l++[c.toNat-48]:=by simp [digsOf]
set_option maxHeartbeats 1000000 in
theorem refSize_call {s x y:List UInt8} (hxl:x.length≤10) (hyl:y.length≤40) (hx:∀c∈x,digB c=true) (hy:∀c∈y,digB c=true) (hs:s=x∧y=[]∨s=x++46::y) {st:St} (hst:StOk st) :
  runL A (.call 119 [.str s]) st=some ⟨.ret,⟨[.tup [.int .u64 (sizeR x y).1,.bool (sizeR x y).2]],[]⟩,st⟩:=by
 refine (task_of_aw (N:=84) prim119 fn119 rfl rfl hst ?_).1
 intro e he ha K hK
 have a0:=ha 0
 clear ha
 simp at a0
 have hsl:s.length≤60:=by
  rcases hs with ⟨rfl,_⟩ | rfl
  ·omega
  ·simp;omega
 simp [a119,he,a0]
 refine aw_loop (W:=w119_3) rfl (fun m e ds st'=>ds=[]∧st'=st∧∃j:Nat,j+m=x.length∧AX.ev e (.t 5)=.int .i64 j∧AX.ev e (.t 4)=.int .u64 (decN (x.take j))) x.length
  ⟨rfl,rfl,0,by omega,by simp [he],by simp [he,decN]⟩ ?_
 rintro m e1 ds st' hs' ⟨rfl,rfl,j,hm,g5,g4⟩ K1 kn kx
 have he1:e1.length=84:=by simp [hs'.1,he]
 have g0:=hs'.ev 0 rfl (v:=.str s) (by simp [a0])
 cases m with
 | succ m =>
  have hj:j<x.length:=by omega
  obtain ⟨c,hc⟩:∃c,c=x[j]:=⟨_,rfl⟩
  have hcd:digB c=true:=hx c (by rw [hc];exact List.getElem_mem hj)
  have hcn:=digB_iff.1 hcd
  have hjs:j<s.length:=by
   rcases hs with ⟨rfl,_⟩ | rfl
   ·exact hj
   ·simp;omega
  have hsc:s[j]=c:=by
   rcases hs with ⟨rfl,_⟩ | rfl
   ·exact hc.symm
   ·rw [List.getElem_append_left hj];exact hc.symm
  have hn:¬(j:Int)<0:=by omega
  have hlt:=decN_lt j (x.take j) (by simp;omega) fun c hc=>hx c (List.mem_of_mem_take hc)
  have h10:10 ^ j≤10 ^ 10:=Nat.pow_le_pow_right (by omega) (by omega)
  have hsn:decN (x.take (j+1))=10 * decN (x.take j)+(c.toNat-48):=by
   rw [show x.take (j+1)=x.take j++[c] by rw [hc];simp,decN_snoc]
  obtain ⟨n,hnn⟩:∃n,n=decN (x.take j):=⟨_,rfl⟩
  rw [←hnn] at g4 hlt hsn
  obtain ⟨d,hdd⟩:∃d:Nat,c.toNat=48+d:=⟨c.toNat-48,by omega⟩
  have w1:IntKind.i64.wrap ((j:Int)+1)=(j:Int)+1:=wrap_i64 (by omega) (by omega)
  have w2:IntKind.u64.wrap (10 * (n:Int))=((10 * n:Nat):Int):=by rw [wrap_u64 (by omega) (by omega)];simp
  have w3:IntKind.u8.wrap (48+(d:Int)-48)=(d:Int):=by rw [wrap_u8 (by omega) (by omega)];omega
  have w4:IntKind.u64.wrap (d:Int)=(d:Int):=wrap_u64 (by omega) (by omega)
  have w5:IntKind.u64.wrap (10 * (n:Int)+(d:Int))=((10 * n+d:Nat):Int):=by rw [wrap_u64 (by omega) (by omega)];simp
  have h46:¬((48:Int)+(d:Int)=46):=by omega
  have h46':¬(48+d=46):=by omega
  simp [a119_3,g0,g4,g5,he1,hjs,hsc,hn,byteV,hdd,h46,h46',w1,w2,w3,w4,w5]
  exact kn m _ _ _ (by omega) ⟨rfl,rfl,j+1,by omega,by simp [he1],by rw [hsn,hdd];simp [he1]⟩
 | zero =>
  have:j=x.length:=by omega
  subst this
  rw [List.take_length] at g4
  -- the point,or the end
  have hend:(s=x∧y=[])∨∃h:x.length<s.length,s[x.length]=46:=by
   rcases hs with h | rfl
   ·exact .inl h
   ·exact .inr ⟨by simp,by simp⟩
  have w1:IntKind.i64.wrap ((x.length:Int)+1)=(x.length:Int)+1:=wrap_i64 (by omega) (by omega)
  have hn0:¬(x.length:Int)<0:=by omega
  have key:∀e2:Env,e2.length=84→AX.ev e2 (.t 0)=.str s→AX.ev e2 (.t 4)=.int .u64 (decN x)→AX.ev e2 (.t 5)=.int .i64 x.length→K1 (.exit 0) e2 [] st':=by
   intro e2 he2 q0 q4 q5
   refine kx _ _ _ _ nofun fun _=>?_
   simp [he2,q5,w1]
   refine aw_loop (W:=w119_2) rfl (fun m e ds st2=>ds=[]∧∃(k:Nat) (d:AV),k+m=y.length∧AX.ev e (.t 5)=.int .i64 ((x.length+1+k:Nat):Int)∧AX.ev e (.t 6)=d∧Mine st2 st'.length 1 ((digsOf (y.take k)).map iv) d∧st2.take st'.length=st'∧st'.length≤st2.length∧StOk st2) y.length
    ⟨rfl,0,.lst 1 [] .tight,by omega,by simp [he2],by simp [he2],.inl ⟨by simp [digsOf],1,rfl⟩,by simp,Nat.le_refl _,hst⟩ ?_
   rintro m e3 ds st2 hs3 ⟨rfl,k,d,hm,f5,f6,hmine,htk,hle,hok⟩ K2 kn2 kx2
   have he3:e3.length=84:=by simp [hs3.1,he2]
   have f0:=hs3.ev 0 rfl (v:=.str s) (by simp [he2,q0])
   have f4:=hs3.ev 4 rfl (v:=.int .u64 (decN x)) (by simp [he2,q4])
   cases m with
   | succ m =>
    have hk:k<y.length:=by omega
    have hsy:s=x++46::y:=by
     rcases hs with ⟨_,rfl⟩ | h
     ·simp at hk
     ·exact h
    obtain ⟨c,hc⟩:∃c,c=y[k]:=⟨_,rfl⟩
    have hcn:=digB_iff.1 (hy c (by rw [hc];exact List.getElem_mem hk))
    have hlt:x.length+1+k<s.length:=by rw [hsy];simp;omega
    have hsc:s[x.length+1+k]=c:=by
     subst hsy
     rw [List.getElem_append_right (by omega)]
     simp only [show x.length+1+k-x.length=k+1 by omega,List.getElem_cons_succ,hc]
    obtain ⟨i,hi⟩:∃i,i=x.length+1+k:=⟨_,rfl⟩
    simp only [←hi] at f5 hlt hsc
    obtain ⟨q,hq⟩:∃q:Nat,c.toNat=48+q:=⟨c.toNat-48,by omega⟩
    have v1:IntKind.i64.wrap ((i:Int)+1)=(i:Int)+1:=wrap_i64 (by omega) (by omega)
    have v2:IntKind.i64.wrap (48+(q:Int))=48+(q:Int):=wrap_i64 (by omega) (by omega)
    have v3:IntKind.i64.wrap (48+(q:Int)-48)=(q:Int):=by rw [wrap_i64 (by omega) (by omega)];omega
    have hn:¬(i:Int)<0:=by omega
    obtain ⟨d',st3,hap,hmine',hg⟩:=appendM_mine (bytes:=8) (y:=.lst 1 [iv q] .tight) (ys:=[iv q]) hle hmine (by simp [elemsOf]) (by simp) (by simp [digsOf,Ai.great];omega) (by omega) (iv_cells _) rfl
    simp [iv] at hap
    have htk':digsOf (y.take (k+1))=digsOf (y.take k)++[q]:=by
     rw [show y.take (k+1)=y.take k++[c] by rw [hc];simp,digsOf_snoc,hq];simp
    simp [a119_2,f0,f5,f6,he3,hlt,hsc,hn,byteV,hq,v1,v2,v3,hap]
    exact kn2 m _ _ _ (by omega) ⟨rfl,k+1,d',by omega,by simp [he3];omega,by simp [he3],by rw [htk'];simpa [iv] using hmine',hg.take.trans htk,Nat.le_trans hle hg.len,hg.ok hok⟩
   | zero =>
    have:k=y.length:=by omega
    subst this
    rw [List.take_length] at hmine
    have hge:s.length≤x.length+1+y.length:=by
     rcases hs with ⟨rfl,_⟩ | rfl
     ·omega
     ·simp;omega
    obtain ⟨i,hi⟩:∃i,i=x.length+1+y.length:=⟨_,rfl⟩
    simp only [←hi] at f5 hge
    have hge':¬((i:Int)<(s.length:Int)):=by omega
    have hge2:¬(i<s.length):=by omega
    simp [a119_2,f0,f5,he3,hge',hge2]
    refine kx2 _ _ _ _ nofun fun _=>?_
    by_cases hbig:2147483648<decN x
    ·have hbig':(2147483648:Int)<(decN x:Int):=by omega
     simp [f4,he3,hbig,hbig']
     exact hK _ _ _ (.inl rfl) (by simpa using htk) ⟨_,rfl,by simp [he3,sizeR,hbig,AV.still,AV.stills]⟩
    ·have hbig':¬(2147483648:Int)<(decN x:Int):=by omega
     simp [f4,he3,hbig,hbig']
     refine turns_loop (l:=digsOf y) (x:=d) (b:=st'.length) (n:=decN x) (by simp [digsOf];omega) (digs_lt hy) hmine (by omega) (by simp [he3]) (by simp [he3,f6]) (by simp [he3]) (by simp [he3]) fun e4 st4 hs4 ht4 hl4 hok4 g7=>?_
     have he4:e4.length=84:=by simp [hs4.1,he3]
     simp [he4,g7]
     refine hK _ _ _ (.inl rfl) (by simpa using ht4.trans htk) ⟨_,rfl,?_⟩
     simp [he4,sizeR,hbig,AV.still,AV.stills]
     omega
  rcases hend with ⟨rfl,rfl⟩ | ⟨h1,h2⟩
  ·simp [a119_3,g0,g4,g5,he1]
   exact key _ (by simp [he1]) (by simp [he1,g0]) (by simp [he1,g4]) (by simp [he1,g5])
  ·simp [a119_3,g0,g4,g5,he1,h1,h2,hn0,byteV]
   exact key _ (by simp [he1]) (by simp [he1,g0]) (by simp [he1,g4]) (by simp [he1,g5])
def a82r:ACode:=(.seq (.seq (.reg [⟨(some 32),.mov (.t 0),none⟩,⟨(some 33),.call (.k (.func (.func 118) [] [])) [(.t 32)],none⟩,⟨(some 34),.un .not (.t 33),none⟩]) (.cond (.t 34) (.seq (.reg [⟨(some 2),.mov (.k (.int .i64 0)),none⟩,⟨(some 3),.mov (.k (.bool false)),none⟩]) .ret) .skip)) (.seq (.reg [⟨(some 36),.mov (.t 0),none⟩,⟨(some 37),.call (.k (.func (.func 119) [] [])) [(.t 36)],none⟩,⟨(some 35),.mov (.t 37),none⟩,⟨(some 38),.extract (.t 35) 0,none⟩,⟨(some 39),.extract (.t 35) 1,none⟩,⟨(some 6),.mov (.t 38),none⟩,⟨(some 7),.mov (.t 39),none⟩]) (.seq (.seq (.reg [⟨(some 40),.mov (.t 7),none⟩,⟨(some 41),.mov (.t 40),none⟩,⟨(some 42),.mov (.t 6),some (41,false)⟩,⟨(some 43),.bin .eql (.t 42) (.k (.int .u64 9223372036854775808)),some (41,false)⟩,⟨(some 44),.pick (.t 41) (.k (.bool true)) (.t 43),none⟩]) (.cond (.t 44) (.seq (.reg [⟨(some 2),.mov (.k (.int .i64 0)),none⟩,⟨(some 3),.mov (.k (.bool false)),none⟩]) .ret) .skip)) (.seq (.reg [⟨(some 45),.mov (.t 6),none⟩,⟨(some 46),.convInt .i64 (.t 45),none⟩,⟨(some 2),.mov (.t 46),none⟩,⟨(some 3),.mov (.k (.bool true)),none⟩]) .ret))))
theorem refSigned_call {s:List UInt8} (hs:s.length≤1000000000) (h45:∀r,s≠45::r) {st:St} (hst:StOk st) :
  runL A (.call 82 [.str s]) st=some ⟨.ret,⟨[.tup [.int .i64 (valP s).1,.bool (valP s).2]],[]⟩,st⟩:=by
 refine (task_of_aw (N:=47) prim82 fn82 rfl rfl hst ?_).1
 intro e he ha K hK
 have a0:=ha 0
 clear ha
 simp at a0
 have hlit:=refLit_call hs hst
 have key:∀e1:Env,e1.length=47→AX.ev e1 (.t 0)=.str s→AW A 82 none a82r e1 [] st K:=by
  intro e1 he1 b0
  rw [refLit_eq] at hlit
  simp only [a82r]
  cases hp:partsAv s with
  | none =>
   rw [hp] at hlit
   simp at hlit
   simp [he1,b0,hlit]
   exact hK _ _ _ (.inl rfl) (by simp) ⟨_,rfl,by simp [he1,valP,hp,AV.still,AV.stills]⟩
  | some p =>
   obtain ⟨x,y⟩:=p
   rw [hp] at hlit
   simp at hlit
   obtain ⟨h1,h2,h3⟩:=partsAv_ok hp
   obtain ⟨g1,g2,g3⟩:=okD_spec h1
   have hform:s=x∧y=[]∨s=x++46::y:=by
    unfold partsAv at hp
    split at hp
    ·split at hp
     ·cases hp;exact .inl ⟨rfl,rfl⟩
     ·cases hp
    ·rename_i x' y' hc
     split at hp
     ·cases hp;exact .inr (cutAt_some hc).2.1
     ·cases hp
   have hsz:=refSize_call (s:=s) g2 h2 g3 h3 hform hst
   have hlt:=frac_lt h3
   have hfa:=fracN_add 32 (digsOf y) (decN x) 0
   simp only [Nat.add_zero] at hfa
   by_cases hbig:2147483648<decN x
   ·simp [sizeR,hbig] at hsz
    have hv:valP s=(0,false):=by
     simp only [valP,hp,sizeN]
     split<;>rw [if_pos (by omega)]
    simp [he1,b0,hlit,hsz]
    exact hK _ _ _ (.inl rfl) (by simp) ⟨_,rfl,by simp [he1,hv,AV.still,AV.stills]⟩
   ·obtain ⟨u,hu⟩:∃u,u=fracN 32 (digsOf y) (decN x):=⟨_,rfl⟩
    simp only [sizeR,hbig,if_false,←hu] at hsz
    have hsn:sizeN (x,y)=u:=by
     simp only [sizeN]
     rw [if_neg (by omega),hu,hfa]
    by_cases hgt:9223372036854775808<u
    ·have hv:valP s=(0,false):=by
      simp only [valP,hp,hsn];rw [if_pos (by omega)]
     simp [hgt] at hsz
     simp [he1,b0,hlit,hsz]
     exact hK _ _ _ (.inl rfl) (by simp) ⟨_,rfl,by simp [he1,hv,AV.still,AV.stills]⟩
    ·simp [hgt] at hsz
     by_cases heq:u=9223372036854775808
     ·have hv:valP s=(0,false):=by
       simp only [valP,hp,hsn];rw [if_pos (by omega)]
      simp [he1,b0,hlit,hsz,heq]
      exact hK _ _ _ (.inl rfl) (by simp) ⟨_,rfl,by simp [he1,hv,AV.still,AV.stills]⟩
     ·have heq':¬(u:Int)=9223372036854775808:=by omega
      have hv:valP s=((u:Int),true):=by
       simp only [valP,hp,hsn];rw [if_neg (by omega)]
      have w:IntKind.i64.wrap (u:Int)=(u:Int):=wrap_i64 (by omega) (by omega)
      simp [he1,b0,hlit,hsz,heq,heq',w]
      exact hK _ _ _ (.inl rfl) (by simp) ⟨_,rfl,by simp [he1,hv,AV.still,AV.stills]⟩
 cases hsc:s with
 | nil =>
  subst hsc
  simp only [a82]
  change AW A 82 none (.seq _ (.seq _ a82r)) _ _ _ _
  simp [he,a0]
  exact key _ (by simp [he]) (by simp [a0])
 | cons c r =>
  have hc:¬c.toNat=45:=by
   intro h
   exact h45 r (by rw [hsc,(byte_eq (c:=c) (n:=45) (by decide)).2 h];rfl)
  have hc':¬(c.toNat:Int)=45:=by omega
  have h1:(0:Int)<(r.length:Int)+1:=by omega
  rw [hsc] at a0
  simp only [a82]
  change AW A 82 none (.seq _ (.seq _ a82r)) _ _ _ _
  simp [he,a0,h1,hc,hc',byteV]
  exact key _ (by simp [he]) (by simp [a0,hsc])
theorem fn79:A.fn 79=some a79:=by kernel_rfl
theorem prim79:A.prim 79=none:=by kernel_rfl
theorem fn80:A.fn 80=some a80:=by kernel_rfl
theorem prim80:A.prim 80=none:=by kernel_rfl
theorem fn81:A.fn 81=some a81:=by kernel_rfl
theorem prim81:A.prim 81=none:=by kernel_rfl
theorem fn45:A.fn 45=some a45:=by kernel_rfl
theorem prim45:A.prim 45=none:=by kernel_rfl
theorem refLet_call {c:UInt8} {st:St} (hst:StOk st):runL A (.call 79 [byteV c]) st=some ⟨.ret,⟨[.bool (letB c)],[]⟩,st⟩:=by
 refine (task_of_aw (N:=21) prim79 fn79 rfl rfl hst ?_).1
 intro e he ha K hK
 have a0:=ha 0
 clear ha
 simp [byteV] at a0
 obtain ⟨n,hn⟩:∃n,n=c.toNat:=⟨_,rfl⟩
 have hb:letB c=((decide (65≤n) && decide (n≤90)) || (decide (97≤n) && decide (n≤122)) || decide (n=95)):=by rw [hn];rfl
 rw [←hn] at a0
 have k1:((65:Int)≤(n:Int))↔65≤n:=by omega
 have k2:((n:Int)≤90)↔n≤90:=by omega
 have k3:((97:Int)≤(n:Int))↔97≤n:=by omega
 have k4:((n:Int)≤122)↔n≤122:=by omega
 have k5:((n:Int)=95)↔n=95:=by omega
 by_cases h1:65≤n<;>by_cases h2:n≤90<;>by_cases h3:97≤n<;>by_cases h4:n≤122<;>try omega
 all_goals
  simp [a79,he,a0,k1,k2,k3,k4,k5,h1,h2,h3,h4]
  exact hK _ _ _ (.inl rfl) (by simp) ⟨_,rfl,by simp [he,hb,h1,h2,h3,h4,k5,AV.still]⟩
theorem refDig_call {c:UInt8} {st:St} (hst:StOk st):runL A (.call 80 [byteV c]) st=some ⟨.ret,⟨[.bool (digB c)],[]⟩,st⟩:=by
 refine (task_of_aw (N:=9) prim80 fn80 rfl rfl hst ?_).1
 intro e he ha K hK
 have a0:=ha 0
 clear ha
 simp [byteV] at a0
 have k1:((48:Int)≤(c.toNat:Int))↔48≤c.toNat:=by omega
 have k2:((c.toNat:Int)≤57)↔c.toNat≤57:=by omega
 have hb:digB c=(decide (48≤c.toNat) && decide (c.toNat≤57)):=by
  rw [Bool.eq_iff_iff,digB_iff];simp
 by_cases h1:48≤c.toNat<;>by_cases h2:c.toNat≤57<;>try omega
 all_goals
  simp [a80,he,a0,k1,k2,h1,h2]
  exact hK _ _ _ (.inl rfl) (by simp) ⟨_,rfl,by simp [he,hb,h1,h2,AV.still]⟩
def w81_0:List Nat:=a81_0.writes
theorem refWord_call {s:List UInt8} {st:St} (hst:StOk st):runL A (.call 81 [.str s]) st=some ⟨.ret,⟨[.bool (wordB s)],[]⟩,st⟩:=by
 refine (task_of_aw (N:=18) prim81 fn81 rfl rfl hst ?_).1
 intro e he ha K hK
 have a0:=ha 0
 clear ha
 simp at a0
 have hlit:AV.lst 1 (wordsL.map AV.str) .tight=AV.lst 1 [.str [102,117,110],.str [110,111,100,101],.str [104,121,98,114,105,100],.str [108,101,116],.str [100,101,114],.str [105,110,105,116],.str [114,101,115,101,116],.str [111,110],.str [117,112],.str [109,101,109],.str [109,111,100,101],.str [102,114,111,109],.str [103,111,116,111],.str [111,117,116],.str [105,102],.str [116,104,101,110],.str [101,108,115,101],.str [112,114,101],.str [102,98,121],.str [116,114,117,101],.str [102,97,108,115,101],.str [110,111,116],.str [97,110,100],.str [111,114],.str [105,115],.str [115,113,114,116],.str [114,101,116,117,114,110],.str [115,101,116],.str [102,105,120],.str [98,111,111,108]] .tight:=rfl
 simp [a81,he,putCells,group]
 rw [←hlit]
 refine aw_loop (W:=w81_0) rfl (fun m e ds st'=>ds=[]∧st'=st∧∃i:Nat,i+m=wordsL.length∧AX.ev e (.t 4)=.int .i64 i∧s ∉ wordsL.take i) wordsL.length
  ⟨rfl,rfl,0,by simp,by simp [he],by simp⟩ ?_
 rintro m e1 ds st' hs' ⟨rfl,rfl,i,hm,g4,hni⟩ K1 kn kx
 have he1:e1.length=18:=by simp [hs'.1,he]
 have g0:=hs'.ev 0 rfl (v:=.str s) (by simp [a0])
 have g3:=hs'.ev 3 rfl (v:=.lst 1 (wordsL.map AV.str) .tight) (by simp [he])
 have hwl:wordsL.length=30:=rfl
 cases m with
 | zero =>
  have:i=wordsL.length:=by omega
  subst this
  rw [List.take_length] at hni
  simp [a81_0,g0,g3,g4,he1]
  refine kx _ _ _ _ nofun fun hs'=>?_
  simp [he1]
  exact hK _ _ _ (.inl rfl) (by simp) ⟨_,rfl,by simp [he1,wordB,hni,AV.still]⟩
 | succ m =>
  have hi:i<wordsL.length:=by omega
  have hi':(i:Int)<(wordsL.length:Int):=by omega
  have hn:¬(i:Int)<0:=by omega
  have w1:IntKind.i64.wrap ((i:Int)+1)=(i:Int)+1:=wrap_i64 (by omega) (by omega)
  obtain ⟨w,hw⟩:∃w,w=wordsL[i]:=⟨_,rfl⟩
  by_cases hws:w=s
  ·have hmem:s∈wordsL:=by rw [←hws,hw];exact List.getElem_mem hi
   simp [a81_0,g0,g3,g4,he1,hi,hi',hn,←hw,hws]
   refine kx _ _ _ _ nofun fun hs'=>?_
   exact hK _ _ _ (.inl rfl) (by simp) ⟨_,rfl,by simp [he1,wordB,hmem,AV.still]⟩
  ·have hb:(w == s)=false:=by rw [beq_eq_false_iff_ne];exact hws
   simp [a81_0,g0,g3,g4,he1,hi,hi',hn,←hw,hws,hb,w1]
   refine kn m _ _ _ (by omega) ⟨rfl,rfl,i+1,by omega,by simp [he1],?_⟩
   rw [show wordsL.take (i+1)=wordsL.take i++[w] by rw [hw];simp,List.mem_append]
   rintro (h | h)
   ·exact hni h
   ·simp at h;exact hws h.symm
def w45_0:List Nat:=a45_0.writes
theorem refSkip_call {s:List UInt8} {i:Nat} (hs:s.length≤1000000000) {st:St} (hst:StOk st) (hi:i≤s.length) :
  runL A (.call 45 [.str s,.int .i64 i]) st=some ⟨.ret,⟨[.int .i64 (i+skipN false (s.drop i):Nat)],[]⟩,st⟩:=by
 refine (task_of_aw (N:=37) prim45 fn45 rfl rfl hst ?_).1
 intro e he ha K hK
 have a0:=ha 0
 have a1:=ha 1
 clear ha
 simp at a0 a1
 simp [a45,he,a0]
 refine aw_loop (W:=w45_0) rfl (fun m e ds st'=>ds=[]∧st'=st∧∃(j:Nat) (b:Bool),j+m=s.length∧AX.ev e (.t 1)=.int .i64 j∧AX.ev e (.t 5)=.bool b∧j+skipN b (s.drop j)=i+skipN false (s.drop i)) (s.length-i)
  ⟨rfl,rfl,i,false,by omega,by simp [a1],by simp [he],rfl⟩ ?_
 rintro m e1 ds st' hs' ⟨rfl,rfl,j,b,hm,g1,g5,hj⟩ K1 kn kx
 have he1:e1.length=37:=by simp [hs'.1,he]
 have g0:=hs'.ev 0 rfl (v:=.str s) (by simp [a0])
 cases m with
 | zero =>
  have:j=s.length:=by omega
  subst this
  have h0:skipN b (s.drop s.length)=0:=by rw [List.drop_length];cases b<;>rfl
  rw [h0] at hj
  simp [a45_0,g0,g1,he1]
  refine kx _ _ _ _ nofun fun hs'=>?_
  simp [g1,he1]
  exact hK _ _ _ (.inl rfl) (by simp) ⟨_,rfl,by simp [he1,AV.still];omega⟩
 | succ m =>
  have hlt:j<s.length:=by omega
  have hdr:s.drop j=s[j]::s.drop (j+1):=List.drop_eq_getElem_cons hlt
  obtain ⟨c,hc⟩:∃c,c=s[j]:=⟨_,rfl⟩
  rw [hdr,←hc] at hj
  have hn:¬(j:Int)<0:=by omega
  have w1:IntKind.i64.wrap ((j:Int)+1)=(j:Int)+1:=wrap_i64 (by omega) (by omega)
  have b1:∀n:Nat,n<256→(c.toNat=n↔c=UInt8.ofNat n):=fun n hn=>(byte_eq hn).symm
  have e10:c.toNat=10↔c=10:=b1 10 (by decide)
  have e35:c.toNat=35↔c=35:=b1 35 (by decide)
  have e32:c.toNat=32↔c=32:=b1 32 (by decide)
  have e9:c.toNat=9↔c=9:=b1 9 (by decide)
  have e13:c.toNat=13↔c=13:=b1 13 (by decide)
  have k10:((c.toNat:Int)=10)↔c.toNat=10:=by omega
  have k35:((c.toNat:Int)=35)↔c.toNat=35:=by omega
  have k32:((c.toNat:Int)=32)↔c.toNat=32:=by omega
  have k9:((c.toNat:Int)=9)↔c.toNat=9:=by omega
  have k13:((c.toNat:Int)=13)↔c.toNat=13:=by omega
  cases b with
  | true =>
   rw [skipN] at hj
   by_cases h10:c.toNat=10
   ·have hc10:c=10:=e10.1 h10
    rw [decide_eq_true hc10] at hj
    simp [a45_0,g0,g1,g5,he1,hlt,hn,←hc,byteV,k10,h10,w1]
    exact kn m _ _ _ (by omega) ⟨rfl,rfl,j+1,false,by omega,by simp [he1],by simp [he1],by simp at hj;omega⟩
   ·have hc10:¬c=10:=fun h=>h10 (e10.2 h)
    rw [decide_eq_false hc10] at hj
    simp [a45_0,g0,g1,g5,he1,hlt,hn,←hc,byteV,k10,h10,w1]
    exact kn m _ _ _ (by omega) ⟨rfl,rfl,j+1,true,by omega,by simp [he1],by simp [he1,g5],by simp at hj;omega⟩
  | false =>
   rw [skipN] at hj
   by_cases h35:c.toNat=35
   ·rw [if_pos (e35.1 h35)] at hj
    simp [a45_0,g0,g1,g5,he1,hlt,hn,←hc,byteV,k35,h35,w1]
    exact kn m _ _ _ (by omega) ⟨rfl,rfl,j+1,true,by omega,by simp [he1],by simp [he1],by omega⟩
   ·rw [if_neg fun h=>h35 (e35.2 h)] at hj
    have hg:gapB c=(decide (c.toNat=32) || decide (c.toNat=9) || decide (c.toNat=10) || decide (c.toNat=13)):=by
     simp only [gapB]
     rw [Bool.eq_iff_iff]
     simp only [Bool.or_eq_true,decide_eq_true_eq,e32,e9,e10,e13]
    by_cases h32:c.toNat=32
    ·rw [if_pos (by rw [hg,decide_eq_true h32];rfl)] at hj
     simp [a45_0,g0,g1,g5,he1,hlt,hn,←hc,byteV,k35,k32,h32,w1]
     exact kn m _ _ _ (by omega) ⟨rfl,rfl,j+1,false,by omega,by simp [he1],by simp [he1,g5],by omega⟩
    by_cases h9:c.toNat=9
    ·rw [if_pos (by rw [hg,decide_eq_true h9];simp)] at hj
     simp [a45_0,g0,g1,g5,he1,hlt,hn,←hc,byteV,k35,k32,k9,h9,w1]
     exact kn m _ _ _ (by omega) ⟨rfl,rfl,j+1,false,by omega,by simp [he1],by simp [he1,g5],by omega⟩
    by_cases h10:c.toNat=10
    ·rw [if_pos (by rw [hg,decide_eq_true h10];simp)] at hj
     simp [a45_0,g0,g1,g5,he1,hlt,hn,←hc,byteV,k35,k32,k9,k10,h10,w1]
     exact kn m _ _ _ (by omega) ⟨rfl,rfl,j+1,false,by omega,by simp [he1],by simp [he1,g5],by omega⟩
    by_cases h13:c.toNat=13
    ·rw [if_pos (by rw [hg,decide_eq_true h13];simp)] at hj
     simp [a45_0,g0,g1,g5,he1,hlt,hn,←hc,byteV,k35,k32,k9,k10,k13,h13,w1]
     exact kn m _ _ _ (by omega) ⟨rfl,rfl,j+1,false,by omega,by simp [he1],by simp [he1,g5],by omega⟩
    ·rw [if_neg (by rw [hg];simp [h32,h9,h10,h13])] at hj
     simp [a45_0,g0,g1,g5,he1,hlt,hn,←hc,byteV,k35,k32,k9,k10,k13,h35,h32,h9,h10,h13]
     refine kx _ _ _ _ nofun fun hs'=>?_
     exact hK _ _ _ (.inl rfl) (by simp) ⟨_,rfl,by simp [he1,AV.still];omega⟩
theorem fn46:A.fn 46=some a46:=by kernel_rfl
theorem prim46:A.prim 46=none:=by kernel_rfl
def w46_0:List Nat:=a46_0.writes
def w46_1:List Nat:=a46_1.writes
def w46_2:List Nat:=a46_2.writes
def w46_3:List Nat:=a46_3.writes
theorem run46_3 {s:List UInt8} {i:Nat} (hs:s.length≤1000000000) {st:St} (hst:StOk st) (hi:i≤s.length) {e:Env} (he:e.length=153) (h0:AX.ev e (.t 0)=.str s) (h7:AX.ev e (.t 7)=.int .i64 i) {Q:PostQ}
  (hq:∀e',Ai.Same w46_3 e e'→AX.ev e' (.t 7)=.int .i64 (i+((s.drop i).takeWhile innB).length:Nat)→Q (.exit 0) e' [] st):AW A 46 none (.loop a46_3) e [] st Q:=by
 refine aw_loop (W:=w46_3) rfl (fun m e ds st'=>ds=[]∧st'=st∧∃j:Nat,j+m=s.length∧AX.ev e (.t 7)=.int .i64 j∧j+((s.drop j).takeWhile innB).length=i+((s.drop i).takeWhile innB).length) (s.length-i)
  ⟨rfl,rfl,i,by omega,h7,rfl⟩ ?_
 rintro m e1 ds st' hs' ⟨rfl,rfl,j,hm,g7,hj⟩ K kn kx
 have he1:e1.length=153:=by simp [hs'.1,he]
 have g0:=hs'.ev 0 rfl h0
 cases m with
 | zero =>
  have:j=s.length:=by omega
  subst this
  simp at hj
  simp [a46_3,g0,g7,he1]
  refine kx _ _ _ _ nofun fun hs'=>?_
  exact hq _ hs' (by simp [g7,he1];omega)
 | succ m =>
  have hlt:j<s.length:=by omega
  have hdr:s.drop j=s[j]::s.drop (j+1):=List.drop_eq_getElem_cons hlt
  obtain ⟨c,hc⟩:∃c,c=s[j]:=⟨_,rfl⟩
  rw [hdr,←hc,List.takeWhile_cons] at hj
  have hn:¬(j:Int)<0:=by omega
  have w1:IntKind.i64.wrap ((j:Int)+1)=(j:Int)+1:=wrap_i64 (by omega) (by omega)
  have c1:=refLet_call (c:=c) hst
  have c2:=refDig_call (c:=c) hst
  cases hl:letB c with
  | true =>
   have hb:innB c=true:=by simp [innB,hl]
   rw [hb] at hj
   simp at hj
   rw [hl] at c1
   simp [a46_3,g0,g7,he1,hlt,hn,←hc,c1,w1]
   exact kn m _ _ _ (by omega) ⟨rfl,rfl,j+1,by omega,by simp [he1],by omega⟩
  | false =>
   rw [hl] at c1
   cases hd:digB c with
   | true =>
    have hb:innB c=true:=by simp [innB,hl,hd]
    rw [hb] at hj
    simp at hj
    rw [hd] at c2
    simp [a46_3,g0,g7,he1,hlt,hn,←hc,c1,c2,w1]
    exact kn m _ _ _ (by omega) ⟨rfl,rfl,j+1,by omega,by simp [he1],by omega⟩
   | false =>
    have hb:innB c=false:=by simp [innB,hl,hd]
    rw [hb] at hj
    simp at hj
    rw [hd] at c2
    simp [a46_3,g0,g7,he1,hlt,hn,←hc,c1,c2]
    refine kx _ _ _ _ nofun fun hs'=>?_
    exact hq _ hs' (by simp [g7,he1];omega)
theorem run46_2 {s:List UInt8} {i:Nat} (hs:s.length≤1000000000) {st:St} (hst:StOk st) (hi:i≤s.length) {e:Env} (he:e.length=153) (h0:AX.ev e (.t 0)=.str s) (h7:AX.ev e (.t 7)=.int .i64 i) {Q:PostQ}
  (hq:∀e',Ai.Same w46_2 e e'→AX.ev e' (.t 7)=.int .i64 (i+((s.drop i).takeWhile digB).length:Nat)→Q (.exit 2) e' [] st):AW A 46 none (.loop a46_2) e [] st Q:=by
 refine aw_loop (W:=w46_2) rfl (fun m e ds st'=>ds=[]∧st'=st∧∃j:Nat,j+m=s.length∧AX.ev e (.t 7)=.int .i64 j∧j+((s.drop j).takeWhile digB).length=i+((s.drop i).takeWhile digB).length) (s.length-i)
  ⟨rfl,rfl,i,by omega,h7,rfl⟩ ?_
 rintro m e1 ds st' hs' ⟨rfl,rfl,j,hm,g7,hj⟩ K kn kx
 have he1:e1.length=153:=by simp [hs'.1,he]
 have g0:=hs'.ev 0 rfl h0
 cases m with
 | zero =>
  have:j=s.length:=by omega
  subst this
  simp at hj
  simp [a46_2,g0,g7,he1]
  refine kx _ _ _ _ nofun fun hs'=>?_
  exact hq _ hs' (by simp [g7,he1];omega)
 | succ m =>
  have hlt:j<s.length:=by omega
  have hdr:s.drop j=s[j]::s.drop (j+1):=List.drop_eq_getElem_cons hlt
  obtain ⟨c,hc⟩:∃c,c=s[j]:=⟨_,rfl⟩
  rw [hdr,←hc,List.takeWhile_cons] at hj
  have hn:¬(j:Int)<0:=by omega
  have w1:IntKind.i64.wrap ((j:Int)+1)=(j:Int)+1:=wrap_i64 (by omega) (by omega)
  have c2:=refDig_call (c:=c) hst
  cases hd:digB c with
  | true =>
   rw [hd] at hj c2
   simp at hj
   simp [a46_2,g0,g7,he1,hlt,hn,←hc,c2,w1]
   exact kn m _ _ _ (by omega) ⟨rfl,rfl,j+1,by omega,by simp [he1],by omega⟩
  | false =>
   rw [hd] at hj c2
   simp at hj
   simp [a46_2,g0,g7,he1,hlt,hn,←hc,c2]
   refine kx _ _ _ _ nofun fun hs'=>?_
   exact hq _ hs' (by simp [g7,he1];omega)
theorem run46_1 {s:List UInt8} {i:Nat} (hs:s.length≤1000000000) {st:St} (hst:StOk st) (hi:i≤s.length) {e:Env} (he:e.length=153) (h0:AX.ev e (.t 0)=.str s) (h7:AX.ev e (.t 7)=.int .i64 i) {Q:PostQ}
  (hq:∀e',Ai.Same w46_1 e e'→AX.ev e' (.t 7)=.int .i64 (i+((s.drop i).takeWhile digB).length:Nat)→Q (.exit 4) e' [] st):AW A 46 none (.loop a46_1) e [] st Q:=by
 refine aw_loop (W:=w46_1) rfl (fun m e ds st'=>ds=[]∧st'=st∧∃j:Nat,j+m=s.length∧AX.ev e (.t 7)=.int .i64 j∧j+((s.drop j).takeWhile digB).length=i+((s.drop i).takeWhile digB).length) (s.length-i)
  ⟨rfl,rfl,i,by omega,h7,rfl⟩ ?_
 rintro m e1 ds st' hs' ⟨rfl,rfl,j,hm,g7,hj⟩ K kn kx
 have he1:e1.length=153:=by simp [hs'.1,he]
 have g0:=hs'.ev 0 rfl h0
 cases m with
 | zero =>
  have:j=s.length:=by omega
  subst this
  simp at hj
  simp [a46_1,g0,g7,he1]
  refine kx _ _ _ _ nofun fun hs'=>?_
  exact hq _ hs' (by simp [g7,he1];omega)
 | succ m =>
  have hlt:j<s.length:=by omega
  have hdr:s.drop j=s[j]::s.drop (j+1):=List.drop_eq_getElem_cons hlt
  obtain ⟨c,hc⟩:∃c,c=s[j]:=⟨_,rfl⟩
  rw [hdr,←hc,List.takeWhile_cons] at hj
  have hn:¬(j:Int)<0:=by omega
  have w1:IntKind.i64.wrap ((j:Int)+1)=(j:Int)+1:=wrap_i64 (by omega) (by omega)
  have c2:=refDig_call (c:=c) hst
  cases hd:digB c with
  | true =>
   rw [hd] at hj c2
   simp at hj
   simp [a46_1,g0,g7,he1,hlt,hn,←hc,c2,w1]
   exact kn m _ _ _ (by omega) ⟨rfl,rfl,j+1,by omega,by simp [he1],by omega⟩
  | false =>
   rw [hd] at hj c2
   simp at hj
   simp [a46_1,g0,g7,he1,hlt,hn,←hc,c2]
   refine kx _ _ _ _ nofun fun hs'=>?_
   exact hq _ hs' (by simp [g7,he1];omega)
def signsL:List (List UInt8):=twosL++ones.map fun c=>[c]
theorem pre1B {c:UInt8} {l:List UInt8} {a:UInt8}:preB [a] (c::l)=decide (c=a):=by simp [preB]
theorem find_ones (c:UInt8) (l:List UInt8):∀os:List UInt8,((os.map fun c=>[c]).find? fun w=>preB w (c::l))=if c∈os then some [c] else none
 | []=>by simp
 | a::os=>by
  rw [List.map_cons,List.find?_cons,pre1B,find_ones c l os]
  by_cases h:c=a
  ·subst h;simp
  ·simp [h]
theorem find_sign (c:UInt8) (l:List UInt8):(signsL.find? fun w=>preB w (c::l))=if signLen (c::l)=0 then none else some ((c::l).take (signLen (c::l))):=by
 rw [signsL,List.find?_append,find_ones]
 cases l with
 | nil =>
  have h2:(twosL.find? fun w=>preB w [c])=none:=by simp [twosL,pre_one]
  rw [h2]
  by_cases h:c∈ones<;>simp [signLen,h]
 | cons d r =>
  have h2:(twosL.find? fun w=>preB w (c::d::r))=if twoB c d then some [c,d] else none:=by
   have h45:∀a b:UInt8,(decide (c=a) && decide (d=b))=true→c=a∧d=b:=by
    intro a b h;simpa using h
   simp only [twosL,List.find?_cons,pre_two,List.find?_nil]
   split
   ·rename_i h;obtain ⟨rfl,rfl⟩:=h45 _ _ h;rfl
   ·rename_i h1
    split
    ·rename_i h;obtain ⟨rfl,rfl⟩:=h45 _ _ h;rfl
    ·rename_i h2
     split
     ·rename_i h;obtain ⟨rfl,rfl⟩:=h45 _ _ h;rfl
     ·rename_i h3
      have:twoB c d=false:=by simp only [twoB,h1,h2,h3];rfl
      rw [this];rfl
  rw [h2]
  cases hb:twoB c d with
  | true=>simp [signLen,hb]
  | false=>by_cases h:c∈ones<;>simp [signLen,hb,h]
set_option maxRecDepth 10000 in
theorem signs_lit:AV.lst 1 [.str [45,62],.str [60,61],.str [61,61],.str [40],.str [41],.str [123],.str [125],.str [44],.str [59],.str [58],.str [61],.str [43],.str [45],.str [42],.str [47],.str [60],.str [46]] .tight=AV.lst 1 (signsL.map AV.str) .tight:=rfl
theorem signs_loop {s:List UInt8} {i:Nat} (hs:s.length≤1000000) {st:St} (hi:i<s.length) {e:Env} (he:e.length=153) (h0:AX.ev e (.t 0)=.str s) (h1:AX.ev e (.t 1)=.int .i64 i) (h4:AX.ev e (.t 4)=.ptr st.length 0)
  (h11:AX.ev e (.t 11)=.lst 1 (signsL.map AV.str) .tight) (h12:AX.ev e (.t 12)=.int .i64 0) {Q:PostQ}
  (hq0:signLen (s.drop i)=0→∀e',Ai.Same w46_0 e e'→Q (.exit 6) e' [] (st++[.cells none [.int .i64 0,.str [],.int .i64 0,.int .i64 0]]))
  (hq1:signLen (s.drop i)≠0→∀e',Ai.Same w46_0 e e'→AX.ev e' (.t 5)=.bool true→Q .ret e' [] (st++[.cells none [.int .i64 4,.str ((s.drop i).take (signLen (s.drop i))),.int .i64 0,.int .i64 i]])) :
  AW A 46 none (.loop a46_0) e [] (st++[.cells none [.int .i64 0,.str [],.int .i64 0,.int .i64 0]]) Q:=by
 have hdr:s.drop i=s[i]::s.drop (i+1):=List.drop_eq_getElem_cons hi
 have hfs:=find_sign s[i] (s.drop (i+1))
 rw [←hdr] at hfs
 have hsl:signsL.length=17:=rfl
 refine aw_loop (W:=w46_0) rfl (fun m e ds st'=>ds=[]∧st'=st++[.cells none [.int .i64 0,.str [],.int .i64 0,.int .i64 0]]∧∃k:Nat,k+m=17∧AX.ev e (.t 12)=.int .i64 k∧((signsL.drop k).find? fun w=>preB w (s.drop i))=signsL.find? fun w=>preB w (s.drop i)) 17
  ⟨rfl,rfl,0,rfl,h12,rfl⟩ ?_
 rintro m e1 ds st' hs' ⟨rfl,rfl,k,hm,g12,hf⟩ K kn kx
 have he1:e1.length=153:=by simp [hs'.1,he]
 have g0:=hs'.ev 0 rfl h0
 have g1:=hs'.ev 1 rfl h1
 have g4:=hs'.ev 4 rfl h4
 have g11:=hs'.ev 11 rfl h11
 cases m with
 | zero =>
  have:k=17:=by omega
  subst this
  rw [show signsL.drop 17=[] from rfl,hfs] at hf
  have h0:signLen (s.drop i)=0:=by
   by_cases h:signLen (s.drop i)=0
   ·exact h
   ·rw [if_neg h] at hf;cases hf
  simp [a46_0,g0,g1,g11,g12,he1,hsl]
  refine kx _ _ _ _ nofun fun hs'=>?_
  exact hq0 h0 _ hs'
 | succ m =>
  have hk:k<signsL.length:=by omega
  have hk':(k:Int)<17:=by omega
  have hn:¬(k:Int)<0:=by omega
  have w1:IntKind.i64.wrap ((k:Int)+1)=(k:Int)+1:=wrap_i64 (by omega) (by omega)
  obtain ⟨w,hw⟩:∃w,w=signsL[k]:=⟨_,rfl⟩
  have hwl:w.length≤2∧1≤w.length:=by
   have hall:∀w∈signsL,w.length≤2∧1≤w.length:=by decide
   exact hall w (by rw [hw];exact List.getElem_mem hk)
  rw [List.drop_eq_getElem_cons hk,←hw,List.find?_cons] at hf
  have w2:IntKind.i64.wrap ((i:Int)+w.length)=(i:Int)+w.length:=wrap_i64 (by omega) (by omega)
  have hki:k<17:=by omega
  by_cases hle:i+w.length≤s.length
  ·have hle':(i:Int)+w.length≤(s.length:Int):=by omega
   have htk:(s.take (i+w.length)).drop i=(s.drop i).take w.length:=by rw [List.drop_take,Nat.add_sub_cancel_left]
   have hpb:preB w (s.drop i)=decide ((s.drop i).take w.length=w):=by
    simp only [preB,List.length_drop]
    rw [decide_eq_true (p:=w.length≤s.length-i) (by omega)];rfl
   have hle3:(i:Int)≤(i:Int)+w.length:=by omega
   have h0l:(0:Int)≤(i:Int)+w.length:=by omega
   have htn:((i:Int)+(w.length:Int)).toNat=i+w.length:=by omega
   by_cases heq:(s.drop i).take w.length=w
   ·rw [hpb,decide_eq_true heq,hfs] at hf
    have hsn:signLen (s.drop i)≠0:=by
     intro h;rw [if_pos h] at hf;cases hf
    rw [if_neg hsn] at hf
    cases hf
    obtain ⟨x,hx⟩:∃x,x=(s.drop i).take (signLen (s.drop i)):=⟨_,rfl⟩
    rw [←hx] at hw hq1 w2 hle hle' htk heq hle3 h0l htn
    simp [a46_0,g0,g1,g4,g11,g12,he1,hsl,hk,hk',hki,hn,←hw,w2,hle,hle',bound,hle3,h0l,htn,htk,heq,putCells,set_base0]
    refine kx _ _ _ _ nofun fun hs'=>?_
    exact hq1 hsn _ hs' (by simp [he1])
   ·rw [hpb,decide_eq_false heq] at hf
    simp [a46_0,g0,g1,g4,g11,g12,he1,hsl,hk,hk',hki,hn,←hw,w2,hle,hle',bound,hle3,h0l,htn,htk,heq,w1]
    exact kn m _ _ _ (by omega) ⟨rfl,rfl,k+1,by omega,by simp [he1],hf⟩
  ·have hle':¬(i:Int)+w.length≤(s.length:Int):=by omega
   have hpb:preB w (s.drop i)=false:=by
    simp only [preB,List.length_drop]
    rw [decide_eq_false (p:=w.length≤s.length-i) (by omega)];rfl
   rw [hpb] at hf
   simp [a46_0,g0,g1,g4,g11,g12,he1,hsl,hk,hk',hki,hn,←hw,w2,hle,hle',w1]
   exact kn m _ _ _ (by omega) ⟨rfl,rfl,k+1,by omega,by simp [he1],hf⟩
def a46n:ACode:=(.seq (.reg [⟨(some 100),.mov (.t 0),none⟩,⟨(some 101),.mov (.t 1),none⟩,⟨(some 102),.mov (.t 7),none⟩,⟨(some 103),.sliceStr (.t 100) (some (.t 101)) (some (.t 102)),none⟩,⟨(some 104),.call (.k (.func (.func 82) [] [])) [(.t 103)],none⟩,⟨(some 99),.mov (.t 104),none⟩,⟨(some 105),.extract (.t 99) 0,none⟩,⟨(some 106),.extract (.t 99) 1,none⟩,⟨(some 9),.mov (.t 105),none⟩,⟨(some 10),.mov (.t 106),none⟩]) (.seq (.reg [⟨(some 107),.mov (.t 0),none⟩,⟨(some 108),.mov (.t 1),none⟩,⟨(some 109),.mov (.t 7),none⟩,⟨(some 110),.sliceStr (.t 107) (some (.t 108)) (some (.t 109)),none⟩,⟨(some 111),.mov (.t 9),none⟩,⟨(some 112),.mov (.t 1),none⟩,⟨(some 113),.build [(.int .i64 0),(.str []),(.int .i64 0),(.int .i64 0)] [(0,1,(.k (.int .i64 2))),(1,1,(.t 110)),(2,1,(.t 111)),(3,1,(.t 112))],none⟩,⟨(some 114),.mov (.t 10),none⟩,⟨none,.store 4 (.t 4) (.t 113),none⟩,⟨(some 5),.mov (.t 114),none⟩]) .ret))
def refTok (l:List UInt8) (pos:Nat):Tok:=if (tokOf l pos).2=false∧(tokOf l pos).1.kind=4 then ⟨0,[],0,0⟩ else (tokOf l pos).1
set_option maxHeartbeats 2000000 in
theorem refOne_call {s:List UInt8} {i:Nat} (hs:s.length≤1000000) {st:St} (hst:StOk st) (hi:i<s.length) :
  runL A (.call 46 [.str s,.int .i64 i]) st=some ⟨.ret,⟨[.tup [(refTok (s.drop i) i).av,.bool (tokOf (s.drop i) i).2]],[]⟩,st⟩:=by
 refine (task_of_aw (N:=153) prim46 fn46 rfl rfl hst ?_).1
 intro e he ha K hK
 have a0:=ha 0
 have a1:=ha 1
 clear ha
 simp at a0 a1
 have hdr:s.drop i=s[i]::s.drop (i+1):=List.drop_eq_getElem_cons hi
 obtain ⟨c,hc⟩:∃c,c=s[i]:=⟨_,rfl⟩
 rw [←hc] at hdr
 have hn:¬(i:Int)<0:=by omega
 have st1:StOk (st++[.cells none [.int .i64 0,.str [],.int .i64 0,.int .i64 0]]):=hst.snoc rfl
 have st2:∀a b c d,StOk (st++[.cells none [.int .i64 0,.str [],.int .i64 0,.int .i64 0],.cells none [.int .i64 a,.str b,.int .i64 c,.int .i64 d]]):=fun a b c d=>by
  have:=st1.snoc (o:=.cells none [.int .i64 a,.str b,.int .i64 c,.int .i64 d]) rfl
  simpa using this
 have c1:=refLet_call (c:=c) st1
 have c2:=refDig_call (c:=c) st1
 simp [byteV] at c1 c2
 have fin:∀(E:Env) (x:Tok) (ok:Bool) (l:St),refTok (s.drop i) i=x→(tokOf (s.drop i) i).2=ok→E.length=153→AX.ev E (.t 4)=.ptr st.length 0→AX.ev E (.t 5)=.bool ok →
   K .ret E [] (st++.cells none [.int .i64 x.kind,.str x.text,.int .i64 x.v,.int .i64 x.pos]::l):=by
  intro E x ok l hx hok hE h4 h5
  refine hK _ _ _ (.inl rfl) (by simp) ⟨[x.av,.bool ok],?_,by rw [hx,hok];simp [Tok.av,AV.still,AV.stills]⟩
  have h5':E[5]'(by omega)=.bool ok:=by simpa [AX.ev,List.getD_eq_getElem?_getD,hE] using h5
  have h4':E[4]'(by omega)=.ptr st.length 0:=by simpa [AX.ev,List.getD_eq_getElem?_getD,hE] using h4
  simp [a46,resultsA,h4',h5',hE,resA,takeVar,Tok.av]
 have htk:=tokOf_cons c (s.drop (i+1)) i
 rw [←hdr] at htk
 cases hl:letB c with
 | true =>
  rw [hl] at c1
  rw [hl,if_pos rfl] at htk
  simp [a46,he,a0,a1,hi,hn,←hc,byteV,c1]
  refine run46_3 (s:=s) (i:=i) (by omega) st1 (by omega) (by simp [he]) (by simp [he,a0]) (by simp [he]) fun e1 hs1 g7=>?_
  have he1:e1.length=153:=by simp [hs1.1,he]
  have g0:AX.ev e1 (.t 0)=.str s:=hs1.ev 0 rfl (by simp [he,a0])
  have g1:AX.ev e1 (.t 1)=.int .i64 i:=hs1.ev 1 rfl (by simp [he,a1])
  have g4:AX.ev e1 (.t 4)=.ptr st.length 0:=hs1.ev 4 rfl (by simp [he])
  have hle:=tw_le innB s (i:=i) (by omega)
  have htake:(s.take (i+((s.drop i).takeWhile innB).length)).drop i=(s.drop i).takeWhile innB:=by
   rw [List.drop_take,Nat.add_sub_cancel_left]
   exact take_tw innB (s.drop i)
  obtain ⟨j,hj⟩:∃j,j=i+((s.drop i).takeWhile innB).length:=⟨_,rfl⟩
  obtain ⟨x,hx⟩:∃x,x=(s.drop i).takeWhile innB:=⟨_,rfl⟩
  rw [←hj] at g7 hle htake
  rw [←hx] at htake hj htk
  have hij:(i:Int)≤(j:Int):=by omega
  have hij':i≤j:=by omega
  have hjs':(j:Int)≤(s.length:Int):=by omega
  have w1:IntKind.i64.wrap ((j:Int)-(i:Int))=(x.length:Int):=by rw [wrap_i64 (by omega) (by omega)];omega
  have k16:((x.length:Int)≤16)↔x.length≤16:=by omega
  have hrt:refTok (s.drop i) i=⟨if wordB x then 3 else 1,x,0,i⟩:=by
   rw [refTok,htk];simp;intro _ h;split at h<;>omega
  have hw:=refWord_call (s:=x) (st2 1 x 0 i)
  cases hwb:wordB x with
  | true =>
   rw [hwb] at hw hrt
   simp [he1,g0,g1,g4,g7,bound,hij,hij',hle,hjs',htake,putCells,takeVar,hw,w1]
   have:=fin (x:=⟨3,x,0,i⟩) (ok:=decide (x.length≤16)) (l:=[.cells none [.int .i64 3,.str x,.int .i64 0,.int .i64 i]])
   simp at this
   exact this _ hrt (by rw [htk]) (by simp [he1]) (by simp [he1,g4]) (by simp [he1,k16])
  | false =>
   rw [hwb] at hw hrt
   simp [he1,g0,g1,g4,g7,bound,hij,hij',hle,hjs',htake,putCells,takeVar,hw,w1]
   have:=fin (x:=⟨1,x,0,i⟩) (ok:=decide (x.length≤16)) (l:=[.cells none [.int .i64 1,.str x,.int .i64 0,.int .i64 i]])
   simp at this
   exact this _ hrt (by rw [htk]) (by simp [he1]) (by simp [he1,g4]) (by simp [he1,k16])
 | false =>
  rw [hl] at c1
  rw [hl,if_neg (by decide)] at htk
  cases hd:digB c with
  | true =>
   rw [hd] at c2
   rw [hd,if_pos rfl] at htk
   have hnl:=numLen_le (s.drop i)
   rw [List.length_drop] at hnl
   have hrt:refTok (s.drop i) i=(tokOf (s.drop i) i).1:=by rw [refTok,htk];simp
   -- behind the digits
   have tail:∀(Q:PostQ),(∀E S,K .ret E [] S→Q .ret E [] S)→∀e2:Env,e2.length=153→AX.ev e2 (.t 0)=.str s→AX.ev e2 (.t 1)=.int .i64 i→AX.ev e2 (.t 4)=.ptr st.length 0→AX.ev e2 (.t 7)=.int .i64 (i+numLen (s.drop i):Nat) →
     AW A 46 none a46n e2 [] (st++[.cells none [.int .i64 0,.str [],.int .i64 0,.int .i64 0]]) Q:=by
    intro Q hQ e2 he2 g0 g1 g4 g7
    have htake:(s.take (i+numLen (s.drop i))).drop i=(s.drop i).take (numLen (s.drop i)):=by
     rw [List.drop_take,Nat.add_sub_cancel_left]
    obtain ⟨x,hx⟩:∃x,x=(s.drop i).take (numLen (s.drop i)):=⟨_,rfl⟩
    obtain ⟨j,hj⟩:∃j,j=i+numLen (s.drop i):=⟨_,rfl⟩
    rw [←hx] at htake htk
    rw [←hj] at htake g7
    have hij:(i:Int)≤(j:Int):=by omega
    have hij':i≤j:=by omega
    have hjs:j≤s.length:=by omega
    have hjs':(j:Int)≤(s.length:Int):=by omega
    have hsg:=refSigned_call (s:=x) (by rw [hx,List.length_take];omega) (fun r h=>by
     have hpos:0<numLen (s.drop i):=by rw [hdr];exact numLen_pos hd
     rw [hx,hdr] at h
     obtain ⟨n,hn⟩:∃n,numLen (c::s.drop (i+1))=n+1:=⟨numLen (c::s.drop (i+1))-1,by rw [←hdr];omega⟩
     rw [hn,List.take_succ_cons] at h
     simp at h
     obtain ⟨rfl,_⟩:=h
     revert hd;decide) st1
    simp [a46n,he2,g0,g1,g4,g7,bound,hij,hij',hjs,hjs',htake,hsg,putCells]
    have:=fin (x:=⟨2,x,(valP x).1,i⟩) (ok:=(valP x).2) (l:=[])
    simp at this
    exact hQ _ _ (this _ (by rw [hrt,htk]) (by rw [htk]) (by simp [he2]) (by simp [he2,g4]) (by simp [he2]))
   simp only [a46]
   change AW A 46 none (.seq _ (.seq _ (.seq _ (.seq _ (.seq (.seq _ (.cond _ (.seq _ (.seq _ a46n)) _)) _))))) _ _ _ _
   simp [he,a0,a1,hi,hn,←hc,byteV,c1,c2]
   refine run46_2 (s:=s) (i:=i) (by omega) st1 (by omega) (by simp [he]) (by simp [he,a0]) (by simp [he]) fun e1 hs1 g7=>?_
   have he1:e1.length=153:=by simp [hs1.1,he]
   have g0:AX.ev e1 (.t 0)=.str s:=hs1.ev 0 rfl (by simp [he,a0])
   have g1:AX.ev e1 (.t 1)=.int .i64 i:=hs1.ev 1 rfl (by simp [he,a1])
   have g4:AX.ev e1 (.t 4)=.ptr st.length 0:=hs1.ev 4 rfl (by simp [he])
   have hle:=tw_le digB s (i:=i) (by omega)
   have hnum:numLen (s.drop i)=numAfter ((s.drop i).takeWhile digB).length (s.drop (i+((s.drop i).takeWhile digB).length)):=by
    rw [numLen,List.drop_drop]
   obtain ⟨d,hdd⟩:∃d,d=((s.drop i).takeWhile digB).length:=⟨_,rfl⟩
   rw [←hdd] at g7 hle hnum
   obtain ⟨j,hj⟩:∃j,j=i+d:=⟨_,rfl⟩
   rw [←hj] at g7 hle hnum
   have w1:IntKind.i64.wrap ((j:Int)+1)=(j:Int)+1:=wrap_i64 (by omega) (by omega)
   by_cases h1:j+1<s.length
   ·have h1':(j:Int)+1<(s.length:Int):=by omega
    have hjl:j<s.length:=by omega
    have hr:s.drop j=s[j]::s[j+1]::s.drop (j+2):=by rw [List.drop_eq_getElem_cons hjl,List.drop_eq_getElem_cons h1]
    obtain ⟨p,hp⟩:∃p,p=s[j]:=⟨_,rfl⟩
    obtain ⟨q,hq⟩:∃q,q=s[j+1]:=⟨_,rfl⟩
    rw [hr,←hp,←hq] at hnum
    have hnj:¬(j:Int)<0:=by omega
    have hnj1:¬(j:Int)+1<0:=by omega
    have htn:((j:Int)+1).toNat=j+1:=by omega
    have k46:((p.toNat:Int)=46)↔p.toNat=46:=by omega
    have e46:p.toNat=46↔p=46:=(byte_eq (c:=p) (n:=46) (by decide)).symm
    by_cases h46:p.toNat=46
    ·simp only [numAfter,if_pos (e46.1 h46)] at hnum
     have c3:=refDig_call (c:=q) st1
     simp [byteV] at c3
     cases hdq:digB q with
     | true =>
      rw [hdq] at c3 hnum
      simp only [if_true] at hnum
      simp [he1,g0,g1,g4,g7,h1,h1',hjl,w1,←hp,←hq,k46,h46,hnj,hnj1,htn,byteV,c3]
      refine run46_1 (s:=s) (i:=j+1) (by omega) st1 (by omega) (by simp [he1]) (by simp [he1,g0]) (by simp [he1]) fun e2 hs2 g7=>?_
      have he2:e2.length=153:=by simp [hs2.1,he1]
      simp
      refine tail _ (fun _ _ h=>by simpa using h) _ he2 (hs2.ev 0 rfl (by simp [he1,g0])) (hs2.ev 1 rfl (by simp [he1,g1])) (hs2.ev 4 rfl (by simp [he1,g4])) ?_
      rw [g7,hnum,show s.drop (j+1)=q::s.drop (j+2) by rw [List.drop_eq_getElem_cons h1,hq]]
      congr 2;omega
     | false =>
      rw [hdq] at c3 hnum
      simp only [Bool.false_eq_true,if_false] at hnum
      simp [he1,g0,g1,g4,g7,h1,h1',hjl,w1,←hp,←hq,k46,h46,hnj,hnj1,htn,byteV,c3]
      exact tail _ (fun _ _ h=>by simpa using h) _ (by simp [he1]) (by simp [he1,g0]) (by simp [he1,g1]) (by simp [he1,g4]) (by simp [he1,g7];omega)
    ·simp only [numAfter,if_neg (fun h=>h46 (e46.2 h))] at hnum
     simp [he1,g0,g1,g4,g7,h1,h1',hjl,w1,←hp,k46,h46,hnj,byteV]
     exact tail _ (fun _ _ h=>by simpa using h) _ (by simp [he1]) (by simp [he1,g0]) (by simp [he1,g1]) (by simp [he1,g4]) (by simp [he1,g7];omega)
   ·have h1':¬(j:Int)+1<(s.length:Int):=by omega
    have hnum2:numLen (s.drop i)=d:=by
     rw [hnum]
     have hl2:(s.drop j).length≤1:=by rw [List.length_drop];omega
     match s.drop j,hl2 with
     | [],_=>rfl
     | [p],_=>simp only [numAfter];split<;>rfl
    simp [he1,g0,g1,g4,g7,h1,h1',w1]
    exact tail _ (fun _ _ h=>by simpa using h) _ (by simp [he1]) (by simp [he1,g0]) (by simp [he1,g1]) (by simp [he1,g4]) (by simp [he1,g7];omega)
  | false =>
   rw [hd] at c2
   rw [hd,if_neg (by decide)] at htk
   simp [a46,he,a0,a1,hi,hn,←hc,byteV,c1,c2,putCells,group]
   rw [signs_lit]
   refine signs_loop hs hi (by simp [he]) (by simp [he,a0]) (by simp [he,a1]) (by simp [he]) (by simp [he]) (by simp [he]) (fun h0 e1 hs1=>?_) (fun h0 e1 hs1 g5=>?_)
   ·have he1:e1.length=153:=by simp [hs1.1,he]
    have g4:AX.ev e1 (.t 4)=.ptr st.length 0:=hs1.ev 4 rfl (by simp [he])
    simp [he1,g4,putCells]
    have:=fin (x:=⟨0,[],0,0⟩) (ok:=false) (l:=[])
    simp at this
    exact this _ (by rw [refTok,htk];simp [h0]) (by rw [htk];simp [h0]) (by simp [he1]) (by simp [he1,g4]) (by simp [he1])
   ·have he1:e1.length=153:=by simp [hs1.1,he]
    have g4:AX.ev e1 (.t 4)=.ptr st.length 0:=hs1.ev 4 rfl (by simp [he])
    simp
    have:=fin (x:=⟨4,(s.drop i).take (signLen (s.drop i)),0,i⟩) (ok:=true) (l:=[])
    simp at this
    exact this _ (by rw [refTok,htk];simp [h0]) (by rw [htk];simp [h0]) (by simp [he1]) (by simp [he1,g4]) (by simp [he1,g5])
theorem fn21:A.fn 21=some a21:=by kernel_rfl
theorem prim21:A.prim 21=none:=by kernel_rfl
def w21_0:List Nat:=a21_0.writes
theorem refTok_ok {l:List UInt8} {p:Nat} (h:(tokOf l p).2=true):refTok l p=(tokOf l p).1:=by
 rw [refTok,if_neg (by rw [h];simp)]
set_option maxHeartbeats 1000000 in
theorem refLex_call {s:List UInt8} (hs:s.length≤281474976710656) {st:St} (hst:StOk st):runL A (.call 21 [.str s]) st=some ⟨.ret,⟨[.tup [(lexP s).1,(lexP s).2]],[]⟩,st⟩:=by
 refine (task_of_aw (N:=46) prim21 fn21 rfl rfl hst ?_).1
 intro e he ha K hK
 have a0:=ha 0
 clear ha
 simp at a0
 by_cases hbig:20000<s.length
 ·have hbig':(20000:Int)<(s.length:Int):=by omega
  simp [a21,he,a0,hbig,hbig',putCells,set_base0]
  exact hK _ _ _ (.inl rfl) (by simp) ⟨[noToks,flt 10 0],by simp [a21,he,takeVar,noToks,flt],by simp [lexP,hbig,noToks,flt,AV.stills,AV.still]⟩
 ·have hbig':¬(20000:Int)<(s.length:Int):=by omega
  have hst1:StOk (st++[.cells none [.int .i64 0,.int .i64 0]]):=hst.snoc rfl
  have hsk:=refSkip_call (s:=s) (i:=0) (by omega) hst1 (by omega)
  simp at hsk
  have hsl:=skipN_le false s
  simp [a21,he,a0,hbig,hbig',hsk]
  refine aw_loop (W:=w21_0) rfl (fun m e ds st'=>ds=[]∧∃(i:Nat) (us:List Tok) (ap:Ap) (l:St),i+m=s.length∧AX.ev e (.t 5)=.int .i64 i∧AX.ev e (.t 4)=outAv us ap∧st'=(st++[.cells none [.int .i64 0,.int .i64 0]])++l∧StOk st' ∧
    OwnW st' (st.length+1) 4 (some 55) ap us.length∧(us=[]→ap=.tight)∧us.length≤i∧lexK s 0=(lexS (s.drop i) i).map (us++·)) (s.length-skipN false s)
   ⟨rfl,skipN false s,[],.tight,[],by omega,by simp [he],by simp [he,outAv],by simp,hst1,.inl rfl,fun _=>rfl,by simp,by
    have:∀x:Except Nat (List Tok),x.map ([]++·)=x:=fun x=>by cases x<;>rfl
    rw [this,lexK];simp⟩ ?_
  rintro m e1 ds st' hs' ⟨rfl,i,us,ap,l,hm,g5,g4,hst',hok,how,hnil,hul,hlx⟩ K1 kn kx
  have he1:e1.length=46:=by simp [hs'.1,he]
  have g0:=hs'.ev 0 rfl (v:=.str s) (by simp [he,a0])
  have g3:=hs'.ev 3 rfl (v:=.ptr st.length 0) (by simp [he])
  have hlen1:st.length+1≤st'.length:=by rw [hst'];simp
  by_cases hi:i<s.length
  ·have hd:=List.drop_eq_getElem_cons hi
   obtain ⟨c,hc⟩:∃c,c=s[i]:=⟨_,rfl⟩
   rw [←hc] at hd
   have hone:=refOne_call (s:=s) (i:=i) (by omega) hok hi
   cases hb:(tokOf (s.drop i) i).2 with
   | false =>
    rw [hb] at hone
    subst hst'
    simp [Tok.av] at hone
    have hx:lexK s 0=.error i:=by rw [hlx,hd,lexS_bad (by rw [←hd];exact hb)];rfl
    simp [a21_0,g0,g3,g4,g5,he1,hi,hone,putCells,set_base0]
    refine kx _ _ _ _ nofun fun hs'=>?_
    simp
    exact hK _ _ _ (.inl rfl) (by simp) ⟨[noToks,flt 1 i],by simp [a21,g3,he1,takeVar,noToks,flt],by simp [lexP,hbig,hx,noToks,flt,AV.stills,AV.still]⟩
   | true =>
    rw [hb,refTok_ok hb] at hone
    obtain ⟨x,hx⟩:∃x,x=(tokOf (s.drop i) i).1:=⟨_,rfl⟩
    rw [←hx] at hone
    have htk:tokOf (c::s.drop (i+1)) i=(x,true):=by rw [←hd,hx,←hb]
    have hle:=tokOf_le htk
    have hpos:=tokOf_pos (c:=c) (l:=s.drop (i+1)) (pos:=i) (by rw [htk])
    rw [htk] at hpos
    simp at hpos
    rw [←hd,List.length_drop] at hle
    have hsk2:=skipN_le false (s.drop (i+x.text.length))
    rw [List.length_drop] at hsk2
    have hokx:StOk (st'++[.cells none x.av.cells]):=hok.snoc (by have:=tok_low (st'.length+1) x;simpa [Tok.av,AObj.lowB,AV.lowB] using this)
    obtain ⟨ap',st2,hap,ho',hg,hsd⟩:=own_app_out (x:=x) (st:=st'++[.cells none x.av.cells]) (b:=st.length+1) (us:=us) (ap:=ap) (by simp;omega) (how.app _) hnil (by omega) rfl
    have hxc:st2[st'.length]?=some (.cells none x.av.cells):=hsd _ _ (by omega) nofun (by simp)
    have hsk:=refSkip_call (s:=s) (i:=i+x.text.length) (by omega) (hg.ok hokx) (by omega)
    simp at hsk
    have w1:IntKind.i64.wrap ((i:Int)+x.text.length)=(i:Int)+x.text.length:=wrap_i64 (by omega) (by omega)
    have hst2:∃l2,st2=(st++[.cells none [.int .i64 0,.int .i64 0]])++l2:=by
     rw [hst',List.append_assoc] at hg
     exact hg.split (by simp)
    obtain ⟨l2,hl2⟩:=hst2
    simp [Tok.av] at hone hap hxc
    simp [a21_0,g0,g3,g4,g5,he1,hi,hone,putCells,takeVar,hap,hxc,w1,hsk]
    refine kn (s.length-(i+x.text.length+skipN false (s.drop (i+x.text.length)))) _ _ _ (by omega) ⟨rfl,i+x.text.length+skipN false (s.drop (i+x.text.length)),us++[x],ap',l2,by omega,by simp [he1],by simp [he1],hl2,hg.ok hokx,ho'.weak,by simp,by simp;omega,?_⟩
    rw [hlx,hd,lexS_tok htk,←hd,List.drop_drop,lexK,List.drop_drop,map_map']
    simp
  ·have:i=s.length:=by omega
   subst this
   obtain ⟨ap',st2,hap,ho',hg,hsd⟩:=own_app_out (x:=endTok s.length) (st:=st') (b:=st.length+1) (us:=us) (ap:=ap) (by omega) how hnil (by omega) rfl
   have hx:lexK s 0=.ok (us++[endTok s.length]):=by rw [hlx,List.drop_length,lexS_nil];rfl
   obtain ⟨l2,hl2⟩:∃l2,st2=(st++[.cells none [.int .i64 0,.int .i64 0]])++l2:=by
    rw [hst'] at hg
    exact hg.split (by simp)
   simp [Tok.av,endTok] at hap
   simp [a21_0,g0,g3,g4,g5,he1]
   refine kx _ _ _ _ nofun fun hs'=>?_
   subst hl2
   simp at hap
   simp [g0,g3,g4,he1,putCells,hap,set_base0]
   have hst3:=fun S:St=>still_toks (n:=st.length) (st:=S) (us:=us++[endTok s.length]) (by simp) ho' (by omega)
   exact hK _ _ _ (.inl rfl) (by simp) ⟨[outAv (us++[endTok s.length]) ap',flt 0 0],by simp [a21,g3,he1,takeVar,flt,endTok],by
    simp only [oneOf]
    rw [still_tup2 (hst3 _) (b':=flt 0 0) (by simp [flt,AV.still,AV.stills])]
    simp [lexP,hbig,hx]⟩
end Go.Proofs.YtgkhmmlemgikjaaGreatDoor.Lx
