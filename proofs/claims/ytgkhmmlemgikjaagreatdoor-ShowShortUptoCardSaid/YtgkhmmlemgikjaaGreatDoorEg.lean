/- Part Eg. No condition. -/
import Derived.Test.YtgkhmmlemgikjaaGreatDoorEb
import Derived.Test.YtgkhmmlemgikjaaGreatDoorRows
import Derived.OpenShut
import Derived.Deep.Slices
import Derived.ProofKit
import Derived.Deep.DeepHandedRow
import Derived.LaidLaws
import Derived.Lib.LaidTab
import Derived.Lib.AppendIntMem
import Derived.Lib.ItoaNum
import Derived.Lib.Join
import Derived.Lib.TrimByte
import Derived.Shelf.Strings.BuilderX
import Derived.Shelf.Strings.Builder1
import Derived.Shelf.RegionOpenPlain
import Derived.Lib.Strings
import Derived.Lib.UnsafeStr
import Derived.WalkKit
import Derived.Laws.Externs
set_option linter.unusedVariables false
set_option linter.unusedSimpArgs false
namespace Go.Proofs.YtgkhmmlemgikjaaGreatDoor.Ai
open Go
mutual
def AV.bulk:AV→Nat
 | .str s=>s.length+1
 | .agg cs=>AV.bulks cs+1
 | .lst _ es _=>AV.bulks es+1
 | _=>1
def AV.bulks:List AV→Nat
 | []=>0
 | v::vs=>v.bulk+AV.bulks vs
end
theorem bulks_append (a b:List AV):AV.bulks (a++b)=AV.bulks a+AV.bulks b:=by
 induction a with
 | nil=>simp [AV.bulks]
 | cons x a ih=>simp only [List.cons_append,AV.bulks,ih];omega
theorem bulks_cells (v:AV):AV.bulks v.cells≤v.bulk:=by
 cases v<;>simp [AV.cells,AV.bulks,AV.bulk]
theorem bulks_flat (vs:List AV):AV.bulks (vs.flatMap AV.cells)≤AV.bulks vs:=by
 induction vs with
 | nil=>simp [AV.bulks]
 | cons v vs ih=>simp only [List.flatMap_cons,bulks_append,AV.bulks];have:=bulks_cells v;omega
section
variable (P:Program)
def layOut:List Field→Nat→Option Nat
 | [],o=>some o
 | f::fs,o=>if f.offset=o then layOut fs (o+P.cellsOf f.type) else none
def okType:Nat→TypeId→Bool
 | 0,_=>false
 | n+1,t=>match P.underlying t with
  | some .bool=>true
  | some (.int _)=>true
  | some .string=>true
  | some (.slice e)=>okType n e && decide (1≤P.cellsOf e)
  | some (.struct fs)=>layOut P fs.toList 0 == some (P.cellsOf t) && fs.toList.all fun f=>okType n f.type
  | some (.array k e)=>okType n e && P.cellsOf t == k * P.cellsOf e
  | _=>false
def avOf {H:Type}:Nat→TypeId→DataW H→Option AV
 | 0,_,_=>none
 | n+1,t,d=>match P.underlying t,d with
  | some .bool,.lit (.bool b)=>some (.bool b)
  | some (.int k),.lit (.int _ x)=>some (.int k x)
  | some .string,.lit (.string s)=>some (.str s)
  | some (.slice e),.nil=>some (.lst (P.cellsOf e) [] .tight)
  | some (.slice e),.slice es sp=>(es.mapM (avOf n e)).map fun l=>.lst (P.cellsOf e) l (if sp.isEmpty then .tight else .no)
  | some (.struct fs),.agg ps=>((fs.toList.zip ps).mapM fun x=>avOf n x.1.type x.2).map fun l=>.agg (l.flatMap AV.cells)
  | some (.array _ e),.agg ps=>(ps.mapM (avOf n e)).map fun l=>.agg (l.flatMap AV.cells)
  | _,_=>none
def OfType:Nat→TypeId→AV→Prop
 | 0,_,_=>False
 | n+1,t,a=>match P.underlying t with
  | some .bool=>∃b,a=.bool b
  | some (.int k)=>∃x,a=.int k x∧(Lit.int k x).wf=true
  | some .string=>∃s,a=.str s∧s.length≤maxLen
  | some (.slice e)=>∃es ap,a=.lst (P.cellsOf e) es ap∧(ap=.no∨ap=.tight)∧es.length≤maxLen∧∀x∈es,OfType n e x
  | some (.struct fs)=>∃xs:List AV,a=.agg (xs.flatMap AV.cells)∧xs.length=fs.size∧∀(i:Nat) f x,fs.toList[i]?=some f→xs[i]?=some x→OfType n f.type x
  | some (.array k e)=>∃xs:List AV,a=.agg (xs.flatMap AV.cells)∧xs.length=k∧∀x∈xs,OfType n e x
  | _=>False
end
def RowRep (J:Inj) (agg:Bool) (a:AV) (cs:List Value):Prop :=
 if agg then ∃zs,a=.agg zs∧Reps J zs cs∧zs.all AV.isCell=true else ∃y,cs=[y]∧y.cells=#[y]∧Rep J a y∧a.isCell=true
section
variable {J:Inj}
theorem RowRep.cells {agg:Bool} {a:AV} {cs:List Value} (h:RowRep J agg a cs):Reps J a.cells cs∧a.cells.all AV.isCell=true:=by
 unfold RowRep at h
 split at h
 ·obtain ⟨zs,rfl,h1,h2⟩:=h;exact ⟨h1,h2⟩
 ·obtain ⟨y,rfl,_,h1,h2⟩:=h
  have:a.cells=[a]:=by cases a<;>simp [AV.cells,AV.isCell] at h2 ⊢
  rw [this]
  exact ⟨by simp only [Reps];exact ⟨y,[],rfl,h1,rfl⟩,by simp [h2]⟩
theorem RowRep.val {agg:Bool} {a:AV} {cs:List Value} (h:RowRep J agg a cs):∃y,Rep J a y∧a.isVar=true∧y.cells.toList=cs∧(agg=true→y=.agg cs.toArray)∧(agg=false→cs=[y]):=by
 unfold RowRep at h
 split at h
 ·rename_i hg
  obtain ⟨zs,rfl,h1,h2⟩:=h
  exact ⟨.agg cs.toArray,by simp only [Rep];exact ⟨_,rfl,h1,h2⟩,rfl,rfl,fun _=>rfl,fun e=>by simp [e] at hg⟩
 ·rename_i hg
  obtain ⟨y,rfl,hy,h1,h2⟩:=h
  exact ⟨y,h1,by cases a<;>simp [AV.isCell,AV.isVar] at h2 ⊢,by rw [hy],fun e=>by simp [e] at hg,fun _=>rfl⟩
end
section
variable {P:Program} {J:Inj} {w:World} {H:Type} {enc:TypeId×Value→H} {sp:Nat→Bool} {held:Bool}
theorem cellsAt_spot {a:Addr} {v:Value} (h:w.cell? a=some v):a.spot=none:=by
 unfold World.cell? at h
 split at h
 ·split at h
  ·cases h
  ·rename_i hs;simpa using hs
 ·cases h
theorem cells_row (him:∀b o v,w.cell? ⟨b,o,none⟩=some v→J.im b o=some v) {a:Addr} {m:Nat} {cs:List Value} (h:w.cells? 0 a m=some cs) (hs:a.spot=none):Row J a.block a.off cs∧cs.length=m:=by
 unfold World.cells? at h
 rw [if_pos (Nat.zero_le _)] at h
 have hl:=mapM_some_length h
 simp at hl
 refine ⟨fun i v hv=>?_,hl⟩
 have hi:i<m:=by rw [←hl];exact (List.getElem?_eq_some_iff.1 hv).1
 have:=mapM_some_get h i i (by simp [hi])
 rw [hv,add_none hs] at this
 exact him _ _ _ this
theorem cells_spot {a:Addr} {m:Nat} {cs:List Value} (hm:1≤m) (h:w.cells? 0 a m=some cs):a.spot=none:=by
 unfold World.cells? at h
 rw [if_pos (Nat.zero_le _)] at h
 have hl:=mapM_some_length h
 rw [List.length_range] at hl
 have h0:(List.range m)[0]?=some 0:=List.getElem?_range (by omega)
 have:=mapM_some_get h 0 0 h0
 rw [List.getElem?_eq_getElem (by omega)] at this
 exact cellsAt_spot (a:=a) (by simpa [Addr.add] using this)
def Read (n:Nat) (t:TypeId) (J:Inj) (P:Program) (cs:List Value) (d:DataW H):Prop :=
 ∃a agg,isAggT P t=some agg∧avOf P n t d=some a∧RowRep J agg a cs∧OfType P n t a∧a.bulk≤Rows.uptoBulk d
theorem fields_read {n:Nat} {cs:List Value}:∀(fs:List Field) (ds:List (DataW H)) (o e:Nat),layOut P fs o=some e→fs.length=ds.length →
  (∀(i:Nat) f d,fs[i]?=some f→ds[i]?=some d→Read n f.type J P ((cs.drop f.offset).take (P.cellsOf f.type)) d) →
  ∃xs:List AV,((fs.zip ds).mapM fun x=>avOf P n x.1.type x.2)=some xs∧xs.length=fs.length∧Reps J (xs.flatMap AV.cells) ((cs.drop o).take (e-o))∧o≤e∧(xs.flatMap AV.cells).all AV.isCell=true ∧
   (∀(i:Nat) f x,fs[i]?=some f→xs[i]?=some x→OfType P n f.type x)∧AV.bulks xs≤Rows.uptoBulkAll ds
 | [],ds,o,e,hl,hlen,h=>by
  simp only [layOut,Option.some.injEq] at hl
  subst hl
  exact ⟨[],by simp,rfl,by simp [Reps],Nat.le_refl _,rfl,by simp,by simp [AV.bulks]⟩
 | f::fs,[],o,e,hl,hlen,h=>by simp at hlen
 | f::fs,d::ds,o,e,hl,hlen,h=>by
  simp only [layOut] at hl
  split at hl
  ·rename_i ho
   obtain ⟨a,agg,_,h1,h2,h3,h4⟩:=h 0 f d rfl rfl
   obtain ⟨xs,g1,g2,g3,g4,g5,g6,g7⟩:=fields_read fs ds _ e hl (by simpa using hlen) (fun i f d hf hd=>h (i+1) f d (by simpa using hf) (by simpa using hd))
   refine ⟨a::xs,by simp [List.mapM_cons,h1,g1],by simp [g2],?_,by omega,?_,?_,?_⟩
   ·rw [ho] at h2
    have e1:e-o=P.cellsOf f.type+(e-(o+P.cellsOf f.type)):=by omega
    rw [List.flatMap_cons,e1,List.take_add,List.drop_drop]
    exact h2.cells.1.append g3
   ·rw [List.flatMap_cons,List.all_append,h2.cells.2,g5];rfl
   ·intro i f' x hf hx
    cases i with
    | zero=>simp at hf hx;subst hf hx;exact h3
    | succ i=>exact g6 i f' x (by simpa using hf) (by simpa using hx)
   ·simp only [AV.bulks,Rows.uptoBulkAll];omega
  ·cases hl
theorem elems_read {n m:Nat} {t:TypeId} {agg:Bool} {b:Nat} (hg:isAggT P t=some agg) (row:Nat→List Value):∀(ds:List (DataW H)) (o:Nat),
  (∀(i:Nat) d,ds[i]?=some d→Read n t J P (row i) d∧Row J b (o+i * m) (row i)∧(row i).length=m) →
  ∃xs:List AV,(ds.mapM (avOf P n t))=some xs∧xs.length=ds.length∧Elems J m xs b o∧(∀x∈xs,OfType P n t x)∧AV.bulks xs≤Rows.uptoBulkAll ds:=by
 intro ds
 induction ds generalizing row with
 | nil=>intro o _;exact ⟨[],by simp,rfl,by simp [Elems],by simp,by simp [AV.bulks]⟩
 | cons d ds ih =>
  intro o h
  obtain ⟨⟨a,_,_,h1,h2,h3,h4⟩,hr,hl⟩:=h 0 d rfl
  obtain ⟨xs,g1,g2,g3,g4,g5⟩:=ih (fun i=>row (i+1)) (o+m) (fun i d hd=>by
   have:=h (i+1) d (by simpa using hd)
   refine ⟨this.1,?_,this.2.2⟩
   have e:o+(i+1) * m=o+m+i * m:=by rw [Nat.add_mul];omega
   rw [←e];exact this.2.1)
  obtain ⟨y,hy,hv,hc,_⟩:=h2.val
  refine ⟨a::xs,by simp [List.mapM_cons,h1,g1],by simp [g2],?_,?_,?_⟩
  ·simp only [Elems]
   refine ⟨⟨y,hy,hv,?_,?_⟩,g3⟩
   ·rw [←Array.length_toList,hc,hl]
   ·rw [hc];simpa using hr
  ·intro x hx
   rcases List.mem_cons.1 hx with rfl | hx
   ·exact h3
   ·exact g4 x hx
  ·simp only [AV.bulks,Rows.uptoBulkAll];omega
theorem array_read {n m:Nat} {t:TypeId} {cs:List Value}:∀(ds:List (DataW H)) (o:Nat),
  (∀(i:Nat) d,ds[i]?=some d→Read n t J P ((cs.drop (o+i * m)).take m) d) →
  ∃xs:List AV,(ds.mapM (avOf P n t))=some xs∧xs.length=ds.length∧Reps J (xs.flatMap AV.cells) ((cs.drop o).take (ds.length * m))∧(xs.flatMap AV.cells).all AV.isCell=true∧(∀x∈xs,OfType P n t x)∧AV.bulks xs≤Rows.uptoBulkAll ds:=by
 intro ds
 induction ds with
 | nil=>intro o _;exact ⟨[],by simp,rfl,by simp [Reps],rfl,by simp,by simp [AV.bulks]⟩
 | cons d ds ih =>
  intro o h
  obtain ⟨a,_,_,h1,h2,h3,h4⟩:=h 0 d rfl
  obtain ⟨xs,g1,g2,g3,g4,g5,g6⟩:=ih (o+m) (fun i d hd=>by
   have:=h (i+1) d (by simpa using hd)
   have e:o+(i+1) * m=o+m+i * m:=by rw [Nat.add_mul];omega
   rw [←e];exact this)
  refine ⟨a::xs,by simp [List.mapM_cons,h1,g1],by simp [g2],?_,?_,?_,?_⟩
  ·have e1:(d::ds).length * m=m+ds.length * m:=by simp [Nat.add_mul];omega
   rw [List.flatMap_cons,e1,List.take_add,List.drop_drop]
   refine Reps.append ?_ g3
   simpa using h2.cells.1
  ·rw [List.flatMap_cons,List.all_append,h2.cells.2,g4];rfl
  ·intro x hx
   rcases List.mem_cons.1 hx with rfl | hx
   ·exact h3
   ·exact g5 x hx
  ·simp only [AV.bulks,Rows.uptoBulkAll];omega
theorem read_ok (him:∀b o v,w.cell? ⟨b,o,none⟩=some v→J.im b o=some v) (hsp:∀b,sp b=true):∀(n:Nat) (t:TypeId) (cs:List Value) (x:DataW H×List MemPlace) (m:Nat),okType P n t=true →
  DataW.trod enc P w 0 sp held m t cs=some x→Read n t J P cs x.1
 | 0,t,cs,x,m,ht,_=>by cases ht
 | n+1,t,cs,x,0,ht,h=>by simp [DataW.trod] at h
 | n+1,t,cs,x,m+1,ht,h=>by
  simp only [okType] at ht
  split at ht
  ·rename_i hu
   unfold DataW.trod at h
   rw [hu] at h
   split at h<;>simp_all
   rename_i b
   subst h
   exact ⟨.bool b,false,by simp [isAggT,hu],by simp [avOf,hu],by simp [RowRep,Value.cells,Rep,AV.isCell],by simp [OfType,hu],by simp [AV.bulk,Rows.uptoBulk]⟩
  ·rename_i k hu
   unfold DataW.trod at h
   rw [hu] at h
   split at h<;>simp_all
   rename_i k' x' hk
   obtain ⟨⟨rfl,hwf⟩,rfl⟩:=h
   exact ⟨.int k' x',false,by simp [isAggT,hu],by simp [avOf,hu],by simp [RowRep,Value.cells,Rep,AV.isCell],by simp [OfType,hu];exact hwf,by simp [AV.bulk,Rows.uptoBulk]⟩
  ·rename_i hu
   obtain ⟨s,rfl,rfl,hs⟩:=DataW.trod_string hu h
   exact ⟨.str s.data.toList,false,by simp [isAggT,hu],by simp [avOf,hu],by simp [RowRep,Value.cells,Rep,AV.isCell],by simp [OfType,hu];exact hs,by simp [AV.bulk,Rows.uptoBulk]⟩
  ·rename_i e hu
   simp only [Bool.and_eq_true,decide_eq_true_eq] at ht
   obtain ⟨he,hm1⟩:=ht
   have hag:∃agg,isAggT P e=some agg:=by
    unfold isAggT
    cases n with
    | zero=>cases he
    | succ n =>
     simp only [okType] at he
     split at he<;>simp_all
   obtain ⟨agg,hag⟩:=hag
   rcases Deep.open_slice hu h with ⟨rfl,rfl⟩ | ⟨a,len,cap,mm,n',D,Pl,rfl,_,hle,hmax,rfl,rfl,hD⟩
   ·refine ⟨.lst (P.cellsOf e) [] .tight,false,by simp [isAggT,hu],by simp [avOf,hu],?_,?_,by simp [AV.bulk,AV.bulks,Rows.uptoBulk]⟩
    ·simp [RowRep,Value.cells,Rep,AV.isCell]
    ·simp only [OfType,hu];exact ⟨[],.tight,rfl,.inr rfl,Nat.zero_le _,by simp⟩
   ·simp only [hsp,if_true] at hD ⊢
    have hspot:0<cap→a.spot=none:=fun h0=>by
     obtain ⟨cs',hc,_⟩:=hD 0 h0
     have:=cells_spot hm1 hc
     simpa [Addr.add] using this
    have hrow:∀i,i<cap→∃cs',w.cells? 0 (a.add (i * P.cellsOf e)) (P.cellsOf e)=some cs'∧Read n e J P cs' (D i)∧Row J a.block (a.off+i * P.cellsOf e) cs'∧cs'.length=P.cellsOf e:=fun i hi=>by
     obtain ⟨cs',hc,htr⟩:=hD i hi
     have hn:=hspot (by omega)
     rw [add_none hn] at hc
     have:=cells_row him hc rfl
     exact ⟨cs',by rw [add_none hn];exact hc,read_ok him hsp n e cs' _ n' he htr,this.1,this.2⟩
    obtain ⟨row,hrow'⟩:∃row:Nat→List Value,∀i,i<cap→Read n e J P (row i) (D i)∧Row J a.block (a.off+i * P.cellsOf e) (row i)∧(row i).length=P.cellsOf e :=
     ⟨fun i=>(w.cells? 0 (a.add (i * P.cellsOf e)) (P.cellsOf e)).getD [],fun i hi=>by
      obtain ⟨cs',hc,h1⟩:=hrow i hi
      simp only [hc,Option.getD_some];exact h1⟩
    obtain ⟨xs,g1,g2,g3,g4,g5⟩:=elems_read (P:=P) (J:=J) (n:=n) (m:=P.cellsOf e) (b:=a.block) hag row ((List.range len).map D) a.off (fun i d hd=>by
     have hi:i<len:=by have:=(List.getElem?_eq_some_iff.1 hd).1;simpa using this
     simp [hi] at hd
     subst hd
     exact hrow' i (by omega))
    simp at g2
    refine ⟨.lst (P.cellsOf e) xs (if ((List.range (cap-len)).map fun j=>D (len+j)).isEmpty then .tight else .no),false,by simp [isAggT,hu],by simp [avOf,hu,g1],?_,?_,?_⟩
    ·simp only [RowRep,Bool.false_eq_true,if_false]
     refine ⟨_,rfl,rfl,?_,rfl⟩
     simp only [Rep]
     refine ⟨fun id hap=>?_,.inr ⟨a,cap,by rw [g2],hspot,by omega,fun ht=>?_,g3⟩⟩
     ·split at hap<;>cases hap
     ·split at ht
      ·rename_i hemp
       simp at hemp
       omega
      ·cases ht
    ·simp only [OfType,hu]
     refine ⟨xs,_,rfl,?_,by omega,g4⟩
     split<;>simp
    ·simp only [AV.bulk,Rows.uptoBulk];omega
  ·rename_i fs hu
   simp only [Bool.and_eq_true,beq_iff_eq,List.all_eq_true] at ht
   obtain ⟨hlay,hf⟩:=ht
   obtain ⟨xs,n',_,rfl,hlen,hxl,hx⟩:=DataW.trod_struct hu h
   obtain ⟨zs,g1,g2,g3,g4,g5,g6,g7⟩:=fields_read (P:=P) (J:=J) (n:=n) (cs:=cs) fs.toList (xs.map (·.1)) 0 _ hlay (by simp [hxl]) (fun i f d hfi hd=>by
    simp only [List.getElem?_map,Option.map_eq_some_iff] at hd
    obtain ⟨y,hy,rfl⟩:=hd
    have:=hx i f (by simpa using hfi)
    rw [hy] at this
    exact read_ok him hsp n f.type _ _ n' (hf f (List.mem_of_getElem? hfi)) this)
   refine ⟨.agg (zs.flatMap AV.cells),true,by simp [isAggT,hu],by simp [avOf,hu,g1],?_,?_,?_⟩
   ·simp only [RowRep,if_true]
    refine ⟨_,rfl,?_,g5⟩
    have:(cs.drop 0).take (P.cellsOf t-0)=cs:=by simp [←hlen]
    rwa [this] at g3
   ·simp only [OfType,hu]
    exact ⟨zs,rfl,by simpa using g2,g6⟩
   ·simp only [AV.bulk,Rows.uptoBulk];have:=bulks_flat zs;omega
  ·rename_i k e hu
   simp only [Bool.and_eq_true,beq_iff_eq] at ht
   obtain ⟨he,hlay⟩:=ht
   obtain ⟨xs,n',_,rfl,hlen,hxl,hx⟩:=DataW.trod_array hu h
   obtain ⟨zs,g1,g2,g3,g5,g6,g7⟩:=array_read (P:=P) (J:=J) (n:=n) (m:=P.cellsOf e) (t:=e) (cs:=cs) (xs.map (·.1)) 0 (fun i d hd=>by
    simp only [List.getElem?_map,Option.map_eq_some_iff] at hd
    obtain ⟨y,hy,rfl⟩:=hd
    have hi:i<k:=by rw [←hxl];exact (List.getElem?_eq_some_iff.1 hy).1
    have:=hx i hi
    rw [hy] at this
    rw [Nat.zero_add]
    exact read_ok him hsp n e _ _ n' he this)
   refine ⟨.agg (zs.flatMap AV.cells),true,by simp [isAggT,hu],by simp [avOf,hu,g1],?_,?_,?_⟩
   ·simp only [RowRep,if_true]
    refine ⟨_,rfl,?_,g5⟩
    have:(cs.drop 0).take ((xs.map (·.1)).length * P.cellsOf e)=cs:=by simp [hxl,←hlay,←hlen]
    rwa [this] at g3
   ·simp only [OfType,hu]
    exact ⟨zs,rfl,by simpa [hxl] using g2,g6⟩
   ·simp only [AV.bulk,Rows.uptoBulk];have:=bulks_flat zs;omega
  ·cases ht
end
end Go.Proofs.YtgkhmmlemgikjaaGreatDoor.Ai
namespace Go.Proofs.YtgkhmmlemgikjaaGreatDoor.Ai
open Go Go.ChangeShapes Go.WideShapes Go.ChangeAt Go.RowKit
def J0 (W:World):Inj:=⟨fun _=>none,fun _ _=>none,fun b o=>W.cell? ⟨b,o,none⟩,fun _=>none,nofun⟩
def Bs.of (W:World):Bs:={ W with hid:=fun _=>False,snap:=fun _=>none }
theorem sim0 (K:Sites) (W:World):Sim K (Bs.of W) (J0 W) [] W where
 os:=rfl
 output:=rfl
 size:=Nat.le_refl _
 old:=fun _ _=>rfl
 imOk:=fun _ _ _ h=>h
 ρlt:=fun _ _ h=>by cases h
 τlt:=fun _ _ _ h=>by cases h
 obj:=fun r o h=>by simp at h
 own:=fun r o b h=>by simp at h
 noIm:=fun r o b h=>by simp at h
 hid:=fun _ h=>h.elim
structure Kept (W W':World):Prop where
 os:W'.os=W.os
 output:W'.output=W.output
 size:W.heap.size≤W'.heap.size
 old:∀b:Nat,b<W.heap.size→W'.heap[b]?=W.heap[b]?
section
variable {P:Program} {gl:List (Nat×AV)} {A:AProg} {B:World→Prop}
theorem calls_of_run (hmix:P.follows .mixedOrders=true) (hA:∀f F,A.fn f=some F→funcFits P gl f F=true) (hprim:PrimsOk P gl A B)
  {W:World} (hG:GlOk gl (J0 W)) (hB:B W) {f:FuncId} {args:Array Value} {avs:List AV} (hargs:Reps (J0 W) avs args.toList) {n:Nat} {fr:Fr} {st:St} {b:Bool}
  (hrun:runA A n (.seqc f avs) []=some ⟨.ret,fr,st⟩) (hr:fr.env=[.bool b]):Calls P f args W fun e W'=>e=.returned (.bool b)∧Kept W W':=by
 have ht:=runA_ok (P:=P) (gl:=gl) (A:=A) (B:=B) hmix (fun ops ss h=>planFits_ok h) hA hprim n _ _ _ hrun (Bs.of W) (J0 W) W args (sim0 _ W) ⟨hG,hB⟩ hargs
 refine (callsIn_wide.1 ht.2).mono fun e W' h=>?_
 obtain ⟨J',_,hS,h⟩:=h
 obtain ⟨v,z,h1,h2,rfl⟩:=h
 rw [hr] at h1
 cases h1
 simp only [Rep] at h2
 subst h2
 exact ⟨rfl,hS.os,hS.output,hS.size,hS.old⟩
end
section
variable {P:Program} {H:Type} {enc:TypeId×Value→H} {W W':World}
theorem Kept.same (h:Kept W W') {p:MemPlace} (hp:p.block<W.heap.size):W.sameAt W' p:=by
 cases p with
 | cell b o=>exact World.cell?_of_block (w:=W) (h.old b hp)
 | map b=>exact h.old b hp
theorem trodAll_kept (hl:laidOutB P=true) (h:Kept W W'):∀(ts:List TypeId) (vs:List Value) (ds:List (DataW H)) (ps:List MemPlace),(ts.all fun t=>P.readableRec t && decide (t<P.types.size))=true →
  DataW.TrodAll enc P W 0 (fun _=>true) true ts vs ds ps→(∀p∈ps,p.block<W.heap.size)→∀sp:Nat→Bool,(∀p∈ps,sp p.block=true)→DataW.TrodAll enc P W' 0 sp true ts vs ds ps
 | [],[],[],ps,_,hT,_,sp,_=>hT
 | t::ts,v::vs,d::ds,ps,ht,⟨p,q,h1,h2,e⟩,hlt,sp,hsp=>by
  subst e
  simp only [List.all_cons,Bool.and_eq_true,decide_eq_true_eq] at ht
  refine ⟨p,q,WideElems.Trod_stays hl ht.1.1 ht.1.2 h1 (fun x hx=>h.same (hlt x (by simp [hx]))) (fun x hx=>hsp x (by simp [hx])),?_,rfl⟩
  exact trodAll_kept hl h ts vs ds q ht.2 h2 (fun x hx=>hlt x (by simp [hx])) sp (fun x hx=>hsp x (by simp [hx]))
theorem post_true {f:Func} {s:ChangeSpec} {apart fresh handsOn again:Bool} {args:Array Value} {ds gs:List (DataW H)} {before:List MemPlace} {tb:TypeId} (hl:laidOutB P=true)
  (ht:(f.params.toList.all fun t=>P.readableRec t && decide (t<P.types.size))=true) (hres:f.resultTypes=#[tb]) (htb:P.underlying tb=some .bool)
  (hv:s.vars=[]) (hs:∀H (ds:List (DataW H)),ds.length=f.params.size→s.fn H ds={ results:=[.lit (.bool true)],args:=ds })
  (hW:DataW.Whole enc P f.params.toList s.vars apart W args.toList ds gs before) (hk:Kept W W'):s.post enc P f apart fresh handsOn again W args (.bool true) W':=by
 have hW':=hW
 have hlt:=hW.lt
 obtain ⟨p,q,hA,hV,rfl,hfz,hnd⟩:=hW
 rw [hv] at hV
 obtain ⟨rfl,rfl⟩:=trodVars_none hV
 have hlen:ds.length=f.params.size:=by
  have:∀(ts:List TypeId) (vs:List Value) (ds:List (DataW H)) ps,DataW.TrodAll enc P W 0 (fun _=>true) true ts vs ds ps→ds.length=ts.length:=by
   intro ts
   induction ts with
   | nil=>intro vs ds ps h;cases vs<;>cases ds<;>simp_all [DataW.TrodAll]
   | cons t ts ih =>
    intro vs ds ps h
    cases vs with
    | nil=>cases ds<;>simp [DataW.TrodAll] at h
    | cons v vs =>
     cases ds with
     | nil=>simp [DataW.TrodAll] at h
     | cons d ds=>obtain ⟨a,b,_,h2,_⟩:=h;simp [ih _ _ _ h2]
  simpa using this _ _ _ _ hA
 have hfn:s.fn H (ds++[])={ results:=[.lit (.bool true)],args:=ds }:=by rw [List.append_nil];exact hs H ds hlen
 have hargs:∀sp:Nat→Bool,(∀x∈p,sp x.block=true)→DataW.TrodAll enc P W' 0 sp true f.params.toList args.toList ds p:=fun sp hsp =>
  trodAll_kept hl hk _ _ _ _ ht hA (fun x hx=>hlt x (by simp [hx])) sp hsp
 have hr:∀(b:Nat) (sp:Nat→Bool) (hd:Bool),DataW.TrodAll enc P W' b sp hd f.resultTypes.toList ((Value.bool true).resultList f.resultTypes.size) [.lit (.bool true)] []:=by
  intro b sp hd
  rw [hres]
  exact trodAll_cons_mk (shut_bool htb _) trodAll_mk0
 refine ⟨ds,[],p++[],[],p,[],hW',?_,?_,?_,?_,fun _=>⟨?_,ds.cons (.lit (.bool true)) ,[],p,?_,?_⟩⟩
 ·rw [hfn];exact hr _ _ _
 ·rw [hfn];exact hargs _ (fun x hx=>by simpa using hlt x (by simp [hx]))
 ·rw [hfn,hv];rfl
 ·refine ⟨hk.os,hk.output,fun i hi=>?_⟩
  rw [hk.old i hi]
  split<;>simp_all
 ·exact ok_one hres rfl (okWide_bool_mk htb _)
 ·refine ⟨p,[],?_,?_,by simp,?_,fun ha=>by simpa using hnd ha⟩
  ·have:=trodAll_append (hargs (fun _=>true) (fun _ _=>rfl)) (hr 0 (fun _=>true) true)
   simpa using this
  ·rw [hv];rfl
  ·intro b off hp
   have hb:b<W.heap.size:=hlt (.cell b off) (by simp [hp])
   have:=hfz b off (by simp [hp])
   rw [←this]
   exact World.frozen?_of_block (w:=W) (hk.old b hb)
 ·intro x hx _
  simpa using hx
end
section
variable {P:Program} {H:Type} {enc:TypeId×Value→H} {W:World}
def ArgsOf (P:Program) (n:Nat):List TypeId→List AV→Prop
 | [],avs=>avs=[]
 | t::ts,avs=>∃a as',avs=a::as'∧OfType P n t a∧ArgsOf P n ts as'
theorem rep_of_row {t:TypeId} {agg:Bool} {a:AV} {v:Value} (hg:isAggT P t=some agg) (h:RowRep (J0 W) agg a v.cells.toList) (hok:Value.okWide P W .any 0 t v):Rep (J0 W) a v:=by
 obtain ⟨y,hr,_,hc,h1,h2⟩:=h.val
 unfold Value.okWide at hok
 cases agg with
 | true =>
  have:v=y:=by
   rw [h1 rfl]
   unfold isAggT at hg
   split at hg
   ·rename_i hu;rw [hu] at hok;obtain ⟨cs,rfl,_⟩:=hok;simp [Value.cells]
   ·rename_i hu;rw [hu] at hok;obtain ⟨cs,rfl,_⟩:=hok;simp [Value.cells]
   ·cases hg
   ·cases hg
  rw [this];exact hr
 | false =>
  have h2:=h2 rfl
  have hv:v.cells=#[v]:=by
   unfold isAggT at hg
   split at hg
   ·cases hg
   ·cases hg
   ·rename_i hn1 hn2 hu
    split at hok
    ·rename_i hs;rw [hs] at hu;cases hu;exact absurd rfl (hn1 _)
    ·rename_i hs;rw [hs] at hu;cases hu;exact absurd rfl (hn2 _ _)
    ·unfold Cell.okWide at hok
     split at hok<;>try rfl
     unfold Cell.ok at hok
     split at hok<;>first | rfl | cases hok
   ·cases hg
  rw [hv] at h2
  simp at h2
  rw [h2];exact hr
theorem args_read {n:Nat}:∀(ts:List TypeId) (vs:List Value) (ds:List (DataW H)) (ps:List MemPlace),(ts.all (okType P n))=true →
  DataW.TrodAll enc P W 0 (fun _=>true) true ts vs ds ps→(∀(j:Nat) t v,ts[j]?=some t→vs[j]?=some v→Value.okWide P W .any 0 t v) →
  ∃avs,Reps (J0 W) avs vs∧ArgsOf P n ts avs∧AV.bulks avs≤Rows.uptoBulkAll ds
 | [],vs,ds,ps,_,hT,_=>by
  cases vs<;>cases ds<;>simp [DataW.TrodAll] at hT
  exact ⟨[],rfl,rfl,by simp [AV.bulks]⟩
 | t::ts,[],ds,ps,_,hT,_=>by simp [DataW.TrodAll] at hT
 | t::ts,v::vs,[],ps,_,hT,_=>by simp [DataW.TrodAll] at hT
 | t::ts,v::vs,d::ds,ps,ht,⟨p,q,⟨m,h1⟩,h2,e⟩,hok=>by
  simp only [List.all_cons,Bool.and_eq_true] at ht
  obtain ⟨a,agg,hg,_,hr,hty,hb⟩:=read_ok (J:=J0 W) (fun _ _ _ h=>h) (fun _=>rfl) n t _ _ m ht.1 h1
  have hb:a.bulk≤Rows.uptoBulk d:=hb
  obtain ⟨avs,g1,g2,g3⟩:=args_read ts vs ds q ht.2 h2 (fun j t v h h'=>hok (j+1) t v (by simpa using h) (by simpa using h'))
  refine ⟨a::avs,?_,⟨a,avs,rfl,hty,g2⟩,by simp only [AV.bulks,Rows.uptoBulkAll];omega⟩
  simp only [Reps]
  exact ⟨v,vs,rfl,rep_of_row hg hr (hok 0 t v rfl rfl),g1⟩
end
end Go.Proofs.YtgkhmmlemgikjaaGreatDoor.Ai
namespace Go.Proofs.YtgkhmmlemgikjaaGreatDoor.Ai
open Go Go.Sort
theorem Sim.keep {K:Sites} {base:Bs} {J:Inj} {st:St} {w w':World} (h:Sim K base J st w) (k:Kept w w'):Sim K base J st w' where
 os:=k.os.trans h.os
 output:=k.output.trans h.output
 size:=Nat.le_trans h.size k.size
 old:=fun b hb=>(k.old b (Nat.lt_of_lt_of_le hb h.size)).trans (h.old b hb)
 imOk:=fun b o v e=>by
  have:=h.imOk b o v e
  rw [cell_congr (k.old b (lt_of_cell this))];exact this
 ρlt:=fun r b e=>⟨(h.ρlt r b e).1,Nat.lt_of_lt_of_le (h.ρlt r b e).2 k.size⟩
 τlt:=h.τlt
 obj:=fun r o e=>(h.obj r o e).frame (Inj.le.refl J) (fun b hb=>k.old b (h.own r o b e hb).2.1) (fun _ _ _ _ _ e=>e)
 own:=fun r o b e e'=>⟨(h.own r o b e e').1,Nat.lt_of_lt_of_le (h.own r o b e e').2.1 k.size,(h.own r o b e e').2.2⟩
 noIm:=h.noIm
 hid:=fun b hb=>let ⟨h1,h2,h3⟩:=h.hid b hb;⟨Nat.lt_of_lt_of_le h1 k.size,(k.old b h1).trans h2,h3⟩
theorem Kept.of_below {w w':World} (h:RowKit.Below w.heap.size w w'):Kept w w':=⟨h.os,h.output,h.size,h.block⟩
theorem Kept.refl (w:World):Kept w w:=⟨rfl,rfl,Nat.le_refl _,fun _ _=>rfl⟩
def PureOk (P:Program) (gl:List (Nat×AV)) (B:World→Prop) (f:FuncId) (h:List AV→Option AV):Prop :=
 ∀avs v,h avs=some v→∀(K:Sites) (J:Inj) (base:Bs) (st:St) (w:World) (args:Array Value),Sim K base J st w→GOk B gl base J→Reps J avs args.toList →
  (callFunc f args).run P w=.ok (.enter f args) w∧Calls P f args w fun e w'=>∃z,e=.returned z∧Rep J v z∧Kept w w'
def pureP (h:List AV→Option AV):List AV→St→Option (AOut×St):=fun args st=>(h args).map fun v=>(.ret v,st)
theorem pure_task {P:Program} {gl:List (Nat×AV)} {A:AProg} {B:World→Prop} {f:FuncId} {h:List AV→Option AV} (hp:PureOk P gl B f h) {args:List AV} {st:St} {o:AOut} {st':St} (hh:pureP h args st=some (o,st')) :
  TaskOk P gl A B (.call f args) st (match o with | .ret v=>⟨.ret,⟨[v],[]⟩,st'⟩ | .pan v=>⟨.pan v,⟨[],[]⟩,st'⟩):=by
 simp only [pureP,Option.map_eq_some_iff,Prod.mk.injEq] at hh
 obtain ⟨v,hv,rfl,rfl⟩:=hh
 intro base J w cargs hS hG hR
 obtain ⟨h1,h2⟩:=hp args v hv _ J base st w cargs hS hG hR
 refine .inl ⟨h1,callsIn_wide.2 (h2.mono fun e w' ⟨z,he,hr,hk⟩=>?_)⟩
 exact ⟨J,Inj.le.refl J,hS.keep hk,v,z,rfl,hr,he⟩
theorem tab_of_sim {P:Program} {K:Sites} {base:Bs} {J:Inj} {st:St} {w:World} {nm:String} {k:IntKind} {zs:List Int} (hS:Sim K base J st w) (h:Lib.TabIs P base.toWorld nm k zs):Lib.TabIs P w nm k zs:=by
 unfold Lib.TabIs World.var? at h ⊢
 cases hg:P.globalNamed nm with
 | none=>simp [hg] at h
 | some g =>
  simp only [hg,Option.bind_some] at h ⊢
  have hlt:g<base.heap.size:=by
   rcases Nat.lt_or_ge g base.heap.size with h' | h'
   ·exact h'
   ·simp [Array.getElem?_eq_none h'] at h
  rw [hS.old g hlt];exact h
/-! ### strconv.Itoa -/
def pow10Name : String := "internal/strconv.uint64pow10"
def strsA:List AV→Option (List (List UInt8))
 | []=>some []
 | .str s::r=>(strsA r).map (s::·)
 | _=>none
def joinA:List AV→Option AV
 | [.lst 1 es _,.str sep]=>(strsA es).bind fun xs=>if (Lib.join xs sep).length≤140737488355328∧xs.length≤140737488355328 then some (.str (Lib.join xs sep)) else none
 | _=>none
theorem strsA_length:∀{es:List AV} {xs:List (List UInt8)},strsA es=some xs→xs.length=es.length
 | [],xs,h=>by simp [strsA] at h;subst h;rfl
 | e::es,xs,h=>by
  cases e<;>simp only [strsA] at h<;>try (cases h;done)
  obtain ⟨r,hr,rfl⟩:=Option.map_eq_some_iff.1 h
  simp [strsA_length hr]
theorem strsA_get:∀{es:List AV} {xs:List (List UInt8)},strsA es=some xs→∀(i:Nat) x,xs[i]?=some x→es[i]?=some (.str x)
 | [],xs,h,i,x,hx=>by simp [strsA] at h;subst h;simp at hx
 | e::es,xs,h,i,x,hx=>by
  cases e<;>simp only [strsA] at h<;>try (cases h;done)
  obtain ⟨r,hr,rfl⟩:=Option.map_eq_some_iff.1 h
  cases i with
  | zero=>simp at hx;subst hx;rfl
  | succ i=>simp at hx ⊢;exact strsA_get hr i x hx
theorem join_ok {P:Program} {gl:List (Nat×AV)} {B:World→Prop} {f:FuncId} (he:∀args w,(callFunc f args).run P w=.ok (.enter f args) w)
  (C0:∀(a:Option Addr) (c:Nat) (sep:ByteArray) (w:World),Calls P f #[.slice a 0 c,.string sep] w fun e w'=>e=.returned (.string ⟨#[]⟩)∧w'=w)
  (C:∀(bk o c:Nat) (xs:List ByteArray) (sep:ByteArray) (w:World),(∀(j:Nat) x,xs[j]?=some x→w.cell? ⟨bk,o+j,none⟩=some (.string x))→bk<w.heap.size→xs.length≤140737488355328→xs.length≤c →
   (Lib.join (xs.map (·.data.toList)) sep.data.toList).length≤140737488355328 →
   Calls P f #[.slice (some ⟨bk,o,none⟩) xs.length c,.string sep] w fun e w'=>e=.returned (.string ⟨(Lib.join (xs.map (·.data.toList)) sep.data.toList).toArray⟩)∧RowKit.Below w.heap.size w w') :
  PureOk P gl B f joinA:=by
 intro avs v hv K J base st w args hS hG hR
 unfold joinA at hv
 split at hv
 ·rename_i es ap sep
  cases hs:strsA es with
  | none=>simp [hs] at hv
  | some xs =>
   simp only [hs,Option.bind_some] at hv
   split at hv
   ·rename_i hn
    cases hv
    simp only [Reps] at hR
    obtain ⟨y,ys,e1,hy,y2,ys2,e2,hy2,rfl⟩:=hR
    subst e2
    obtain rfl:args=#[y,y2]:=by apply Array.toList_inj.1;simpa using e1
    refine ⟨he _ _,?_⟩
    simp only [Rep] at hy hy2
    obtain ⟨sp,rfl,hsp⟩:=hy2
    obtain ⟨_,hy⟩:=hy
    have hxl:=strsA_length hs
    have nil:∀a c,es=[]→Calls P f #[.slice a 0 c,.string sp] w fun e w'=>∃z,e=.returned z∧Rep J (.str (Lib.join xs sep)) z∧Kept w w':=fun a c he0=>by
     subst he0
     obtain rfl:xs=[]:=List.eq_nil_of_length_eq_zero (by simpa using hxl)
     refine (C0 a c sp w).mono fun e w' ⟨h1,h2⟩=>⟨_,h1,by simp only [Rep,Lib.join_nil];exact ⟨_,rfl,rfl⟩,h2▸Kept.refl w⟩
    rcases hy with ⟨rfl,he0⟩ | ⟨a,cap,rfl,hspot,hcap,_,hel⟩
    ·exact nil none 0 he0
    ·by_cases h0:es=[]
     ·have:=nil (some a) cap h0
      rw [h0];exact this
     ·have hpos:0<cap:=by
       have:0<es.length:=List.length_pos_iff.2 h0
       omega
      have hsp0:=hspot hpos
      have had:a=⟨a.block,a.off,none⟩:=by cases a;simp at hsp0 ⊢;exact hsp0
      have hmap:∀l:List (List UInt8),(l.map fun x=>(⟨x.toArray⟩:ByteArray)).map (·.data.toList)=l:=fun l=>by
       simp [Function.comp_def]
      have hcell:∀(j:Nat) x,(xs.map fun x=>(⟨x.toArray⟩:ByteArray))[j]?=some x→w.cell? ⟨a.block,a.off+j,none⟩=some (.string x):=by
       intro j x hx
       simp only [List.getElem?_map,Option.map_eq_some_iff] at hx
       obtain ⟨s,hxs,rfl⟩:=hx
       obtain ⟨z,hz,_,_,hrow⟩:=hel.get j _ (strsA_get hs j s hxs)
       simp only [Rep] at hz
       obtain ⟨ba,rfl,hba⟩:=hz
       have:=hS.imOk _ _ _ (hrow 0 (.string ba) (by simp [Value.cells]))
       rw [Nat.mul_one,Nat.add_zero] at this
       rw [this]
       congr 2
       cases ba with
       | mk d=>simp at hba;rw [←hba]
      have hbk:a.block<w.heap.size:=by
       have:0<xs.length:=by rw [hxl];exact List.length_pos_iff.2 h0
       have:=hcell 0 ⟨(xs[0]).toArray⟩ (by simp [this])
       exact lt_of_cell this
      have hc:=C a.block a.off cap (xs.map fun x=>⟨x.toArray⟩) sp w hcell hbk (by simp;omega) (by simp;omega) (by rw [hmap,hsp];exact hn.1)
      rw [hmap,hsp,List.length_map,hxl,←had] at hc
      refine hc.mono fun e w' ⟨h1,h2⟩=>⟨_,h1,by simp only [Rep];exact ⟨_,rfl,by simp⟩,Kept.of_below h2⟩
   ·cases hv
 ·cases hv
/-! ### strings.TrimRight,at one ASCII byte -/
def trimRightA:List AV→Option AV
 | [.str s,.str [c]]=>if c.toNat<128∧s.length≤9223372036854775807 then some (.str (Lib.trimRightB s c)) else none
 | _=>none
theorem trimRight_ok {P:Program} {gl:List (Nat×AV)} {B:World→Prop} {f:FuncId} (he:∀args w,(callFunc f args).run P w=.ok (.enter f args) w)
  (C:∀(s:ByteArray) (c:UInt8) (w:World),c.toNat<128→s.size≤9223372036854775807→Calls P f #[.string s,.string ⟨#[c]⟩] w fun e w'=>e=.returned (.string ⟨(Lib.trimRightB s.data.toList c).toArray⟩)∧w'=w) :
  PureOk P gl B f trimRightA:=by
 intro avs v hv K J base st w args hS hG hR
 unfold trimRightA at hv
 split at hv
 ·rename_i s c
  split at hv
  ·rename_i hn
   cases hv
   simp only [Reps,Rep] at hR
   obtain ⟨y,ys,e1,⟨ba,rfl,hba⟩,y2,ys2,e2,⟨bc,rfl,hbc⟩,rfl⟩:=hR
   subst e2
   obtain rfl:args=#[.string ba,.string bc]:=by apply Array.toList_inj.1;simpa using e1
   obtain rfl:bc=⟨#[c]⟩:=by
    cases bc with
    | mk d=>simp only at hbc;congr 1;apply Array.toList_inj.1;simpa using hbc
   refine ⟨he _ _, (C ba c w hn.1 (by have h : ba.size = s.length := by rw [← hba]; rfl
                                      rw [h];exact hn.2)).mono fun e w' ⟨h1,h2⟩=>⟨_,h1,?_,h2▸Kept.refl w⟩⟩
   simp only [Rep];exact ⟨_,rfl,by rw [hba]⟩
  ·cases hv
 ·cases hv
end Go.Proofs.YtgkhmmlemgikjaaGreatDoor.Ai
namespace Go.Proofs.YtgkhmmlemgikjaaGreatDoor.Ai
open Go
def bldOf (st:St) (r T:Nat):Option (AV×AV×List AV) :=
 match st[r]? with
 | some (.cells (some T') (a::b::l))=>if T'=T then some (a,b,l) else none
 | _=>none
theorem bldOf_some {st:St} {r T:Nat} {a b:AV} {l:List AV} (h:bldOf st r T=some (a,b,l)):st[r]?=some (.cells (some T) (a::b::l)):=by
 unfold bldOf at h
 cases hst:st[r]? with
 | none=>rw [hst] at h;cases h
 | some ob =>
  rw [hst] at h
  split at h
  ·rename_i e
   split at h
   ·rename_i hT;cases h;cases e;rw [hT]
   ·cases h
  ·cases h
def copyA (T N:Nat):List AV→St→Option (AOut×St)
 | [.ptr r 0],st=>match bldOf st r T with
  | some (.nilPtr,b,l)=>if l.length+2=N then some (.ret (.tup []),st.set r (.cells (some T) (.ptr r 0::b::l))) else none
  | some (.ptr r' 0,_,_)=>if r'=r then some (.ret (.tup []),st) else none
  | _=>none
 | _,_=>none
def outRes (st':St):AOut→Res
 | .ret v=>⟨.ret,⟨[v],[]⟩,st'⟩
 | .pan v=>⟨.pan v,⟨[],[]⟩,st'⟩
def selfP (b:Nat):Value:=.pointer (some ⟨b,0,none⟩)
theorem copy_task {P:Program} {gl:List (Nat×AV)} {A:AProg} {B:World→Prop} {f T N:Nat} (he:∀args w,(callFunc f args).run P w=.ok (.enter f args) w)
  (C1:∀(b:Nat) (w:World),w.cell? ⟨b,0,none⟩=some (selfP b)→Calls P f #[selfP b] w fun e w'=>e=.returned (.tuple #[])∧w'=w)
  (C2:∀(b:Nat) (w:World),w.cell? ⟨b,0,none⟩=some (.pointer none)→w.shape? b=some (T,N)→w.frozen? ⟨b,0,none⟩=false→Calls P f #[selfP b] w fun e w'=>e=.returned (.tuple #[])∧w'=w.setCell ⟨b,0,none⟩ (selfP b))
  {args:List AV} {st:St} {o:AOut} {st':St} (hh:copyA T N args st=some (o,st')) :
  TaskOk P gl A B (.call f args) st (outRes st' o):=by
 unfold copyA at hh
 split at hh
 ·rename_i r
  cases hbo:bldOf st r T with
  | none=>simp [hbo] at hh
  | some ab =>
   obtain ⟨a,b,l⟩:=ab
   have hst:=bldOf_some hbo
   rw [hbo] at hh
   intro base J w cargs hS hG hR
   simp only [Reps,Rep] at hR
   obtain ⟨y,ys,e1,⟨bl,hb,rfl⟩,rfl⟩:=hR
   obtain rfl:cargs=#[selfP bl]:=by apply Array.toList_inj.1;simpa [selfP] using e1
   obtain ⟨b',c,t,h1,⟨fr,h2,hfr⟩,h3,h4,h5,hty,hsz0⟩:=hS.obj r _ hst
   rw [hb] at h1;cases h1
   obtain ⟨rfl,hsz⟩:=hty T rfl
   simp only [List.length_cons] at hsz h4
   have hct:c.toList.take (l.length+1+1)=c.toList:=List.take_of_length_le (by simp [hsz])
   rw [hct] at h4
   simp only [Reps] at h4
   obtain ⟨x,xs,ex,hx,x2,xs2,ex2,hx2,hl4⟩:=h4
   subst ex2
   obtain rfl:c=(x::x2::xs2).toArray:=by apply Array.toList_inj.1;simpa using ex
   have hc0:w.cell? ⟨bl,0,none⟩=some x:=by rw [cell_of_heap h2];rfl
   refine .inl ⟨he _ _,callsIn_wide.2 ?_⟩
   cases a with
   | nilPtr =>
    simp only at hh
    split at hh
    case isFalse=>cases hh
    rename_i hN
    simp only [Option.some.injEq,Prod.mk.injEq] at hh
    obtain ⟨rfl,rfl⟩:=hh
    simp only [Rep] at hx
    subst hx
    have hxl:xs2.length=l.length:=by simpa using hsz
    have hshape:w.shape? bl=some (t,N):=by simp [World.shape?,h2];omega
    have hfroz:w.frozen? ⟨bl,0,none⟩=false:=by
     have:=hfr 0 (by simp)
     simp only [World.frozen?,h2]
     simp only [Bool.and_eq_false_iff,decide_eq_false_iff_not]
     omega
    refine (C2 bl w hc0 hshape hfroz).mono fun e w' ⟨h1,h2'⟩=>?_
    subst h2'
    have hh2:=setCell_heap (o:=0) (selfP bl) h2
    refine ⟨J,Inj.le.refl J,hS.upd hst hb rfl (by simp) rfl (by simp) rfl rfl (by simp [World.setCell]) (fun b' hb'=>setCell_other _ hb') ?_,.tup [],.tuple #[],rfl,by simp [Rep,Reps],h1⟩
    refine ⟨bl,_,t,hb,⟨fr,hh2,by simpa using hfr⟩,by simp [hxl],?_,?_,(fun T hT=>⟨Option.some.inj hT,by simp [hxl]⟩),by obtain ⟨sn,z1,z2,z3⟩:=hsz0;exact ⟨sn,z1,by simpa using z2,by simpa [hxl] using z3⟩⟩
    ·have e3:((Value.pointer none::x2::xs2).toArray.setIfInBounds 0 (selfP bl)).toList.take (AV.ptr r 0::b::l).length=selfP bl::x2::xs2:=by simp [←hxl]
     rw [e3]
     exact ⟨selfP bl,x2::xs2,rfl,⟨bl,hb,rfl⟩,x2,xs2,rfl,hx2,hl4⟩
    ·simp only [List.all_cons,List.all_nil,Bool.and_true,Bool.and_eq_true] at h5 ⊢
     exact ⟨rfl,h5.2⟩
   | ptr r' off =>
    cases off with
    | zero =>
     simp only at hh
     split at hh
     ·rename_i hr
      subst hr
      simp only [Option.some.injEq,Prod.mk.injEq] at hh
      obtain ⟨rfl,rfl⟩:=hh
      simp only [Rep] at hx
      obtain ⟨b2,hb2,rfl⟩:=hx
      rw [hb] at hb2;cases hb2
      refine (C1 bl w hc0).mono fun e w' ⟨h1,h2'⟩=>?_
      subst h2'
      exact ⟨J,Inj.le.refl J,hS,.tup [],.tuple #[],rfl,by simp [Rep,Reps],h1⟩
     ·cases hh
    | succ n=>simp at hh
   | _=>simp at hh
 ·cases hh
end Go.Proofs.YtgkhmmlemgikjaaGreatDoor.Ai
set_option linter.unusedVariables false
namespace Go.Proofs.YtgkhmmlemgikjaaGreatDoor.Ai
open Go Go.Shelf Go.RowKit
variable {P:Program} {ρ:Ren}
set_option maxHeartbeats 2000000 in
set_option maxRecDepth 100000 in
theorem builder_string_row (L:Lays.n169 P ρ) (X:Builder.Extra P ρ) (b g cap:Nat) (cur:Array Value) (fr:Nat×Nat) (l:List UInt8) (w:World) (h0:l≠[]) (hc0:w.cell? ⟨b,1,none⟩=some (.slice (some ⟨g,0,none⟩) l.length cap))
  (hg:w.heap[g]?=some (.cells cur (ρ.t 5) fr)) (hnc:l.length≤cap) (hn:l.length≤cur.size) (h63:l.length≤9223372036854775807) (hcell:∀j x,l[j]?=some x→w.cell? ⟨g,j,none⟩=some (.int .u8 x.toNat)) :
  Calls P (ρ.f 169) #[.pointer (some ⟨b,0,none⟩)] w fun e w'=>e=.returned (.string ⟨l.toArray⟩)∧w'=w.drew.freeze ⟨g,0,none⟩ l.length:=by
 have hl0:l.length≠0:=by simpa using h0
 have c1:w.drew.cell? ⟨b,1,none⟩=some (.slice (some ⟨g,0,none⟩) l.length cap):=hc0
 have hSD:(Builtin.unsafeSliceData_ #[(ρ.t 37)] (ρ.t 127) #[.slice (some ⟨g,0,none⟩) l.length cap]).run P w.drew=.ok (.pointer (some ⟨g,0,none⟩)) w.drew :=
  Lib.run_unsafeSliceData_row _ _ _ _ _ _ (by omega)
 have hUS:(Builtin.unsafeString_ #[(ρ.t 127),(ρ.t 3)] (ρ.t 9) #[.pointer (some ⟨g,0,none⟩),.int .i64 l.length]).run P w.drew=.ok (.string ⟨l.toArray⟩) (w.drew.freeze ⟨g,0,none⟩ l.length):=by
  refine Lib.run_unsafeString_row w.drew (ρ.t 127) (ρ.t 3) (ρ.t 9) (ρ.t 5) L.t127 X.cellsByte g cur.size (by have hg':w.drew.heap[g]?=some (.cells cur (ρ.t 5) fr):=hg;simp [World.shape?,hg']) l h0 hn h63 ?_
  intro j x hx
  rw [add_none rfl]
  simpa using hcell j x hx
 have mixed:=L.mixed
 have t72:=L.t72;have a72:=L.a72;have z72:=L.z72;have v72:=L.v72;have u72:=run_underlying L.t72
 have t70:=L.t70;have a70:=L.a70;have z70:=L.z70;have v70:=L.v70;have u70:=run_underlying L.t70
 have t37:=L.t37;have a37:=L.a37;have z37:=L.z37;have v37:=L.v37;have u37:=run_underlying L.t37
 have t127:=L.t127;have a127:=L.a127;have z127:=L.z127;have v127:=L.v127;have u127:=run_underlying L.t127
 have t3:=L.t3;have a3:=L.a3;have z3:=L.z3;have v3:=L.v3;have u3:=run_underlying L.t3
 have t9:=L.t9;have a9:=L.a9;have z9:=L.z9;have v9:=L.v9;have u9:=run_underlying L.t9
 have t5:=X.t5;have a5:=X.a5;have z5:=X.z5;have v5:=X.v5;have u5:=run_underlying X.t5
 clear h63 hn hnc hcell
 go_enter L.f169,Body.n169_ntmps ρ
 go_wp2
 go_region_o
 all_goals (go_wp2;go_ret;exact ⟨rfl,rfl⟩)
set_option maxHeartbeats 2000000 in
set_option maxRecDepth 100000 in
theorem builder_string_nil (L:Lays.n169 P ρ) (X:Builder.Extra P ρ) (b:Nat) (w:World) (hc0:w.cell? ⟨b,1,none⟩=some (.slice none 0 0)) :
  Calls P (ρ.f 169) #[.pointer (some ⟨b,0,none⟩)] w fun e w'=>e=.returned (.string ⟨#[]⟩)∧w'=w.drew:=by
 have c1:w.drew.cell? ⟨b,1,none⟩=some (.slice none 0 0):=hc0
 have hUS:=Any.unsafeString_none L X
 have hSD:(Builtin.unsafeSliceData_ #[(ρ.t 37)] (ρ.t 127) #[.slice none 0 0]).run P w.drew=.ok (.pointer none) w.drew:=rfl
 have mixed:=L.mixed
 have t72:=L.t72;have a72:=L.a72;have z72:=L.z72;have v72:=L.v72;have u72:=run_underlying L.t72
 have t70:=L.t70;have a70:=L.a70;have z70:=L.z70;have v70:=L.v70;have u70:=run_underlying L.t70
 have t37:=L.t37;have a37:=L.a37;have z37:=L.z37;have v37:=L.v37;have u37:=run_underlying L.t37
 have t127:=L.t127;have a127:=L.a127;have z127:=L.z127;have v127:=L.v127;have u127:=run_underlying L.t127
 have t3:=L.t3;have a3:=L.a3;have z3:=L.z3;have v3:=L.v3;have u3:=run_underlying L.t3
 have t9:=L.t9;have a9:=L.a9;have z9:=L.z9;have v9:=L.v9;have u9:=run_underlying L.t9
 have t5:=X.t5;have a5:=X.a5;have z5:=X.z5;have v5:=X.v5;have u5:=run_underlying X.t5
 go_enter L.f169,Body.n169_ntmps ρ
 go_wp2
 go_region_o
 all_goals (go_wp2;go_ret;exact ⟨rfl,rfl⟩)
def stringA (T T5:TypeId):List AV→St→Option (AOut×St)
 | [.ptr r 0],st=>match bldOf st r T with
  | some (_,.nilSl,_)=>some (.ret (.str []),st)
  | some (a,.lst 1 es (.tok id),l)=>if es≠[]∧id≠r∧es.length≤great then (match st[id]? with
    | some (.tok 1 n (some T6))=>if n=es.length∧T6=T5 then (ofBytes es).map fun s=>(.ret (.str s),(st.set id .dead).set r (.cells (some T) (a::.lst 1 es .no::l))) else none
    | _=>none) else none
  | _=>none
 | _,_=>none
end Go.Proofs.YtgkhmmlemgikjaaGreatDoor.Ai
namespace Go.Proofs.YtgkhmmlemgikjaaGreatDoor.Ai
open Go
section
variable {K:Sites} {base:Bs} {J:Inj} {st:St} {w:World}
theorem Sim.mark (h:Sim K base J st w) {w':World} {g:Nat} (hbase:base.heap.size≤g) (hnh:¬base.hid g) (hos:w'.os=w.os) (hout:w'.output=w.output) (hsz:w'.heap.size=w.heap.size)
  (hoth:∀b,b≠g→w'.heap[b]?=w.heap[b]?) (hg:∀o,w'.cell? ⟨g,o,none⟩=w.cell? ⟨g,o,none⟩) (hown:∀(r:Nat) o,st[r]?=some o→ownB J r o≠some g):Sim K base J st w':=by
 refine ⟨hos.trans h.os,hout.trans h.output,hsz▸h.size,fun b hb=>(hoth b (by omega)).trans (h.old b hb),fun b o v e=>?_,fun r b e=>hsz▸h.ρlt r b e,h.τlt,fun r o e=>?_,fun r o b e e'=>hsz▸h.own r o b e e',h.noIm,fun b hb=>let ⟨h1,h2,h3⟩:=h.hid b hb;⟨hsz▸h1,(hoth b (by rintro rfl;exact hnh hb)).trans h2,h3⟩⟩
 ·by_cases hb:b=g
  ·subst hb;rw [hg];exact h.imOk b o v e
  ·rw [cell_congr (hoth b hb)];exact h.imOk b o v e
 ·exact (h.obj r o e).frame (Inj.le.refl J) (fun b hb=>hoth b (by rintro rfl;exact hown r o e hb)) (fun _ _ _ _ _ e=>e)
end
theorem ofBytes_get:∀{es:List AV} {s:List UInt8},ofBytes es=some s→s.length=es.length∧∀(i:Nat) b,s[i]?=some b→es[i]?=some (.int .u8 b.toNat)
 | [],s,h=>by simp [ofBytes] at h;subst h;simp
 | e::es,s,h=>by
  cases e with
  | int k n =>
   cases k with
   | u8 =>
    simp only [ofBytes] at h
    split at h
    ·rename_i hn
     obtain ⟨q,hq,rfl⟩:=Option.map_eq_some_iff.1 h
     obtain ⟨h1,h2⟩:=ofBytes_get hq
     refine ⟨by simp [h1],fun i b hb=>?_⟩
     cases i with
     | zero =>
      simp at hb
      subst hb
      simp
      omega
     | succ i=>simpa using h2 i b (by simpa using hb)
    ·cases h
   | _=>simp [ofBytes] at h
  | _=>simp [ofBytes] at h
theorem freeze_facts (w:World) (g n:Nat) (c:Array Value) (t:TypeId) (fr:Nat×Nat) (hg:w.heap[g]?=some (.cells c t fr)) :
  (w.freeze ⟨g,0,none⟩ n).os=w.os∧(w.freeze ⟨g,0,none⟩ n).output=w.output∧(w.freeze ⟨g,0,none⟩ n).heap.size=w.heap.size∧(∀b,b≠g→(w.freeze ⟨g,0,none⟩ n).heap[b]?=w.heap[b]?) ∧
   ∀o,(w.freeze ⟨g,0,none⟩ n).cell? ⟨g,o,none⟩=w.cell? ⟨g,o,none⟩:=by
 unfold World.freeze
 split
 ·exact ⟨rfl,rfl,rfl,fun _ _=>rfl,fun _=>rfl⟩
 ·refine ⟨rfl,rfl,by simp,fun b hb=>by simp [Array.getElem?_modify,Ne.symm hb],fun o=>?_⟩
  simp [World.cell?,Array.getElem?_modify,hg]
theorem string_task {P:Program} {gl:List (Nat×AV)} {A:AProg} {B:World→Prop} {f T T5:Nat} (he:∀args w,(callFunc f args).run P w=.ok (.enter f args) w)
  (C0:∀(b:Nat) (w:World),w.cell? ⟨b,1,none⟩=some (.slice none 0 0)→Calls P f #[selfP b] w fun e w'=>e=.returned (.string ⟨#[]⟩)∧w'=w.drew)
  (C1:∀(b g cap:Nat) (cur:Array Value) (fr:Nat×Nat) (l:List UInt8) (w:World),l≠[]→w.cell? ⟨b,1,none⟩=some (.slice (some ⟨g,0,none⟩) l.length cap)→w.heap[g]?=some (.cells cur T5 fr)→l.length≤cap→l.length≤cur.size →
   l.length≤9223372036854775807→(∀(j:Nat) x,l[j]?=some x→w.cell? ⟨g,j,none⟩=some (.int .u8 x.toNat)) →
   Calls P f #[selfP b] w fun e w'=>e=.returned (.string ⟨l.toArray⟩)∧w'=w.drew.freeze ⟨g,0,none⟩ l.length)
  {args:List AV} {st:St} {o:AOut} {st':St} (hh:stringA T T5 args st=some (o,st')) :
  TaskOk P gl A B (.call f args) st (outRes st' o):=by
 unfold stringA at hh
 split at hh
 ·rename_i r
  cases hbo:bldOf st r T with
  | none=>simp [hbo] at hh
  | some ab =>
   obtain ⟨a,b,l⟩:=ab
   have hst:=bldOf_some hbo
   rw [hbo] at hh
   intro base J w cargs hS hG hR
   simp only [Reps,Rep] at hR
   obtain ⟨y,ys,e1,⟨bl,hb,rfl⟩,rfl⟩:=hR
   obtain rfl:cargs=#[selfP bl]:=by apply Array.toList_inj.1;simpa [selfP] using e1
   obtain ⟨b',c,t,h1,⟨fr,h2,hfr⟩,h3,h4,h5,hty,hsz0⟩:=hS.obj r _ hst
   rw [hb] at h1;cases h1
   obtain ⟨rfl,hsz⟩:=hty T rfl
   simp only [List.length_cons] at hsz h4
   have hct:c.toList.take (l.length+1+1)=c.toList:=List.take_of_length_le (by simp [hsz])
   rw [hct] at h4
   simp only [Reps] at h4
   obtain ⟨x,xs,ex,hx,x2,xs2,ex2,hx2,hl4⟩:=h4
   subst ex2
   obtain rfl:c=(x::x2::xs2).toArray:=by apply Array.toList_inj.1;simpa using ex
   have hc1:w.cell? ⟨bl,1,none⟩=some x2:=by rw [cell_of_heap h2];rfl
   refine .inl ⟨he _ _,callsIn_wide.2 ?_⟩
   cases b with
   | nilSl =>
    simp only [Option.some.injEq,Prod.mk.injEq] at hh
    obtain ⟨rfl,rfl⟩:=hh
    simp only [Rep] at hx2
    subst hx2
    refine (C0 bl w hc1).mono fun e w' ⟨h1,h2'⟩=>?_
    subst h2'
    exact ⟨J,Inj.le.refl J,hS.same rfl rfl rfl,.str [],.string ⟨#[]⟩,rfl,by simp only [Rep];exact ⟨_,rfl,rfl⟩,h1⟩
   | lst m es ap =>
    cases ap with
    | tok id =>
     by_cases hm:m=1
     ·subst hm
      simp only at hh
      split at hh
      ·rename_i hcond
       obtain ⟨hne,hidr,hgr⟩:=hcond
       cases hid:st[id]? with
       | none=>simp [hid] at hh
       | some ob =>
        rw [hid] at hh
        cases ob with
        | tok m2 n ty =>
         cases ty with
         | none=>simp at hh
         | some T6 =>
          by_cases hm2:m2=1
          ·subst hm2
           simp only at hh
           split at hh
           ·rename_i hn
            obtain ⟨rfl,rfl⟩:=hn
            obtain ⟨s,hs,hh⟩:=Option.map_eq_some_iff.1 hh
            simp only [Prod.mk.injEq] at hh
            obtain ⟨rfl,rfl⟩:=hh
            obtain ⟨hsl,hsget⟩:=ofBytes_get hs
            simp only [Rep] at hx2
            obtain ⟨htok,hval⟩:=hx2
            have hτ:=htok id rfl
            have hlen:0<es.length:=List.length_pos_iff.2 hne
            rcases hS.obj id _ hid with ⟨h0,_⟩ | ⟨ad,cap,cc,tt,q1,q2,q0,q3,q4,q5,q6,q7⟩
            ·omega
            ·obtain ⟨rfl,hoff⟩:=q7 T6 rfl
             rw [hτ] at q1
             cases q1
             obtain ⟨g,off,spot⟩:=ad
             simp only at q2 hoff q4 q5
             subst q2 hoff
             rcases hval with ⟨e2,_⟩ | ⟨ad',cap',e2,_,_,_,hel⟩
             ·cases e2
             ·cases e2
              have hcell:∀(j:Nat) x,s[j]?=some x→w.cell? ⟨g,j,none⟩=some (.int .u8 x.toNat):=by
               intro j x hj
               obtain ⟨z,hz,_,_,hrow⟩:=hel.get j _ (hsget j x hj)
               simp only [Rep] at hz
               subst hz
               have:=hS.imOk _ _ _ (hrow 0 (.int .u8 x.toNat) (by simp [Value.cells]))
               simpa using this
              have hown:ownB J id (.tok 1 es.length (some tt))=some g:=by simp [ownB,hτ];omega
              obtain ⟨o1,o2,o3⟩:=hS.own id _ g hid hown
              have hkill:=hS.kill id
              have hC:=C1 bl g cap cc (0,0) s w (by intro e;subst e;simp at hsl;omega) (by rw [hsl];exact hc1) q4 (by omega) (by omega) (by unfold great at hgr;omega) hcell
              refine hC.mono fun e w' ⟨he',hw'⟩=>?_
              obtain ⟨f1,f2,f3,f4,f5⟩:=freeze_facts w.drew g s.length cc tt (0,0) q4
              have hmark:Sim (SitesOf P gl A) base J (st.set id .dead) w':=by
               subst hw'
               refine hkill.mark o1 (fun hh=>(hS.hid _ hh).2.2.2 id _ hid hown) f1 f2 f3 f4 f5 (fun r' o' e3 e4=>?_)
               rw [List.getElem?_set] at e3
               split at e3
               ·split at e3
                ·cases e3;cases e4
                ·cases e3
               ·rename_i hne'
                exact hne' (o3 r' o' e3 e4).symm
              have hgb:g≠bl:=by
               rintro rfl
               exact hidr (o3 r _ hst hb).symm
              have hstr:(st.set id .dead)[r]?=some (.cells (some t) (a::.lst 1 es (.tok id)::l)):=by
               rw [List.getElem?_set_ne hidr];exact hst
              have hw2:w'.heap[bl]?=some (.cells (x::.slice (some ⟨g,0,none⟩) es.length cap::xs2).toArray t fr):=by
               subst hw';rw [f4 bl (Ne.symm hgb)];exact h2
              have hxl:xs2.length=l.length:=by simpa using hsz
              refine ⟨J,Inj.le.refl J,hmark.upd hstr hb rfl (by simp) rfl (by simp) rfl rfl rfl (fun _ _=>rfl) ?_,.str s,.string ⟨s.toArray⟩,rfl,by simp only [Rep];exact ⟨_,rfl,by simp⟩,he'⟩
              refine ⟨bl,_,t,hb,⟨fr,hw2,hfr⟩,by simp [hxl],?_,?_,(fun T hT=>⟨Option.some.inj hT,by simp [hxl]⟩),by obtain ⟨sn,z1,z2,z3⟩:=hsz0;exact ⟨sn,z1,by simpa using z2,by simpa [hxl] using z3⟩⟩
              ·have e3:((x::Value.slice (some ⟨g,0,none⟩) es.length cap::xs2).toArray).toList.take (a::AV.lst 1 es .no::l).length=x::Value.slice (some ⟨g,0,none⟩) es.length cap::xs2:=by simp [←hxl]
               rw [e3]
               refine ⟨x,_,rfl,hx,_,_,rfl,?_,hl4⟩
               simp only [Rep]
               refine ⟨fun id' e=>(by cases e),.inr ⟨⟨g,0,none⟩,cap,rfl,fun _=>rfl,q3,fun e=>(by cases e),hel⟩⟩
              ·simp only [List.all_cons,List.all_nil,Bool.and_true,Bool.and_eq_true] at h5 ⊢
               exact ⟨h5.1,rfl,h5.2.2⟩
           ·cases hh
          ·exfalso;revert hh;split<;>simp_all
        | _=>simp at hh
      ·cases hh
     ·exfalso;revert hh;split<;>simp_all
    | _=>simp at hh
   | _=>simp at hh
 ·cases hh
end Go.Proofs.YtgkhmmlemgikjaaGreatDoor.Ai
