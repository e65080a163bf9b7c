/- Part Jt. No condition. -/
import Derived.Test.YtefildelnccljaaGreatJs
import Derived.Test.YtefildelnccljaaGreatJo
set_option linter.unusedVariables false
set_option linter.unusedSimpArgs false
namespace Go.Proofs.YtefildelnccljaaGreat
open Go Ai
theorem fn9:A.fn 9=some a9:=by kernel_rfl
theorem prim9:A.prim 9=none:=by kernel_rfl
theorem typesTextsLaw {s:Sx} (hs:s.length≤281474976710656):runL A (.seqc 9 [.str s]) []=some ⟨.ret,⟨[.bool true],[]⟩,[]⟩:=by
 have h24:=parse_call hs false (st:=[]) StOk.nil
 obtain ⟨hp,hmay⟩:=parse_ok s false
 generalize parseF s false=P at *
 obtain ⟨p,e0,c,b⟩:=P
 simp only [] at h24 hp hmay
 have o1:StOk [AObj.cells none [.lst 7 (p.ds.map Dc.av) p.dap,.lst 9 (p.xs.map Ex.av) p.xap],.cells none [.int .i64 c,.int .i64 b]]:=by
  have:=Pg.low hp 2
  simp only [Pg.av,AV.lowB] at this
  simp only [StOk,List.all_cons,List.all_nil,AObj.lowB,List.length_cons,List.length_nil,this]
  rfl
 have h34:=great8_call hp o1
 simp only [Pg.av] at h24 h34
 by_cases hc:c=0
 ·subst hc
  cases hg:great8 p with
  | true =>
   rw [hg] at h34
   refine (task_of_aw (N:=31) prim9 fn9 rfl rfl StOk.nil ?_).2
   intro e he ha K hK
   have a0:=ha 0
   clear ha
   simp at a0
   simp [a9,he,a0,alive8_call,h24,h34]
   exact hK _ _ _ (.inl rfl) (by simp) ⟨_,rfl,by simp [he]⟩
  | false =>
   rw [hg] at h34
   obtain ⟨hg1,_⟩:=small8 hg
   have hN:=faults_small hg1
   have hM:=allT_small hg1
   have hI6:∀d∈p.ds,d.its.length≤600:=fun d hd=>((small_its hg1).2.2 d hd).1
   have h23:=refRight_call hp hN o1
   obtain ⟨ap,hap,h35⟩:=faults35_call hp hN hM hI6 o1
   cases hr:rightN p with
   | false =>
    rw [hr] at h23
    simp only [Pg.av] at h23
    refine (task_of_aw (N:=31) prim9 fn9 rfl rfl StOk.nil ?_).2
    intro e he ha K hK
    have a0:=ha 0
    clear ha
    simp at a0
    simp [a9,he,a0,alive8_call,h24,h34,h23]
    exact hK _ _ _ (.inl rfl) (by simp) ⟨_,rfl,by simp [he]⟩
   | true =>
    have hS:=right_sound hp hr
    obtain ⟨ap2,hap2,h36⟩:=refFaultsT_call hS hr (by rw [all_eq hS hr];omega) o1
    have hfl:(ats5 (allR p)).foldl addF []=faultsT p:=by rw [faultsT,if_pos hr,orderF_fold,all_eq hS hr]
    rw [hfl] at h36
    rw [hr] at h23
    have hFl:(faultsT p).length≤1000000:=by
     rw [faultsT,if_pos hr]
     have:=orderF_len (ats5 (allT p))
     rw [ats5_len] at this;omega
    have h16:=same_call (a:=faultsT p) (b:=faultsT p) (p:=ap) (q:=ap2) (by omega) (by omega) o1
    simp only [decide_true] at h16
    simp only [Pg.av] at h23 h35 h36
    generalize faultsT p=F at *
    refine (task_of_aw (N:=31) prim9 fn9 rfl rfl StOk.nil ?_).2
    intro e he ha K hK
    have a0:=ha 0
    clear ha
    simp at a0
    simp [a9,he,a0,alive8_call,h24,h34,h23,h35,h36,h16,Ai.beq_refl]
    exact hK _ _ _ (.inl rfl) (by simp) ⟨_,rfl,by simp [he]⟩
 ·refine (task_of_aw (N:=31) prim9 fn9 rfl rfl StOk.nil ?_).2
  intro e he ha K hK
  have a0:=ha 0
  clear ha
  simp at a0
  simp [a9,he,a0,alive8_call,h24,hc]
  exact hK _ _ _ (.inl rfl) (by simp) ⟨_,rfl,by simp [he]⟩
set_option maxRecDepth 100000 in
theorem runsTypesTexts (avs:List AV) (h:ArgsOf Tryz.prog 8 Tryz.f9.params.toList avs) (hb:AV.bulks avs≤1048576):∃st ds,runL A (.seqc 9 avs) []=some ⟨.ret,⟨[.bool true],ds⟩,st⟩:=by
 rw [Tryz.params9] at h
 simp only [ArgsOf] at h
 obtain ⟨a,_,rfl,h1,rfl⟩:=h
 obtain ⟨s,rfl,hs⟩:=ofType_str Tryz.underlying9 h1
 exact ⟨_,_,typesTextsLaw (by simp only [AV.bulks,AV.bulk] at hb;omega)⟩
end Go.Proofs.YtefildelnccljaaGreat
