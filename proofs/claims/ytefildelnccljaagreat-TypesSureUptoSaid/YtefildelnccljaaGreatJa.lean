/- Part Ja. No condition. -/
import Derived.Shelf.SlSortCmp.WholeK
import Derived.Shelf.SlicesG.Cmp
import Derived.Shelf.SlicesE.Clone
import Derived.Test.YtefildelnccljaaGreatChecked
import Derived.Deep.LoopGhost
import Derived.Shelf.RegionOpenPlain
import Derived.WalkKit
import Derived.Deep.RegionWith
import Derived.Deep.RegionLaw
import Derived.Lib.Walk
set_option linter.unusedVariables false
set_option linter.unusedSimpArgs false
namespace Go.Proofs
open Go.Shelf
def Tryz.sort45_ren:Go.Shelf.Ren:=⟨fun | 6=>45 | 15=>71 | 14=>70 | 28=>116 | 29=>117 | 20=>108 | 21=>109 | 22=>110 | 23=>111 | 24=>112 | 25=>113 | 26=>114 | 27=>115 | 46=>137 | 47=>138 | 48=>139 | 49=>140 | 50=>141 | 57=>156 | n=>n,fun | 22=>22 | 24=>27 | 25=>69 | 3=>3 | 39=>101 | 0=>0 | 53=>145 | 55=>147 | 4=>4 | 46=>138 | 45=>137 | 50=>142 | 5=>5 | 9=>9 | 66=>163 | 70=>167 | 76=>180 | 77=>156 | n=>n,fun | n=>n⟩
theorem Tryz.sort45:Go.Proofs.SlLaysF0.n6 Tryz.prog Tryz.sort45_ren:={
 mixed:=by kernel_rfl
 f6:=⟨Tryz.f45.name,by decide,Tryz.func45.trans (congrArg some (by kernel_rfl))⟩
 f14:=⟨Tryz.f70.name,by decide,Tryz.func70.trans (congrArg some (by kernel_rfl))⟩
 f15:=Tryz.func71.trans (congrArg some (by kernel_rfl))
 f20:=⟨Tryz.f108.name,by decide,Tryz.func108.trans (congrArg some (by kernel_rfl))⟩
 f21:=⟨Tryz.f109.name,by decide,Tryz.func109.trans (congrArg some (by kernel_rfl))⟩
 f22:=⟨Tryz.f110.name,by decide,Tryz.func110.trans (congrArg some (by kernel_rfl))⟩
 f23:=⟨Tryz.f111.name,by decide,Tryz.func111.trans (congrArg some (by kernel_rfl))⟩
 f24:=⟨Tryz.f112.name,by decide,Tryz.func112.trans (congrArg some (by kernel_rfl))⟩
 f25:=⟨Tryz.f113.name,by decide,Tryz.func113.trans (congrArg some (by kernel_rfl))⟩
 f26:=⟨Tryz.f114.name,by decide,Tryz.func114.trans (congrArg some (by kernel_rfl))⟩
 f27:=⟨Tryz.f115.name,by decide,Tryz.func115.trans (congrArg some (by kernel_rfl))⟩
 f28:=Tryz.func116.trans (congrArg some (by kernel_rfl))
 f29:=Tryz.func117.trans (congrArg some (by kernel_rfl))
 f46:=⟨Tryz.f137.name,by decide,Tryz.func137.trans (congrArg some (by kernel_rfl))⟩
 f47:=Tryz.func138.trans (congrArg some (by kernel_rfl))
 f48:=Tryz.func139.trans (congrArg some (by kernel_rfl))
 f49:=⟨Tryz.f140.name,by decide,Tryz.func140.trans (congrArg some (by kernel_rfl))⟩
 f50:=⟨Tryz.f141.name,by decide,Tryz.func141.trans (congrArg some (by kernel_rfl))⟩
 f57:=⟨Tryz.f156.name,by decide,Tryz.func156.trans (congrArg some (by kernel_rfl))⟩
 t0:=Tryz.underlying0
 a0:=Tryz.isAgg0
 z0:=Tryz.sizeOf0
 v0:=Tryz.zeroValue0
 t3:=Tryz.underlying3
 a3:=Tryz.isAgg3
 z3:=Tryz.sizeOf3
 v3:=Tryz.zeroValue3
 t4:=Tryz.underlying4
 a4:=Tryz.isAgg4
 z4:=Tryz.sizeOf4
 v4:=Tryz.zeroValue4
 t5:=Tryz.underlying5
 a5:=Tryz.isAgg5
 z5:=Tryz.sizeOf5
 v5:=Tryz.zeroValue5
 t9:=Tryz.underlying9
 a9:=Tryz.isAgg9
 z9:=Tryz.sizeOf9
 v9:=Tryz.zeroValue9
 t22:=Tryz.underlying22
 a22:=Tryz.isAgg22
 z22:=Tryz.sizeOf22
 v22:=Tryz.zeroValue22
 t25:=Tryz.underlying69
 a25:=Tryz.isAgg69
 z25:=Tryz.sizeOf69
 v25:=Tryz.zeroValue69
 t39:=Tryz.underlying101
 a39:=Tryz.isAgg101
 z39:=Tryz.sizeOf101
 v39:=Tryz.zeroValue101
 t45:=Tryz.underlying137
 a45:=Tryz.isAgg137
 z45:=Tryz.sizeOf137
 v45:=Tryz.zeroValue137
 t46:=Tryz.underlying138
 a46:=Tryz.isAgg138
 z46:=Tryz.sizeOf138
 v46:=Tryz.zeroValue138
 t50:=Tryz.underlying142
 a50:=Tryz.isAgg142
 z50:=Tryz.sizeOf142
 v50:=Tryz.zeroValue142
 t53:=Tryz.underlying145
 a53:=Tryz.isAgg145
 z53:=Tryz.sizeOf145
 v53:=Tryz.zeroValue145
 t55:=Tryz.underlying147
 a55:=Tryz.isAgg147
 z55:=Tryz.sizeOf147
 v55:=Tryz.zeroValue147
 t66:=Tryz.underlying163
 a66:=Tryz.isAgg163
 z66:=Tryz.sizeOf163
 v66:=Tryz.zeroValue163
 t70:=Tryz.underlying167
 a70:=Tryz.isAgg167
 z70:=Tryz.sizeOf167
 v70:=Tryz.zeroValue167
 t76:=Tryz.underlying180
 a76:=Tryz.isAgg180
 z76:=Tryz.sizeOf180
 v76:=Tryz.zeroValue180
 t77:=Tryz.underlying156
 a77:=Tryz.isAgg156
 z77:=Tryz.sizeOf156
 v77:=Tryz.zeroValue156 }
def Tryz.cmp48_ren:Go.Shelf.Ren:=⟨fun | 5=>48 | 7=>72 | n=>n,fun | 22=>3 | 3=>3 | 4=>4 | n=>n,fun | n=>n⟩
theorem Tryz.cmp48:Go.Proofs.SlLaysC2.n5 Tryz.prog Tryz.cmp48_ren:={
 mixed:=by kernel_rfl
 f5:=⟨Tryz.f48.name,by decide,Tryz.func48.trans (congrArg some (by kernel_rfl))⟩
 f7:=⟨Tryz.f72.name,by decide,Tryz.func72.trans (congrArg some (by kernel_rfl))⟩
 t3:=Tryz.underlying3
 a3:=Tryz.isAgg3
 z3:=Tryz.sizeOf3
 v3:=Tryz.zeroValue3
 t4:=Tryz.underlying4
 a4:=Tryz.isAgg4
 z4:=Tryz.sizeOf4
 v4:=Tryz.zeroValue4
 t22:=Tryz.underlying3
 a22:=Tryz.isAgg3
 z22:=Tryz.sizeOf3
 v22:=Tryz.zeroValue3 }
def Tryz.cmp49_ren:Go.Shelf.Ren:=⟨fun | 5=>49 | 7=>73 | n=>n,fun | 22=>25 | 3=>3 | 4=>4 | n=>n,fun | n=>n⟩
theorem Tryz.cmp49:Go.Proofs.SlLaysC2.n5 Tryz.prog Tryz.cmp49_ren:={
 mixed:=by kernel_rfl
 f5:=⟨Tryz.f49.name,by decide,Tryz.func49.trans (congrArg some (by kernel_rfl))⟩
 f7:=⟨Tryz.f73.name,by decide,Tryz.func73.trans (congrArg some (by kernel_rfl))⟩
 t3:=Tryz.underlying3
 a3:=Tryz.isAgg3
 z3:=Tryz.sizeOf3
 v3:=Tryz.zeroValue3
 t4:=Tryz.underlying4
 a4:=Tryz.isAgg4
 z4:=Tryz.sizeOf4
 v4:=Tryz.zeroValue4
 t22:=Tryz.underlying25
 a22:=Tryz.isAgg25
 z22:=Tryz.sizeOf25
 v22:=Tryz.zeroValue25 }
def Tryz.clone44_ren:Go.Shelf.Ren:=⟨fun | 41=>44 | n=>n,fun | 22=>22 | 23=>27 | 4=>4 | n=>n,fun | n=>n⟩
theorem Tryz.clone44:Go.Proofs.SlLaysE0.n41 Tryz.prog Tryz.clone44_ren:={
 mixed:=by kernel_rfl
 f41:=⟨Tryz.f44.name,by decide,Tryz.func44.trans (congrArg some (by kernel_rfl))⟩
 t4:=Tryz.underlying4
 a4:=Tryz.isAgg4
 z4:=Tryz.sizeOf4
 v4:=Tryz.zeroValue4
 t22:=Tryz.underlying22
 a22:=Tryz.isAgg22
 z22:=Tryz.sizeOf22
 v22:=Tryz.zeroValue22 }
def Tryz.clone155_ren:Go.Shelf.Ren:=⟨fun | 41=>155 | n=>n,fun | 22=>51 | 23=>3 | 4=>4 | n=>n,fun | n=>n⟩
theorem Tryz.clone155:Go.Proofs.SlLaysE0.n41 Tryz.prog Tryz.clone155_ren:={
 mixed:=by kernel_rfl
 f41:=⟨Tryz.f155.name,by decide,Tryz.func155.trans (congrArg some (by kernel_rfl))⟩
 t4:=Tryz.underlying4
 a4:=Tryz.isAgg4
 z4:=Tryz.sizeOf4
 v4:=Tryz.zeroValue4
 t22:=Tryz.underlying51
 a22:=Tryz.isAgg51
 z22:=Tryz.sizeOf51
 v22:=Tryz.zeroValue51 }
end Go.Proofs
namespace Go.Proofs.YtefildelnccljaaGreat
open Go Go.Shelf Go.RowKit Go.Lib Go.Sort
set_option maxHeartbeats 1000000 in
theorem or47 (b:Nat) (x y:Int) (w:World) (h0:w.cell? ⟨b,0,none⟩=some (.int .i64 x)) (h1:w.cell? ⟨b,1,none⟩=some (.int .i64 y)) :
  Calls Tryz.prog 47 #[.slice (some ⟨b,0,none⟩) 2 2] w fun e w'=>e=.returned (.int .i64 (if x=0 then y else x))∧∃q,w'=w.drewN q:=by
 go_enter Tryz.func47,Tryz.ntmps47
 go_wp2
 go_loopg [8] 2 (fun g s8 wr=>∃k q:Nat,k≤2∧2-k≤g∧s8=.int .i64 k∧wr=w.drewN q∧(1≤k→x=0)∧(2≤k→y=0))
 case atStart=>exact ⟨0,0,by omega,by omega,rfl,rfl,by omega,by omega⟩
 case round =>
  obtain ⟨k,q,hk,hg,rfl,rfl,hx,hy⟩:=hrel
  by_cases hlt:k<2
  ·have hz:∃z:Int,w.cell? ⟨b,k,none⟩=some (.int .i64 z)∧((k=0∧z=x)∨(k=1∧z=y)):=by
    rcases (by omega:k=0∨k=1) with rfl | rfl
    ·exact ⟨x,h0,.inl ⟨rfl,rfl⟩⟩
    ·exact ⟨y,h1,.inr ⟨rfl,rfl⟩⟩
   obtain ⟨z,hz,hzz⟩:=hz
   have g1:w.cell? ⟨b,0+k,none⟩=some (.int .i64 z):=by rw [Nat.zero_add];exact hz
   have B:Aside (((k=0∧z=x)∨(k=1∧z=y))∧(1≤k→x=0)∧(2≤k→y=0)):=⟨hzz,hx,hy⟩
   clear h0 h1 hzz hx hy
   by_cases hz0:z=0
   ·subst hz0
    go_wp2
    go_roundg (2-(k+1))
    case measure=>omega
    case rel =>
     refine ⟨k+1,q,by omega,by omega,by go_num,rfl,?_,?_⟩
     all_goals (have:=B.out;omega)
   ·go_wp2
    ·go_ret
     exact ⟨congrArg (fun n:Int=>Ending.returned (.int .i64 n)) (show z=y by have:=B.out;omega),q,rfl⟩
    ·go_ret
     exact ⟨congrArg (fun n:Int=>Ending.returned (.int .i64 n)) (show z=x by have:=B.out;omega),q,rfl⟩
  ·obtain rfl:k=2:=by omega
   go_wp2
   go_ret
   have e1:=hx (by omega)
   have e2:=hy (by omega)
   subst e1 e2
   exact ⟨rfl,q,rfl⟩
end Go.Proofs.YtefildelnccljaaGreat
