/- Part Ka. No condition. -/
import Derived.Shelf.SlicesE.Clone
import Derived.Shelf.Strings.Builder1
import Derived.Shelf.Strings.OnBuilder
import Derived.Shelf.Strconv.Itoa3
import Derived.Shelf.Strings.Trim
import Derived.Shelf.SlGeneric
import Derived.Ground.SlgnProg
import Derived.Test.YtgkhmmlemgikjaaGreatDoorChecked
import Derived.Test.YtgkhmmlemgikjaaGreatDoorEg
import Derived.Lib.Walk
import Derived.Lib.ItoaMem
import Derived.WalkKit
import Derived.BigCall
import Derived.BigGuard
import Derived.Test.YtgkhmmlemgikjaaGreatDoorEh
import Derived.Lib.Bytealg
import Derived.KernelRfl
set_option linter.unusedVariables false
set_option linter.unusedSimpArgs false
namespace Go.Proofs
open Go.Shelf
def Tryz.lays169_ren:Go.Shelf.Ren:=⟨fun | 169=>36 | n=>n,fun | 70=>67 | 9=>9 | 0=>0 | 72=>70 | 37=>68 | 127=>113 | 3=>3 | 5=>5 | n=>n,fun | n=>n⟩
theorem Tryz.lays169:Go.Proofs.Lays.n169 Tryz.prog Tryz.lays169_ren:={
 mixed:=by kernel_rfl
 f169:=Tryz.func36.trans (congrArg some (by kernel_rfl))
 t0:=Tryz.underlying0
 a0:=Tryz.isAgg0
 z0:=Tryz.sizeOf0
 v0:=Tryz.zeroValue0
 t3:=Tryz.underlying3
 a3:=Tryz.isAgg3
 z3:=Tryz.sizeOf3
 v3:=Tryz.zeroValue3
 t9:=Tryz.underlying9
 a9:=Tryz.isAgg9
 z9:=Tryz.sizeOf9
 v9:=Tryz.zeroValue9
 t37:=Tryz.underlying68
 a37:=Tryz.isAgg68
 z37:=Tryz.sizeOf68
 v37:=Tryz.zeroValue68
 t70:=Tryz.underlying67
 a70:=Tryz.isAgg67
 z70:=Tryz.sizeOf67
 v70:=Tryz.zeroValue67
 t72:=Tryz.underlying70
 a72:=Tryz.isAgg70
 z72:=Tryz.sizeOf70
 v72:=Tryz.zeroValue70
 t127:=Tryz.underlying113
 a127:=Tryz.isAgg113
 z127:=Tryz.sizeOf113
 v127:=Tryz.zeroValue113 }
theorem Tryz.bx169:Builder.Extra Tryz.prog Tryz.lays169_ren:={
 sizeBuilder:=by kernel_rfl
 liesBuilder:=by kernel_rfl
 t5:=Tryz.underlying5
 a5:=Tryz.isAgg5
 z5:=Tryz.sizeOf5
 v5:=Tryz.zeroValue5
 infoByte:=by kernel_rfl
 cellsByte:=by kernel_rfl
 sizeByte:=by kernel_rfl
 neB5:=by decide }
def Tryz.lays156_ren:Go.Shelf.Ren:=⟨fun | 156=>114 | 165=>136 | 166=>110 | 169=>36 | 240=>134 | 241=>149 | 276=>144 | 277=>163 | n=>n,fun | 31=>34 | 9=>9 | 3=>3 | 4=>4 | 0=>0 | 20=>20 | 72=>70 | 76=>139 | 70=>67 | 37=>68 | 75=>138 | 127=>113 | 164=>170 | 5=>5 | 80=>74 | n=>n,fun | n=>n⟩
theorem Tryz.lays156:Go.Proofs.Lays.n156 Tryz.prog Tryz.lays156_ren:={
 mixed:=by kernel_rfl
 f156:=Tryz.func114.trans (congrArg some (by kernel_rfl))
 f165:=Tryz.func136.trans (congrArg some (by kernel_rfl))
 f166:=Tryz.func110.trans (congrArg some (by kernel_rfl))
 f169:=Tryz.func36.trans (congrArg some (by kernel_rfl))
 f240:=Tryz.func134.trans (congrArg some (by kernel_rfl))
 f241:=Tryz.func149.trans (congrArg some (by kernel_rfl))
 f276:=Tryz.func144.trans (congrArg some (by kernel_rfl))
 f277:=Tryz.func163.trans (congrArg some (by kernel_rfl))
 t0:=Tryz.underlying0
 a0:=Tryz.isAgg0
 z0:=Tryz.sizeOf0
 v0:=Tryz.zeroValue0
 t3:=Tryz.underlying3
 a3:=Tryz.isAgg3
 z3:=Tryz.sizeOf3
 v3:=Tryz.zeroValue3
 t4:=Tryz.underlying4
 a4:=Tryz.isAgg4
 z4:=Tryz.sizeOf4
 v4:=Tryz.zeroValue4
 t9:=Tryz.underlying9
 a9:=Tryz.isAgg9
 z9:=Tryz.sizeOf9
 v9:=Tryz.zeroValue9
 t20:=Tryz.underlying20
 a20:=Tryz.isAgg20
 z20:=Tryz.sizeOf20
 v20:=Tryz.zeroValue20
 t31:=Tryz.underlying34
 a31:=Tryz.isAgg34
 z31:=Tryz.sizeOf34
 v31:=Tryz.zeroValue34
 t37:=Tryz.underlying68
 a37:=Tryz.isAgg68
 z37:=Tryz.sizeOf68
 v37:=Tryz.zeroValue68
 t70:=Tryz.underlying67
 a70:=Tryz.isAgg67
 z70:=Tryz.sizeOf67
 v70:=Tryz.zeroValue67
 t72:=Tryz.underlying70
 a72:=Tryz.isAgg70
 z72:=Tryz.sizeOf70
 v72:=Tryz.zeroValue70
 t75:=Tryz.underlying138
 a75:=Tryz.isAgg138
 z75:=Tryz.sizeOf138
 v75:=Tryz.zeroValue138
 t76:=Tryz.underlying139
 a76:=Tryz.isAgg139
 z76:=Tryz.sizeOf139
 v76:=Tryz.zeroValue139
 t127:=Tryz.underlying113
 a127:=Tryz.isAgg113
 z127:=Tryz.sizeOf113
 v127:=Tryz.zeroValue113
 t164:=Tryz.underlying170
 a164:=Tryz.isAgg170
 z164:=Tryz.sizeOf170
 v164:=Tryz.zeroValue170 }
theorem Tryz.bx156:Builder.Extra Tryz.prog Tryz.lays156_ren:={
 sizeBuilder:=by kernel_rfl
 liesBuilder:=by kernel_rfl
 t5:=Tryz.underlying5
 a5:=Tryz.isAgg5
 z5:=Tryz.sizeOf5
 v5:=Tryz.zeroValue5
 infoByte:=by kernel_rfl
 cellsByte:=by kernel_rfl
 sizeByte:=by kernel_rfl
 neB5:=by decide }
def Tryz.lays171_ren:Go.Shelf.Ren:=⟨fun | 171=>228 | 243=>231 | 246=>233 | 283=>170 | 284=>171 | 285=>172 | 286=>173 | 129=>186 | 317=>185 | 318=>187 | 319=>188 | 320=>189 | 337=>204 | 338=>205 | n=>n,fun | 3=>3 | 9=>9 | 2=>2 | 4=>4 | 171=>187 | 0=>0 | 53=>143 | 37=>68 | 5=>5 | 173=>190 | 212=>211 | 51=>202 | 20=>20 | 213=>212 | 46=>175 | 232=>241 | 233=>242 | n=>n,fun | 17=>3 | 18=>4 | 19=>5 | n=>n⟩
theorem Tryz.lays171:Go.Proofs.LaysM.n171 Tryz.prog Tryz.lays171_ren:={
 mixed:=by kernel_rfl
 f129:=Tryz.func186.trans (congrArg some (by kernel_rfl))
 f171:=Tryz.func228.trans (congrArg some (by kernel_rfl))
 f243:=Tryz.func231.trans (congrArg some (by kernel_rfl))
 f246:=Tryz.func233.trans (congrArg some (by kernel_rfl))
 f283:=Tryz.func170.trans (congrArg some (by kernel_rfl))
 f284:=Tryz.func171.trans (congrArg some (by kernel_rfl))
 f285:=Tryz.func172.trans (congrArg some (by kernel_rfl))
 f286:=Tryz.func173.trans (congrArg some (by kernel_rfl))
 f317:=Tryz.func185.trans (congrArg some (by kernel_rfl))
 f318:=Tryz.func187.trans (congrArg some (by kernel_rfl))
 f319:=Tryz.func188.trans (congrArg some (by kernel_rfl))
 f320:=Tryz.func189.trans (congrArg some (by kernel_rfl))
 f337:=Tryz.func204.trans (congrArg some (by kernel_rfl))
 f338:=Tryz.func205.trans (congrArg some (by kernel_rfl))
 t0:=Tryz.underlying0
 a0:=Tryz.isAgg0
 z0:=Tryz.sizeOf0
 v0:=Tryz.zeroValue0
 t2:=Tryz.underlying2
 a2:=Tryz.isAgg2
 z2:=Tryz.sizeOf2
 v2:=Tryz.zeroValue2
 t3:=Tryz.underlying3
 a3:=Tryz.isAgg3
 z3:=Tryz.sizeOf3
 v3:=Tryz.zeroValue3
 t4:=Tryz.underlying4
 a4:=Tryz.isAgg4
 z4:=Tryz.sizeOf4
 v4:=Tryz.zeroValue4
 t5:=Tryz.underlying5
 a5:=Tryz.isAgg5
 z5:=Tryz.sizeOf5
 v5:=Tryz.zeroValue5
 t9:=Tryz.underlying9
 a9:=Tryz.isAgg9
 z9:=Tryz.sizeOf9
 v9:=Tryz.zeroValue9
 t20:=Tryz.underlying20
 a20:=Tryz.isAgg20
 z20:=Tryz.sizeOf20
 v20:=Tryz.zeroValue20
 t37:=Tryz.underlying68
 a37:=Tryz.isAgg68
 z37:=Tryz.sizeOf68
 v37:=Tryz.zeroValue68
 t46:=Tryz.underlying175
 a46:=Tryz.isAgg175
 z46:=Tryz.sizeOf175
 v46:=Tryz.zeroValue175
 t51:=Tryz.underlying202
 a51:=Tryz.isAgg202
 z51:=Tryz.sizeOf202
 v51:=Tryz.zeroValue202
 t53:=Tryz.underlying143
 a53:=Tryz.isAgg143
 z53:=Tryz.sizeOf143
 v53:=Tryz.zeroValue143
 t171:=Tryz.underlying187
 a171:=Tryz.isAgg187
 z171:=Tryz.sizeOf187
 v171:=Tryz.zeroValue187
 t173:=Tryz.underlying190
 a173:=Tryz.isAgg190
 z173:=Tryz.sizeOf190
 v173:=Tryz.zeroValue190
 t212:=Tryz.underlying211
 a212:=Tryz.isAgg211
 z212:=Tryz.sizeOf211
 v212:=Tryz.zeroValue211
 t213:=Tryz.underlying212
 a213:=Tryz.isAgg212
 z213:=Tryz.sizeOf212
 t232:=Tryz.underlying241
 a232:=Tryz.isAgg241
 z232:=Tryz.sizeOf241
 v232:=Tryz.zeroValue241
 t233:=Tryz.underlying242
 a233:=Tryz.isAgg242
 z233:=Tryz.sizeOf242
 v233:=Tryz.zeroValue242
 g17:=by kernel_rfl
 g18:=by kernel_rfl
 g19:=by kernel_rfl
 i0:=by kernel_rfl
 i2:=by kernel_rfl
 i3:=by kernel_rfl
 i4:=by kernel_rfl
 i5:=by kernel_rfl
 i9:=by kernel_rfl
 i20:=by kernel_rfl
 i37:=by kernel_rfl
 i46:=by kernel_rfl
 i51:=by kernel_rfl
 i53:=by kernel_rfl
 i171:=by kernel_rfl
 i173:=by kernel_rfl
 i212:=by kernel_rfl
 i232:=by kernel_rfl
 i233:=by kernel_rfl
 m17:=by kernel_rfl
 m18:=by kernel_rfl
 m19:=by kernel_rfl }
def Tryz.lays162_ren:Go.Shelf.Ren:=⟨fun | 162=>162 | 232=>174 | 227=>175 | 234=>176 | 236=>177 | 228=>190 | 271=>191 | 151=>192 | 120=>206 | 197=>207 | 152=>208 | 260=>218 | 137=>168 | 119=>219 | 224=>220 | 225=>221 | 217=>183 | 266=>200 | n=>n,fun | 9=>9 | 4=>4 | 3=>3 | 5=>5 | 117=>195 | 116=>194 | 0=>0 | 124=>198 | 21=>21 | 105=>214 | 46=>175 | 119=>182 | 139=>249 | 138=>248 | n=>n,fun | 3=>8 | 4=>9 | n=>n⟩
theorem Tryz.lays162:Go.Proofs.Lays.n162 Tryz.prog Tryz.lays162_ren:={
 mixed:=by kernel_rfl
 f119:=Tryz.func219.trans (congrArg some (by kernel_rfl))
 f120:=Tryz.func206.trans (congrArg some (by kernel_rfl))
 f137:=Tryz.func168.trans (congrArg some (by kernel_rfl))
 f151:=Tryz.func192.trans (congrArg some (by kernel_rfl))
 f152:=Tryz.func208.trans (congrArg some (by kernel_rfl))
 f162:=Tryz.func162.trans (congrArg some (by kernel_rfl))
 f197:=Tryz.func207.trans (congrArg some (by kernel_rfl))
 f217:=Tryz.func183.trans (congrArg some (by kernel_rfl))
 f224:=Tryz.func220.trans (congrArg some (by kernel_rfl))
 f225:=Tryz.func221.trans (congrArg some (by kernel_rfl))
 f227:=Tryz.func175.trans (congrArg some (by kernel_rfl))
 f228:=Tryz.func190.trans (congrArg some (by kernel_rfl))
 f232:=Tryz.func174.trans (congrArg some (by kernel_rfl))
 f234:=Tryz.func176.trans (congrArg some (by kernel_rfl))
 f236:=Tryz.func177.trans (congrArg some (by kernel_rfl))
 f260:=Tryz.func218.trans (congrArg some (by kernel_rfl))
 f266:=Tryz.func200.trans (congrArg some (by kernel_rfl))
 f271:=Tryz.func191.trans (congrArg some (by kernel_rfl))
 t0:=Tryz.underlying0
 a0:=Tryz.isAgg0
 z0:=Tryz.sizeOf0
 v0:=Tryz.zeroValue0
 t3:=Tryz.underlying3
 a3:=Tryz.isAgg3
 z3:=Tryz.sizeOf3
 v3:=Tryz.zeroValue3
 t4:=Tryz.underlying4
 a4:=Tryz.isAgg4
 z4:=Tryz.sizeOf4
 v4:=Tryz.zeroValue4
 t5:=Tryz.underlying5
 a5:=Tryz.isAgg5
 z5:=Tryz.sizeOf5
 v5:=Tryz.zeroValue5
 t9:=Tryz.underlying9
 a9:=Tryz.isAgg9
 z9:=Tryz.sizeOf9
 v9:=Tryz.zeroValue9
 t21:=Tryz.underlying21
 a21:=Tryz.isAgg21
 z21:=Tryz.sizeOf21
 v21:=Tryz.zeroValue21
 t46:=Tryz.underlying175
 a46:=Tryz.isAgg175
 z46:=Tryz.sizeOf175
 v46:=Tryz.zeroValue175
 t105:=Tryz.underlying214
 a105:=Tryz.isAgg214
 z105:=Tryz.sizeOf214
 v105:=Tryz.zeroValue214
 t116:=Tryz.underlying194
 a116:=Tryz.isAgg194
 z116:=Tryz.sizeOf194
 t117:=Tryz.underlying195
 a117:=Tryz.isAgg195
 z117:=Tryz.sizeOf195
 v117:=Tryz.zeroValue195
 t119:=Tryz.underlying182
 a119:=Tryz.isAgg182
 z119:=Tryz.sizeOf182
 t124:=Tryz.underlying198
 a124:=Tryz.isAgg198
 z124:=Tryz.sizeOf198
 v124:=Tryz.zeroValue198
 t138:=Tryz.underlying248
 a138:=Tryz.isAgg248
 z138:=Tryz.sizeOf248
 v138:=Tryz.zeroValue248
 t139:=Tryz.underlying249
 a139:=Tryz.isAgg249
 z139:=Tryz.sizeOf249
 v139:=Tryz.zeroValue249
 g3:=by kernel_rfl
 g4:=by kernel_rfl }
def Tryz.clone132_ren:Go.Shelf.Ren:=⟨fun | 41=>132 | n=>n,fun | 22=>58 | 23=>3 | 4=>4 | n=>n,fun | n=>n⟩
theorem Tryz.clone132:Go.Proofs.SlLaysE0.n41 Tryz.prog Tryz.clone132_ren:={
 mixed:=by kernel_rfl
 f41:=⟨Tryz.f132.name,by decide,Tryz.func132.trans (congrArg some (by kernel_rfl))⟩
 t4:=Tryz.underlying4
 a4:=Tryz.isAgg4
 z4:=Tryz.sizeOf4
 v4:=Tryz.zeroValue4
 t22:=Tryz.underlying58
 a22:=Tryz.isAgg58
 z22:=Tryz.sizeOf58
 v22:=Tryz.zeroValue58 }
end Go.Proofs
namespace Go.Proofs.YtgkhmmlemgikjaaGreatDoor
open Go Go.Shelf Go.RowKit Go.Sort Go.Lib
theorem enters170:∀args w,(callFunc 170 args).run Tryz.prog w=.ok (.enter 170 args) w:=enters_of Tryz.func170 (by kernel_rfl) rfl
theorem enters171:∀args w,(callFunc 171 args).run Tryz.prog w=.ok (.enter 171 args) w:=enters_of Tryz.func171 (by kernel_rfl) rfl
theorem enters172:∀args w,(callFunc 172 args).run Tryz.prog w=.ok (.enter 172 args) w:=enters_of Tryz.func172 (by kernel_rfl) rfl
theorem enters161:∀args w,(callFunc 161 args).run Tryz.prog w=.ok (.enter 161 args) w:=enters_of Tryz.func161 (by kernel_rfl) rfl
set_option maxHeartbeats 6400000 in
set_option maxRecDepth 100000 in
theorem formatUint161 (u : Nat) (hu64 : u < 18446744073709551616) (w : World) (htab : Lib.TabIs Tryz.prog w "internal/strconv.uint64pow10" .u64 Lib.pow10Tab) :
  Calls Tryz.prog 161 #[.int .u64 u,.int .i64 10] w fun e w'=>e=.returned (.string ⟨(Lib.decDigits u).toArray⟩)∧∃k os,w'=grow (w.drewN k) os:=by
 by_cases hs:u<100
 ·have hc:IntKind.i64.wrap (u:Int)=(u:Int):=by
   simp [IntKind.wrap,IntKind.signed,IntKind.bits];split<;>omega
  have e44:=enters170
  have hsm:=Any.internal_strconv_small (P:=Tryz.prog) (ρ:=Tryz.lays171_ren) { Tryz.lays171 with } u hs
  go_enter Tryz.func161,Tryz.ntmps161
  go_wp2_with (go_at_fn 170;refine (hsm _).mono ?_;rintro e w' ⟨rfl,rfl⟩)
  go_ret
  exact ⟨rfl,0,#[],by simp [World.drewN_zero]⟩
 ·have hu1:1≤u:=by omega
  have hnd20:Lib.nDigits u≤20:=by have:=Lib.numDigits_eq u hu1 hu64;split at this<;>omega
  have hb3:Lib.nDigits u≤24:=by omega
  have hal:Tryz.prog.arrayLen 187=24:=by kernel_rfl
  have hsl:∀W,(Instr.sliceAt 187 (.pointer (some ⟨w.heap.size,0,none⟩)) none (some (.int .i64 (Lib.nDigits u:Int))) none).run Tryz.prog W=.ok (.slice (some ⟨w.heap.size,0,none⟩) (Lib.nDigits u) 24) W:=fun W=>by
   rw [run_sliceAt_array_h W 187 ⟨w.heap.size,0,none⟩ (by kernel_rfl) .i64 (Lib.nDigits u:Int) (by omega) (by rw [hal];omega)]
   go_simp
  have hH0:=Lib.holds_zero0 w 187 (Lib.nDigits u) (by omega)
  have hfmt:=Any.internal_strconv_formatBase10 (P:=Tryz.prog) (ρ:=Tryz.lays171_ren) { Tryz.lays171 with } w.heap.size 0 24 u (Array.replicate (Lib.nDigits u) 0) (w.alloc (.cells Lib.zeros24 187)) hH0 (by rw [Array.size_replicate];exact Lib.lt_pow_nDigits u) hu64 (by rw [Array.size_replicate];omega)
  rw [Array.size_replicate] at hfmt
  have HH0:=Lib.hid hH0
  clear hH0 hal
  have hnd:=Any.internal_strconv_numDigits (P:=Tryz.prog) (ρ:=Tryz.lays171_ren) { Tryz.lays171 with } u hu1 hu64
  have e45:=enters171
  have e46:=enters172
  go_enter Tryz.func161,Tryz.ntmps161
  go_wp2_with (first
   | (go_at_fn 171;refine (hnd _ (Lib.tabIs_alloc htab _)).mono ?_;rintro e w' ⟨rfl,rfl⟩))
  go_at_fn 172
  refine hfmt.mono ?_
  rintro e w' ⟨rfl,k,v',dk,rfl,hF⟩
  have hcv:(convert 68 9 (.slice (some ⟨w.heap.size,0,none⟩) (Lib.nDigits u) 24)).run Tryz.prog ((putRow (fun (b:UInt8)=>Value.int .u8 (b.toNat:Int)) (w.alloc (.cells Lib.zeros24 187)) w.heap.size 0 dk).drewN k)=.ok (.string ⟨(Lib.decDigits u).toArray⟩) ((putRow (fun (b:UInt8)=>Value.int .u8 (b.toNat:Int)) (w.alloc (.cells Lib.zeros24 187)) w.heap.size 0 dk).drewN k):=by
   have h:=run_convert_bytes_back (P:=Tryz.prog) ((putRow (fun (b:UInt8)=>Value.int .u8 (b.toNat:Int)) (w.alloc (.cells Lib.zeros24 187)) w.heap.size 0 dk).drewN k) 68 9 5 ⟨w.heap.size,0,none⟩ 24 (Lib.decDigits u) Tryz.underlying68 Tryz.underlying5 Tryz.underlying9 (fun j hj=>by
    rw [Lib.row_is_numeral hF j hj,Lib.add_plain,World.cell?_drewN]
    exact cell?_putRow (fun (b:UInt8)=>Value.int .u8 (b.toNat:Int)) _ w.heap.size 0 _ dk HH0.out (by rw [hF.size,Array.size_replicate]) j (by rw [hF.size];rw [Lib.decDigits_length] at hj;exact hj))
   rw [Lib.decDigits_length] at h
   exact h
  go_wp2
  go_ret
  obtain ⟨os,eo⟩:=Lib.fin_at w (.cells Lib.zeros24 187) dk k 0
  exact ⟨rfl,k,os,eo⟩
set_option maxRecDepth 100000 in
theorem formatUint146 (u : Nat) (hu64 : u < 18446744073709551616) (w : World) (htab : Lib.TabIs Tryz.prog w "internal/strconv.uint64pow10" .u64 Lib.pow10Tab) :
  Calls Tryz.prog 146 #[.int .u64 u,.int .i64 10] w fun e w'=>e=.returned (.string ⟨(Lib.decDigits u).toArray⟩)∧∃k os,w'=grow (w.drewN k) os:=by
 have e48:=enters161
 have h48:=formatUint161 u hu64
 go_enter Tryz.func146,Tryz.ntmps146
 go_wp2_with (go_at_fn 161;refine (h48 _ htab).mono ?_;rintro e w' ⟨rfl,k,os,rfl⟩)
 go_ret
 exact ⟨rfl,k,os,rfl⟩
theorem enters146:∀args w,(callFunc 146 args).run Tryz.prog w=.ok (.enter 146 args) w:=enters_of Tryz.func146 (by kernel_rfl) rfl
open Ai
def decF:Nat→Nat→List UInt8
 | 0,_=>[]
 | n+1,u=>if u<10 then [UInt8.ofNat (48+u)] else decF n (u / 10)++[UInt8.ofNat (48+u % 10)]
theorem decF_eq:∀(n u:Nat),u<10 ^ n→0<n→decF n u=Lib.decDigits u
 | n+1,u,h,_=>by
  rw [decF,Lib.decDigits]
  split
  ·rfl
  ·congr 1
   cases n with
   | zero=>simp at h;omega
   | succ n =>
    refine decF_eq (n+1) (u / 10) ?_ (by omega)
    rw [Nat.pow_succ] at h
    exact Nat.div_lt_of_lt_mul (by rw [Nat.mul_comm];exact h)
def fmtUintA:List AV→Option AV
 | [.int .u64 n,.int .i64 b]=>if 0≤n∧n<18446744073709551616∧b=10 then some (.str (decF 20 n.toNat)) else none
 | _=>none
theorem fmtUint146 {gl:List (Nat×AV)} {B:World→Prop} (hB:∀w,B w→Lib.TabIs Tryz.prog w pow10Name .u64 Lib.pow10Tab):PureOk Tryz.prog gl B 146 fmtUintA:=by
 intro avs v hv K J base st w args hS hG hR
 unfold fmtUintA at hv
 split at hv
 ·rename_i n b
  split at hv
  ·rename_i hn
   cases hv
   obtain ⟨h0,h1,rfl⟩:=hn
   obtain ⟨u,rfl⟩:∃u:Nat,n=u:=⟨n.toNat,by omega⟩
   simp only [Reps,Rep] at hR
   obtain ⟨y,ys,e1,rfl,y2,ys2,e2,rfl,rfl⟩:=hR
   subst e2
   obtain rfl:args=#[.int .u64 u,.int .i64 10]:=by apply Array.toList_inj.1;simpa using e1
   have hu:u<18446744073709551616:=by omega
   refine ⟨enters146 _ _,(formatUint146 u hu w (tab_of_sim hS (hB _ hG.2))).mono fun e w' ⟨h1,k,os,h2⟩=>⟨_,h1,by simp only [Rep];exact ⟨_,rfl,by simp [decF_eq 20 u (by omega) (by omega)]⟩,?_⟩⟩
   subst h2
   exact Kept.of_below (Lib.below_grow _ w (Nat.le_refl _) k os)
  ·cases hv
 ·cases hv
end Go.Proofs.YtgkhmmlemgikjaaGreatDoor
namespace Go.Proofs.YtgkhmmlemgikjaaGreatDoor
open Go Go.Shelf Go.RowKit Go.Sort Go.Lib Ai
theorem builder_copy_in {P:Program} {ρ:Ren} (L:Lays.n240 P ρ) (X:Builder.X72 P ρ) (T N b:Nat) (w:World) (hl:liesAt P P.depth T (N / P.cellsOf T) 0 (ρ.t 72) 1=true) (hN:0<N) (h0:w.cell? ⟨b,0,none⟩=some (.pointer none)) (hsh:w.shape? b=some (T,N)) (hfz:w.frozen? ⟨b,0,none⟩=false) :
  Calls P (ρ.f 240) #[.pointer (some ⟨b,0,none⟩)] w fun e w'=>e=.returned (.tuple #[])∧w'=w.setCell ⟨b,0,none⟩ (.pointer (some ⟨b,0,none⟩)):=by
 obtain ⟨j,hj,hjs⟩:=Option.map_eq_some_iff.1 X.sizeBuilder
 have mixed:=L.mixed
 have t72:=L.t72;have a72:=L.a72;have z72:=L.z72;have v72:=L.v72;have u72:=run_underlying L.t72
 have t70:=L.t70;have a70:=L.a70;have z70:=L.z70;have v70:=L.v70;have u70:=run_underlying L.t70
 have t9:=L.t9;have a9:=L.a9;have z9:=L.z9;have v9:=L.v9;have u9:=run_underlying L.t9
 have t4:=L.t4;have a4:=L.a4;have z4:=L.z4;have v4:=L.v4;have u4:=run_underlying L.t4
 have t164:=L.t164;have a164:=L.a164;have z164:=L.z164;have v164:=L.v164;have u164:=run_underlying L.t164
 go_enter L.f240,Body.n240_ntmps ρ
 go_wp2
 rw [Lib.run_to_unsafe w ⟨b,0,none⟩ L.t70 L.t164 hj (by rw [hjs];decide) hsh hN]
 simp only [Result.andThen]
 rw [Oper.upon_value]
 go_wp2
 rw [run_callFunc_extern L.f276 (by kernel_rfl) (by kernel_rfl) (by kernel_rfl) (e:=Extern.AbiNoEscape.same) (by kernel_rfl)]
 rw [Lib.run_noEscape]
 simp only [Result.andThen]
 rw [Oper.upon_value]
 go_wp2
 rw [Lib.run_from_unsafe w ⟨b,0,none⟩ L.t164 L.t70 hj hsh hl]
 simp only [Result.andThen]
 rw [Oper.upon_value]
 go_wp2
 go_end0
 exact ⟨rfl,rfl⟩
theorem enters132:∀args w,(callFunc 132 args).run Tryz.prog w=.ok (.enter 132 args) w:=enters_of Tryz.func132 (by kernel_rfl) rfl
theorem clone132 {gl:List (Nat×AV)} {A:AProg} {B:World→Prop} {args:List AV} {st:St} {o:AOut} {st':St} (hh:cloneA 1 8 args st=some (o,st')):TaskOk Tryz.prog gl A B (.call 132 args) st (outRes st' o) :=
 have ⟨i0,h1,h2,h3,h4⟩:=info_parts (P:=Tryz.prog) (e:=3) (z:=.int .i64 0) (size:=1) (bytes:=8) (by kernel_rfl)
 clone_task (ρ:=Tryz.clone132_ren) Tryz.clone132 i0 (.int .i64 0) 1 8 h1 h2 h3 h4 rfl (by decide) Tryz.sizeOf3 enters132 hh
theorem enters134:∀args w,(callFunc 134 args).run Tryz.prog w=.ok (.enter 134 args) w:=enters_of Tryz.func134 (by kernel_rfl) rfl
theorem enters36:∀args w,(callFunc 36 args).run Tryz.prog w=.ok (.enter 36 args) w:=enters_of Tryz.func36 (by kernel_rfl) rfl
theorem enters114:∀args w,(callFunc 114 args).run Tryz.prog w=.ok (.enter 114 args) w:=enters_of Tryz.func114 (by kernel_rfl) rfl
theorem enters162:∀args w,(callFunc 162 args).run Tryz.prog w=.ok (.enter 162 args) w:=enters_of Tryz.func162 (by kernel_rfl) rfl
theorem copy134 {gl:List (Nat×AV)} {A:AProg} {B:World→Prop} {args:List AV} {st:St} {o:AOut} {st':St} (hh:copyA 72 4 args st=some (o,st')):TaskOk Tryz.prog gl A B (.call 134 args) st (outRes st' o) :=
 copy_task enters134 (fun b w h=>Any.Builder_copyCheck_used (P:=Tryz.prog) (ρ:=Tryz.lays156_ren) { Tryz.lays156 with } Tryz.bx156.toX72 b w h)
  (fun b w h1 h2 h3=>builder_copy_in (P:=Tryz.prog) (ρ:=Tryz.lays156_ren) { Tryz.lays156 with } Tryz.bx156.toX72 72 4 b w (by kernel_rfl) (by decide) h1 h2 h3) hh
theorem string36 {gl:List (Nat×AV)} {A:AProg} {B:World→Prop} {args:List AV} {st:St} {o:AOut} {st':St} (hh:stringA 72 5 args st=some (o,st')):TaskOk Tryz.prog gl A B (.call 36 args) st (outRes st' o) :=
 string_task enters36 (fun b w h=>builder_string_nil (P:=Tryz.prog) (ρ:=Tryz.lays169_ren) Tryz.lays169 Tryz.bx169 b w h)
  (fun b g cap cur fr l w h0 h1 h2 h3 h4 h5 h6=>builder_string_row (P:=Tryz.prog) (ρ:=Tryz.lays169_ren) Tryz.lays169 Tryz.bx169 b g cap cur fr l w h0 h1 h2 h3 h4 h5 h6) hh
theorem join114 {gl:List (Nat×AV)} {B:World→Prop}:PureOk Tryz.prog gl B 114 joinA :=
 join_ok enters114 (fun a c sep w=>Any.strings_Join_none (P:=Tryz.prog) (ρ:=Tryz.lays156_ren) Tryz.lays156 Tryz.bx156 a c sep w)
  (fun bk o c xs sep w h1 h2 h3 h4 h5=>Any.strings_Join (P:=Tryz.prog) (ρ:=Tryz.lays156_ren) Tryz.lays156 Tryz.bx156 bk o c xs sep w h1 h2 h3 h4 h5)
theorem trim162 {gl:List (Nat×AV)} {B:World→Prop}:PureOk Tryz.prog gl B 162 trimRightA :=
 trimRight_ok enters162 (fun s c w h1 h2=>Any.strings_TrimRight_one (P:=Tryz.prog) (ρ:=Tryz.lays162_ren) Tryz.lays162 s c h1 w h2)
end Go.Proofs.YtgkhmmlemgikjaaGreatDoor
namespace Go.Proofs.YtgkhmmlemgikjaaGreatDoor
open Go Ai
@[simp,reducible] def Ji (d:Nat) (o:AOp):AOper:=⟨some d,o,none⟩
@[simp,reducible] def Jm (d t:Nat):AOper:=⟨some d,.mov (.t t),none⟩
@[simp,reducible] def Jk (n:Int):AX:=.k (.int .i64 n)
@[simp,reducible] def Jf (n:Nat):AX:=.k (.func (.func n) [] [])
@[simp,reducible] def Jl (d t:Nat):AOper:=⟨some d,.load 1 false (.t t),none⟩
@[simp,reducible] def Jd (d o t:Nat):AOper:=⟨some d,.fieldAddr o 1 false (.t t),none⟩
@[simp,reducible] def Je (d t:Nat) (n:Int):AOper:=⟨some d,.bin .eql (.t t) (.k (.int .i64 n)),none⟩
@[simp,reducible] def Ja (d t:Nat):AOper:=⟨some d,.bin .add (.t t) (.k (.int .i64 1)),none⟩
@[simp,reducible] def Jn (d t:Nat):AOper:=⟨some d,.lenSl (.t t),none⟩
@[simp,reducible] def Jo (d m t:Nat):AOper:=⟨some d,.load m true (.t t),none⟩
@[simp,reducible] def Jx (d m t i:Nat):AOper:=⟨some d,.indexAddr m true none (.t t) (.t i),none⟩
@[simp,reducible] def Jg (d g:Nat) (o:AOp):AOper:=⟨some d,o,some (g,true)⟩
@[simp,reducible] def Jh (d g:Nat) (o:AOp):AOper:=⟨some d,o,some (g,false)⟩
@[simp,reducible] def Js (i:Nat) (o:AOper):AStep:=⟨i,o,[]⟩
def a3_0:ACode:=(.seq (.seq (.reg [Jm 46 6,Jd 47 0 2,Jl 48 47,Jm 49 5,Jx 50 7 48 49,Jd 51 3 50,Jl 52 51,Jn 53 52,Ji 54 (.bin .lss (.t 46) (.t 53))]) (.cond (.t 54) .skip (.exit 2))) (.seq (.block 3 (.seq (.reg [Jd 57 0 2,Jl 58 57,Jm 59 5,Jx 60 7 58 59,Jd 61 3 60,Jl 62 61,Jm 63 6,Jx 64 9 62 63,Jd 65 0 64,Jl 66 65,Ji 67 (.bin .lss (.t 66) (Jk 1)),Jm 68 67,Jh 69 68 (.fieldAddr 0 1 false (.t 2)),Jh 70 68 (.load 1 false (.t 69)),Jh 71 68 (.mov (.t 5)),Jh 72 68 (.indexAddr 7 true none (.t 70) (.t 71)),Jh 73 68 (.fieldAddr 3 1 false (.t 72)),Jh 74 68 (.load 1 false (.t 73)),Jh 75 68 (.mov (.t 6)),Jh 76 68 (.indexAddr 9 true none (.t 74) (.t 75)),Jh 77 68 (.fieldAddr 0 1 false (.t 76)),Jh 78 68 (.load 1 false (.t 77)),Jh 79 68 (.bin .gtr (.t 78) (Jk 8)),Ji 80 (.pick (.t 68) (.k (.bool true)) (.t 79))]) (.cond (.t 80) (.seq (.reg [Ji 4 (.mov (.k (.bool true)))]) .ret) .skip))) (.reg [Jm 55 6,Ja 56 55,Jm 6 56])))
def a3_1:ACode:=(.seq (.seq (.reg [Jm 23 5,Jd 24 0 2,Jl 25 24,Jn 26 25,Ji 27 (.bin .lss (.t 23) (.t 26))]) (.cond (.t 27) .skip (.exit 0))) (.seq (.block 1 (.seq (.seq (.reg [Jd 30 0 2,Jl 31 30,Jm 32 5,Jx 33 7 31 32,Jd 34 0 33,Jl 35 34,Ji 36 (.bin .lss (.t 35) (Jk 1)),Jm 37 36,Jh 38 37 (.fieldAddr 0 1 false (.t 2)),Jh 39 37 (.load 1 false (.t 38)),Jh 40 37 (.mov (.t 5)),Jh 41 37 (.indexAddr 7 true none (.t 39) (.t 40)),Jh 42 37 (.fieldAddr 0 1 false (.t 41)),Jh 43 37 (.load 1 false (.t 42)),Jh 44 37 (.bin .gtr (.t 43) (Jk 3)),Ji 45 (.pick (.t 37) (.k (.bool true)) (.t 44))]) (.cond (.t 45) (.seq (.reg [Ji 4 (.mov (.k (.bool true)))]) .ret) .skip)) (.seq (.reg [Ji 6 (.mov (Jk 0))]) (.block 2 (.loop a3_0))))) (.reg [Jm 28 5,Ja 29 28,Jm 5 29])))
def a3:AFunc:=⟨106,[.tmp 4],(.seq (.reg [Ji 2 (.box 2 (.t 0) false),Ji 4 (.mov (.k (.bool false)))]) (.seq (.seq (.reg [Ji 7 (.call (Jf 13) []),Ji 8 (.un .not (.t 7))]) (.cond (.t 8) (.seq (.reg [Ji 4 (.mov (.k (.bool false)))]) .ret) .skip)) (.seq (.seq (.reg [Jo 9 2 2,Ji 10 (.call (Jf 14) [(.t 9)])]) (.cond (.t 10) (.seq (.reg [Ji 4 (.mov (.k (.bool true)))]) .ret) .skip)) (.seq (.seq (.reg [Jo 11 2 2,Ji 12 (.call (Jf 15) [(.t 11)]),Ji 13 (.un .not (.t 12))]) (.cond (.t 13) (.seq (.reg [Jo 14 2 2,Jm 15 1,Ji 16 (.call (Jf 16) [(.t 14),(.t 15)]),Ji 17 (.bin .eql (.t 16) (.k (.str []))),Jm 18 17,Jg 19 18 (.load 2 true (.t 2)),Jg 20 18 (.call (Jf 17) [(.t 19)]),Jg 21 18 (.bin .eql (.t 20) (.k (.str []))),Ji 22 (.pick (.t 18) (.t 21) (.k (.bool false))),Jm 4 22]) .ret) .skip)) (.seq (.seq (.reg [Ji 5 (.mov (Jk 0))]) (.block 0 (.loop a3_1))) (.seq (.seq (.plan [Js 0 (Jo 81 2 2),Js 2 (Jo 83 2 2),⟨1,Ji 82 (.call (Jf 17) [(.t 81)]),[2]⟩,⟨3,Ji 84 (.call (Jf 18) [(.t 83)]),[]⟩,Js 4 (Ji 85 (.bin .neq (.t 82) (.t 84)))]) (.cond (.t 85) (.seq (.reg [Ji 4 (.mov (.k (.bool false)))]) .ret) .skip)) (.seq (.seq (.reg [Jm 86 1,Ji 87 (.bin .lss (.t 86) (Jk 0)),Jm 88 87,Jh 89 88 (.mov (.t 1)),Jh 90 88 (.fieldAddr 1 1 false (.t 2)),Jh 91 88 (.load 1 false (.t 90)),Jh 92 88 (.lenSl (.t 91)),Jh 93 88 (.bin .geq (.t 89) (.t 92)),Ji 94 (.pick (.t 88) (.k (.bool true)) (.t 93))]) (.cond (.t 94) (.seq (.reg [Jo 95 2 2,Jm 96 1,Ji 97 (.call (Jf 16) [(.t 95),(.t 96)]),Ji 98 (.bin .eql (.t 97) (.k (.str []))),Jm 4 98]) .ret) .skip)) (.seq (.plan [Js 0 (Jo 99 2 2),Js 1 (Jm 100 1),Js 3 (Jo 102 2 2),Js 4 (Jm 103 1),⟨2,Ji 101 (.call (Jf 16) [(.t 99),(.t 100)]),[3]⟩,⟨5,Ji 104 (.call (Jf 19) [(.t 102),(.t 103),(Jk 0)]),[]⟩,Js 6 (Ji 105 (.bin .eql (.t 101) (.t 104))),Js 7 (Jm 4 105)]) .ret)))))))),[],false⟩
def a4:AFunc:=⟨50,[.tmp 2],(.seq (.reg [Ji 2 (.mov (.k (.bool false)))]) (.seq (.seq (.reg [Ji 11 (.call (Jf 13) []),Ji 12 (.un .not (.t 11))]) (.cond (.t 12) (.seq (.reg [Ji 2 (.mov (.k (.bool false)))]) .ret) .skip)) (.seq (.seq (.reg [Jm 13 0,Ji 14 (.lenStr (.t 13)),Ji 15 (.bin .gtr (.t 14) (Jk 4000))]) (.cond (.t 15) (.seq (.reg [Ji 2 (.mov (.k (.bool true)))]) .ret) .skip)) (.seq (.reg [Jm 17 0,Ji 18 (.call (Jf 20) [(.t 17),(.k (.bool false))]),Jm 16 18,Ji 19 (.extract (.t 16) 0),Ji 20 (.extract (.t 16) 1),Ji 21 (.extract (.t 16) 2),Ji 3 (.valloc 2),Ji 5 (.valloc 2),Ji 3 (.vbox 2 3 (.t 19)),Jm 4 20,Ji 5 (.vbox 2 5 (.t 21))]) (.seq (.seq (.reg [Jd 22 0 5,Jl 23 22,Ji 24 (.bin .neq (.t 23) (Jk 0))]) (.cond (.t 24) (.seq (.reg [Ji 2 (.mov (.k (.bool true)))]) .ret) .skip)) (.seq (.reg [Jm 26 0,Ji 27 (.call (Jf 21) [(.t 26)]),Jm 25 27,Ji 28 (.extract (.t 25) 0),Ji 29 (.extract (.t 25) 1),Ji 7 (.valloc 2),Jm 6 28,Ji 7 (.vbox 2 7 (.t 29))]) (.seq (.reg [Jo 30 2 3,Ji 31 (.call (Jf 17) [(.t 30)]),Jm 8 31]) (.seq (.seq (.reg [Jm 32 8,Ji 33 (.lenStr (.t 32)),Ji 34 (.bin .gtr (.t 33) (Jk 20000))]) (.cond (.t 34) (.seq (.reg [Ji 2 (.mov (.k (.bool true)))]) .ret) .skip)) (.seq (.reg [Jm 36 8,Ji 37 (.call (Jf 21) [(.t 36)]),Jm 35 37,Ji 38 (.extract (.t 35) 0),Ji 39 (.extract (.t 35) 1),Ji 10 (.valloc 2),Jm 9 38,Ji 10 (.vbox 2 10 (.t 39))]) (.seq (.reg [Jd 40 0 10,Jl 41 40,Je 42 41 0,Jm 43 42,Jg 44 43 (.mov (.t 9)),Jg 45 43 (.lenSl (.t 44)),Jg 46 43 (.mov (.t 6)),Jg 47 43 (.lenSl (.t 46)),Jg 48 43 (.bin .leq (.t 45) (.t 47)),Ji 49 (.pick (.t 43) (.t 48) (.k (.bool false))),Jm 2 49]) .ret)))))))))),[],false⟩
def a5:AFunc:=⟨40,[.tmp 2],(.seq (.reg [Ji 2 (.mov (.k (.bool false)))]) (.seq (.seq (.reg [Ji 9 (.call (Jf 22) []),Ji 10 (.un .not (.t 9))]) (.cond (.t 10) (.seq (.reg [Ji 2 (.mov (.k (.bool false)))]) .ret) .skip)) (.seq (.reg [Jm 12 0,Ji 13 (.call (Jf 23) [(.t 12)]),Jm 11 13,Ji 14 (.extract (.t 11) 0),Ji 15 (.extract (.t 11) 1),Ji 16 (.extract (.t 11) 2),Ji 3 (.valloc 2),Ji 5 (.valloc 2),Ji 3 (.vbox 2 3 (.t 14)),Jm 4 15,Ji 5 (.vbox 2 5 (.t 16))]) (.seq (.reg [Jm 18 0,Ji 19 (.call (Jf 20) [(.t 18),(.k (.bool true))]),Jm 17 19,Ji 20 (.extract (.t 17) 0),Ji 21 (.extract (.t 17) 1),Ji 22 (.extract (.t 17) 2),Ji 6 (.valloc 2),Ji 8 (.valloc 2),Ji 6 (.vbox 2 6 (.t 20)),Jm 7 21,Ji 8 (.vbox 2 8 (.t 22))]) (.seq (.reg [Jo 23 2 5,Jo 24 2 8,Ji 25 (.eqAgg [0,0] false (.t 23) (.t 24)),Jm 26 25,Jg 27 26 (.mov (.t 4)),Jg 28 26 (.mov (.t 7)),Jg 29 26 (.bin .eql (.t 27) (.t 28)),Ji 30 (.pick (.t 26) (.t 29) (.k (.bool false))),Jm 31 30,Jg 32 31 (.load 2 true (.t 3)),Jg 33 31 (.load 2 true (.t 6)),Jg 34 31 (.call (Jf 24) [(.t 32),(.t 33)]),Ji 35 (.pick (.t 31) (.t 34) (.k (.bool false))),Jm 36 35,Jg 37 36 (.load 2 true (.t 3)),Jg 38 36 (.call (Jf 15) [(.t 37)]),Ji 39 (.pick (.t 36) (.t 38) (.k (.bool false))),Jm 2 39]) .ret))))),[],false⟩
def a6_0:ACode:=(.seq (.seq (.reg [Jm 24 8,Jm 25 0,Ji 26 (.bin .rem (.t 25) (.k (.int .u8 60))),Ji 27 (.convInt .i64 (.t 26)),Ji 28 (.bin .lss (.t 24) (.t 27))]) (.cond (.t 28) .skip (.exit 0))) (.seq (.block 1 (.reg [Jm 31 5,Jm 32 7,Ji 33 (.bin .add (.t 31) (.t 32)),Jm 34 6,Ji 35 (.bin .add (.t 33) (.t 34)),Jm 7 35])) (.reg [Jm 29 8,Ja 30 29,Jm 8 30])))
def a6:AFunc:=⟨71,[.tmp 4],(.seq (.reg [Ji 4 (.mov (.k (.bool false)))]) (.seq (.seq (.reg [Ji 16 (.call (Jf 22) []),Ji 17 (.un .not (.t 16))]) (.cond (.t 17) (.seq (.reg [Ji 4 (.mov (.k (.bool false)))]) .ret) .skip)) (.seq (.reg [Ji 5 (.mov (.k (.str [40]))),Ji 6 (.mov (.k (.str [41])))]) (.seq (.seq (.reg [Jm 18 1,Ji 19 (.bin .rem (.t 18) (.k (.int .u8 3))),Ji 20 (.bin .eql (.t 19) (.k (.int .u8 1)))]) (.cond (.t 20) (.seq (.reg [Ji 5 (.mov (.k (.str [45,32])))]) (.reg [Ji 6 (.mov (.k (.str [])))])) .skip)) (.seq (.seq (.reg [Jm 21 1,Ji 22 (.bin .rem (.t 21) (.k (.int .u8 3))),Ji 23 (.bin .eql (.t 22) (.k (.int .u8 2)))]) (.cond (.t 23) (.seq (.reg [Ji 5 (.mov (.k (.str [105,102,32,97,32,116,104,101,110,32])))]) (.reg [Ji 6 (.mov (.k (.str [32,101,108,115,101,32,98])))])) .skip)) (.seq (.reg [Ji 7 (.mov (.k (.str [120])))]) (.seq (.seq (.reg [Ji 8 (.mov (Jk 0))]) (.block 0 (.loop a6_0))) (.seq (.reg [Jm 37 7,Ji 38 (.call (Jf 23) [(.t 37)]),Jm 36 38,Ji 39 (.extract (.t 36) 0),Ji 40 (.extract (.t 36) 1),Ji 41 (.extract (.t 36) 2),Ji 9 (.valloc 2),Ji 11 (.valloc 2),Ji 9 (.vbox 2 9 (.t 39)),Jm 10 40,Ji 11 (.vbox 2 11 (.t 41))]) (.seq (.reg [Jm 43 7,Ji 44 (.call (Jf 20) [(.t 43),(.k (.bool true))]),Jm 42 44,Ji 45 (.extract (.t 42) 0),Ji 46 (.extract (.t 42) 1),Ji 47 (.extract (.t 42) 2),Ji 12 (.valloc 2),Ji 14 (.valloc 2),Ji 12 (.vbox 2 12 (.t 45)),Jm 13 46,Ji 14 (.vbox 2 14 (.t 47))]) (.seq (.reg [Jm 48 0,Ji 49 (.bin .rem (.t 48) (.k (.int .u8 60))),Ji 50 (.convInt .i64 (.t 49)),Ji 51 (.bin .add (Jk 2) (.t 50)),Jm 15 51]) (.seq (.seq (.reg [Jm 52 1,Ji 53 (.bin .rem (.t 52) (.k (.int .u8 3))),Ji 54 (.bin .eql (.t 53) (.k (.int .u8 0)))]) (.cond (.t 54) (.reg [Jm 55 0,Ji 56 (.bin .rem (.t 55) (.k (.int .u8 60))),Ji 57 (.convInt .i64 (.t 56)),Ji 58 (.bin .mul (Jk 2) (.t 57)),Ji 59 (.bin .add (Jk 2) (.t 58)),Jm 15 59]) .skip)) (.seq (.reg [Jo 60 2 11,Jo 61 2 14,Ji 62 (.eqAgg [0,0] false (.t 60) (.t 61)),Jm 63 62,Jg 64 63 (.fieldAddr 0 1 false (.t 11)),Jg 65 63 (.load 1 false (.t 64)),Jg 66 63 (.bin .eql (.t 65) (Jk 3)),Jg 67 63 (.mov (.t 15)),Jg 68 63 (.bin .gtr (.t 67) (Jk 30)),Jg 69 63 (.eqBool false (.t 66) (.t 68)),Ji 70 (.pick (.t 63) (.t 69) (.k (.bool false))),Jm 4 70]) .ret)))))))))))),[],false⟩
def a9_0:ACode:=(.seq (.seq (.reg [Jm 34 8,Ja 35 34,Jm 36 5,Jn 37 36,Ji 38 (.bin .lss (.t 35) (.t 37))]) (.cond (.t 38) .skip (.exit 0))) (.seq (.block 1 (.reg [Jm 41 7,Jm 42 5,Jm 43 8,Jx 44 4 42 43,Jd 45 1 44,Jl 46 45,Ji 47 (.bin .add (.t 41) (.t 46)),Ji 48 (.bin .add (.t 47) (.k (.str [32]))),Jm 7 48])) (.reg [Jm 39 8,Ja 40 39,Jm 8 40])))
def a9:AFunc:=⟨62,[.tmp 2],(.seq (.reg [Ji 2 (.mov (.k (.bool false)))]) (.seq (.seq (.reg [Ji 11 (.call (Jf 22) []),Ji 12 (.un .not (.t 11))]) (.cond (.t 12) (.seq (.reg [Ji 2 (.mov (.k (.bool false)))]) .ret) .skip)) (.seq (.seq (.reg [Jm 13 0,Ji 14 (.lenStr (.t 13)),Ji 15 (.bin .gtr (.t 14) (Jk 4000))]) (.cond (.t 15) (.seq (.reg [Ji 2 (.mov (.k (.bool true)))]) .ret) .skip)) (.seq (.reg [Jm 17 0,Ji 18 (.call (Jf 26) [(.t 17)]),Jm 16 18,Ji 19 (.extract (.t 16) 0),Ji 20 (.extract (.t 16) 1),Ji 3 (.valloc 2),Ji 4 (.valloc 2),Ji 3 (.vbox 2 3 (.t 19)),Ji 4 (.vbox 2 4 (.t 20))]) (.seq (.reg [Jm 22 0,Ji 23 (.call (Jf 21) [(.t 22)]),Jm 21 23,Ji 24 (.extract (.t 21) 0),Ji 25 (.extract (.t 21) 1),Ji 6 (.valloc 2),Jm 5 24,Ji 6 (.vbox 2 6 (.t 25))]) (.seq (.seq (.reg [Jd 26 0 4,Jl 27 26,Ji 28 (.bin .neq (.t 27) (Jk 0)),Jm 29 28,Jh 30 29 (.fieldAddr 0 1 false (.t 6)),Jh 31 29 (.load 1 false (.t 30)),Jh 32 29 (.bin .neq (.t 31) (Jk 0)),Ji 33 (.pick (.t 29) (.k (.bool true)) (.t 32))]) (.cond (.t 33) (.seq (.reg [Ji 2 (.mov (.k (.bool true)))]) .ret) .skip)) (.seq (.reg [Ji 7 (.mov (.k (.str [])))]) (.seq (.seq (.reg [Ji 8 (.mov (Jk 0))]) (.block 0 (.loop a9_0))) (.seq (.reg [Jm 50 7,Ji 51 (.call (Jf 26) [(.t 50)]),Jm 49 51,Ji 52 (.extract (.t 49) 0),Ji 53 (.extract (.t 49) 1),Ji 9 (.valloc 2),Ji 10 (.valloc 2),Ji 9 (.vbox 2 9 (.t 52)),Ji 10 (.vbox 2 10 (.t 53))]) (.seq (.reg [Jd 54 0 10,Jl 55 54,Je 56 55 0,Jm 57 56,Jg 58 57 (.load 2 true (.t 3)),Jg 59 57 (.load 2 true (.t 9)),Jg 60 57 (.call (Jf 27) [(.t 58),(.t 59)]),Ji 61 (.pick (.t 57) (.t 60) (.k (.bool false))),Jm 2 61]) .ret)))))))))),[],false⟩
def a13:AFunc:=⟨18,[.tmp 0],(.seq (.reg [Ji 0 (.mov (.k (.bool false)))]) (.seq (.reg [Ji 5 (.call (Jf 20) [(.k (.str [40,49,43,50,41,42,45,120])),(.k (.bool true))]),Jm 4 5,Ji 6 (.extract (.t 4) 0),Ji 7 (.extract (.t 4) 1),Ji 8 (.extract (.t 4) 2),Ji 1 (.valloc 2),Ji 3 (.valloc 2),Ji 1 (.vbox 2 1 (.t 6)),Jm 2 7,Ji 3 (.vbox 2 3 (.t 8))]) (.seq (.reg [Jd 9 0 3,Jl 10 9,Je 11 10 0,Jm 12 11,Jg 13 12 (.load 2 true (.t 1)),Jg 14 12 (.mov (.t 2)),Jg 15 12 (.call (Jf 16) [(.t 13),(.t 14)]),Jg 16 12 (.bin .eql (.t 15) (.k (.str [40,49,32,43,32,50,41,32,42,32,45,120]))),Ji 17 (.pick (.t 12) (.t 16) (.k (.bool false))),Jm 0 17]) .ret))),[],false⟩
def a16:AFunc:=⟨30,[.tmp 4],(.seq (.reg [Ji 2 (.box 2 (.t 0) false),Ji 4 (.mov (.k (.str [])))]) (.seq (.seq (.reg [Jo 6 2 2,Ji 7 (.call (Jf 34) [(.t 6)]),Ji 8 (.un .not (.t 7)),Jm 9 8,Jh 10 9 (.mov (.t 1)),Jh 11 9 (.bin .lss (.t 10) (Jk 0)),Ji 12 (.pick (.t 9) (.k (.bool true)) (.t 11)),Jm 13 12,Jh 14 13 (.mov (.t 1)),Jh 15 13 (.fieldAddr 1 1 false (.t 2)),Jh 16 13 (.load 1 false (.t 15)),Jh 17 13 (.lenSl (.t 16)),Jh 18 13 (.bin .geq (.t 14) (.t 17)),Ji 19 (.pick (.t 13) (.k (.bool true)) (.t 18))]) (.cond (.t 19) (.seq (.reg [Ji 4 (.mov (.k (.str [])))]) .ret) .skip)) (.seq (.reg [Jo 20 2 2,Ji 21 (.build [.nilPtr,.nilSl,(.lst 7 [] .tight),(.lst 9 [] .tight)] [(2,2,(.t 20))]),Ji 22 (.boxT 72 4 (.t 21)),Jm 5 22]) (.seq (.reg [Jm 23 5,Jm 24 1,Ji 25 (.call (Jf 35) [(.t 23),(.t 24),(Jk 0)])]) (.seq (.reg [Jm 26 5,Ji 27 (.nilCheck (.t 26)),Ji 28 (.fieldAddr 0 2 true (.t 27)),Ji 29 (.call (Jf 36) [(.t 28)]),Jm 4 29]) .ret))))),[],false⟩
def a17_0:ACode:=(.seq (.reg [Ji 16 (.bin .lss (.t 15) (.t 14))]) (.seq (.cond (.t 16) .skip (.exit 0)) (.seq (.block 1 (.seq (.reg [Jx 17 7 13 15,Jo 18 7 17,Ji 5 (.valloc 7),Ji 5 (.vbox 7 5 (.t 18))]) (.reg [Jm 19 3,Jo 20 7 5,Ji 21 (.call (Jf 37) [(.t 19),(.t 20)])]))) (.reg [Ja 22 15,Jm 15 22]))))
def a17:AFunc:=⟨27,[.tmp 2],(.seq (.reg [Ji 1 (.box 2 (.t 0) false),Ji 2 (.mov (.k (.str [])))]) (.seq (.seq (.reg [Jo 6 2 1,Ji 7 (.call (Jf 34) [(.t 6)]),Ji 8 (.un .not (.t 7))]) (.cond (.t 8) (.seq (.reg [Ji 2 (.mov (.k (.str [])))]) .ret) .skip)) (.seq (.reg [Jo 9 2 1,Ji 10 (.build [.nilPtr,.nilSl,(.lst 7 [] .tight),(.lst 9 [] .tight)] [(2,2,(.t 9))]),Ji 11 (.boxT 72 4 (.t 10)),Jm 3 11]) (.seq (.seq (.reg [Jd 12 0 1,Jl 13 12,Jn 14 13,Ji 15 (.mov (Jk 0))]) (.block 0 (.loop a17_0))) (.seq (.reg [Jm 23 3,Ji 24 (.nilCheck (.t 23)),Ji 25 (.fieldAddr 0 2 true (.t 24)),Ji 26 (.call (Jf 36) [(.t 25)]),Jm 2 26]) .ret))))),[],false⟩
def a20_0:ACode:=(.seq (.seq (.plan [Js 0 (Jm 28 9),Js 1 (Ji 29 (.nilCheck (.t 28))),Js 2 (Ji 30 (.fieldAddr 5 2 true (.t 29))),Js 3 (Jd 31 0 30),Js 4 (Jl 32 31),Js 5 (Je 33 32 0),Js 6 (Jm 34 33),Js 7 (Jg 35 34 (.mov (.t 9))),Js 8 (Jg 36 34 (.nilCheck (.t 35))),Js 9 (Jg 37 34 (.fieldAddr 0 1 false (.t 36))),Js 10 (Jg 38 34 (.load 1 false (.t 37))),Js 11 (Jg 39 34 (.mov (.t 9))),Js 12 (Jg 40 34 (.nilCheck (.t 39))),Js 13 (Jg 41 34 (.fieldAddr 1 1 false (.t 40))),Js 14 (Jg 42 34 (.load 1 false (.t 41))),Js 15 (Jg 43 34 (.indexAddr 4 true none (.t 38) (.t 42))),Js 16 (Jg 44 34 (.fieldAddr 0 1 false (.t 43))),Js 17 (Jg 45 34 (.load 1 false (.t 44))),Js 18 (Jg 46 34 (.bin .neq (.t 45) (Jk 5))),Js 19 (Ji 47 (.pick (.t 34) (.t 46) (.k (.bool false))))]) (.cond (.t 47) .skip (.exit 0))) (.block 1 (.seq (.reg [Jm 48 9,Ji 49 (.call (Jf 43) [(.t 48)]),Ji 11 (.new (.agg [(.int .i64 0),(.str []),(.lst 2 [] .tight),(.lst 9 [] .tight),(.int .i64 0),(.int .i64 0),(.int .i64 0)]) true none),⟨none,.store 7 (.t 11) (.t 49),none⟩]) (.plan [Js 0 (Jm 50 9),Js 1 (Jm 51 9),Js 2 (Ji 52 (.nilCheck (.t 51))),Js 3 (Ji 53 (.fieldAddr 2 2 true (.t 52))),Js 4 (Jd 54 0 53),Js 5 (Jl 55 54),Js 6 (Jo 56 7 11),⟨7,Ji 57 (.mkLit 7 [(.int .i64 0),(.str []),(.lst 2 [] .tight),(.lst 9 [] .tight),(.int .i64 0),(.int .i64 0),(.int .i64 0)] [(0,7,(.t 56))] false),[]⟩,Js 8 (Ji 58 (.append 7 96 (some 33) (.t 55) (.t 57))),Js 9 (Ji 59 (.nilCheck (.t 50))),Js 10 (Ji 60 (.fieldAddr 2 2 true (.t 59))),Js 11 (Jd 61 0 60),⟨12,⟨none,.store 1 (.t 61) (.t 58),none⟩,[]⟩]))))
def a20:AFunc:=⟨101,[.cell 4 2 true,.tmp 5,.cell 6 2 true],(.seq (.reg [Ji 4 (.new (.agg [(.lst 7 [] .tight),(.lst 9 [] .tight)]) true none),Ji 5 (.mov (Jk 0)),Ji 6 (.new (.agg [(.int .i64 0),(.int .i64 0)]) true none)]) (.seq (.reg [Jm 13 0,Ji 14 (.call (Jf 21) [(.t 13)]),Jm 12 14,Ji 15 (.extract (.t 12) 0),Ji 16 (.extract (.t 12) 1),Ji 8 (.new (.agg [(.int .i64 0),(.int .i64 0)]) true none),Jm 7 15,⟨none,.store 2 (.t 8) (.t 16),none⟩]) (.seq (.seq (.reg [Jd 17 0 8,Jl 18 17,Ji 19 (.bin .neq (.t 18) (Jk 0))]) (.cond (.t 19) (.seq (.plan [⟨0,Ji 20 (.build [(.lst 7 [] .tight),(.lst 9 [] .tight)] []),[]⟩,Js 1 (Jo 21 2 8),⟨2,⟨none,.store 2 (.t 4) (.t 20),none⟩,[1]⟩,Js 3 (Ji 5 (.mov (Jk 0))),⟨4,⟨none,.store 2 (.t 6) (.t 21),none⟩,[]⟩]) .ret) .skip)) (.seq (.reg [Jm 22 7,Ji 23 (.build [(.lst 4 [] .tight),(.int .i64 0),(.lst 7 [] .tight),(.lst 9 [] .tight),(.int .i64 0),(.int .i64 0),(.int .i64 0)] [(0,1,(.t 22))]),Ji 24 (.box 7 (.t 23) true),Jm 9 24]) (.seq (.reg [Ji 10 (.mov (Jk 0))]) (.seq (.seq (.reg [Jm 25 1]) (.cond (.t 25) (.reg [Jm 26 9,Ji 27 (.call (Jf 42) [(.t 26)]),Jm 10 27]) (.block 0 (.loop a20_0)))) (.seq (.seq (.plan [Js 0 (Jm 62 9),Js 1 (Ji 63 (.nilCheck (.t 62))),Js 2 (Ji 64 (.fieldAddr 5 2 true (.t 63))),Js 3 (Jd 65 0 64),Js 4 (Jl 66 65),Js 5 (Je 67 66 0),Js 6 (Jm 68 67),Js 7 (Jg 69 68 (.mov (.t 9))),Js 8 (Jg 70 68 (.nilCheck (.t 69))),Js 9 (Jg 71 68 (.fieldAddr 0 1 false (.t 70))),Js 10 (Jg 72 68 (.load 1 false (.t 71))),Js 11 (Jg 73 68 (.mov (.t 9))),Js 12 (Jg 74 68 (.nilCheck (.t 73))),Js 13 (Jg 75 68 (.fieldAddr 1 1 false (.t 74))),Js 14 (Jg 76 68 (.load 1 false (.t 75))),Js 15 (Jg 77 68 (.indexAddr 4 true none (.t 72) (.t 76))),Js 16 (Jg 78 68 (.fieldAddr 0 1 false (.t 77))),Js 17 (Jg 79 68 (.load 1 false (.t 78))),Js 18 (Jg 80 68 (.bin .neq (.t 79) (Jk 5))),Js 19 (Ji 81 (.pick (.t 68) (.t 80) (.k (.bool false))))]) (.cond (.t 81) (.reg [Jm 82 9,Ji 83 (.call (Jf 44) [(.t 82),(Jk 2)])]) .skip)) (.seq (.seq (.reg [Jm 84 9,Ji 85 (.nilCheck (.t 84)),Ji 86 (.fieldAddr 5 2 true (.t 85)),Jd 87 0 86,Jl 88 87,Ji 89 (.bin .neq (.t 88) (Jk 0))]) (.cond (.t 89) (.seq (.plan [⟨0,Ji 90 (.build [(.lst 7 [] .tight),(.lst 9 [] .tight)] []),[]⟩,Js 1 (Jm 91 9),Js 2 (Ji 92 (.nilCheck (.t 91))),Js 3 (Ji 93 (.fieldAddr 5 2 true (.t 92))),Js 4 (Jo 94 2 93),⟨5,⟨none,.store 2 (.t 4) (.t 90),none⟩,[4]⟩,Js 6 (Ji 5 (.mov (Jk 0))),⟨7,⟨none,.store 2 (.t 6) (.t 94),none⟩,[]⟩]) .ret) .skip)) (.seq (.reg [Jm 95 9,Ji 96 (.nilCheck (.t 95)),Ji 97 (.fieldAddr 2 2 true (.t 96)),Jo 98 2 97,Jm 99 10,Ji 100 (.build [(.int .i64 0),(.int .i64 0)] []),⟨none,.store 2 (.t 4) (.t 98),none⟩,Jm 5 99,⟨none,.store 2 (.t 6) (.t 100),none⟩]) .ret))))))))),[],false⟩
def a21_0:ACode:=(.seq (.seq (.reg [Jm 14 5,Jm 15 0,Ji 16 (.lenStr (.t 15)),Ji 17 (.bin .lss (.t 14) (.t 16))]) (.cond (.t 17) .skip (.exit 0))) (.block 1 (.seq (.reg [Jm 19 0,Jm 20 5,Ji 21 (.call (Jf 46) [(.t 19),(.t 20)]),Jm 18 21,Ji 22 (.extract (.t 18) 0),Ji 23 (.extract (.t 18) 1),Ji 6 (.new (.agg [(.int .i64 0),(.str []),(.int .i64 0),(.int .i64 0)]) true none),⟨none,.store 4 (.t 6) (.t 22),none⟩,Jm 7 23]) (.seq (.seq (.reg [Jm 24 7,Ji 25 (.un .not (.t 24))]) (.cond (.t 25) (.seq (.reg [Jm 26 5,Ji 27 (.build [(.int .i64 0),(.int .i64 0)] [(0,1,(Jk 1)),(1,1,(.t 26))]),Ji 2 (.mov (.k (.lst 4 [] .tight))),⟨none,.store 2 (.t 3) (.t 27),none⟩]) .ret) .skip)) (.seq (.reg [Jm 28 4,Jo 29 4 6,Ji 30 (.mkLit 4 [(.int .i64 0),(.str []),(.int .i64 0),(.int .i64 0)] [(0,4,(.t 29))] false),Ji 31 (.append 4 40 (some 55) (.t 28) (.t 30)),Jm 4 31]) (.reg [Jm 32 0,Jm 33 5,Jd 34 1 6,Jl 35 34,Ji 36 (.lenStr (.t 35)),Ji 37 (.bin .add (.t 33) (.t 36)),Ji 38 (.call (Jf 45) [(.t 32),(.t 37)]),Jm 5 38]))))))
def a21:AFunc:=⟨46,[.tmp 2,.cell 3 2 true],(.seq (.reg [Ji 2 (.mov (.k (.lst 4 [] .tight))),Ji 3 (.new (.agg [(.int .i64 0),(.int .i64 0)]) true none)]) (.seq (.seq (.reg [Jm 8 0,Ji 9 (.lenStr (.t 8)),Ji 10 (.bin .gtr (.t 9) (Jk 20000))]) (.cond (.t 10) (.seq (.reg [Ji 11 (.build [(.int .i64 0),(.int .i64 0)] [(0,1,(Jk 10))]),Ji 2 (.mov (.k (.lst 4 [] .tight))),⟨none,.store 2 (.t 3) (.t 11),none⟩]) .ret) .skip)) (.seq (.reg [Ji 4 (.mov (.k (.lst 4 [] .tight)))]) (.seq (.reg [Jm 12 0,Ji 13 (.call (Jf 45) [(.t 12),(Jk 0)]),Jm 5 13]) (.seq (.block 0 (.loop a21_0)) (.seq (.reg [Jm 39 4,Jm 40 0,Ji 41 (.lenStr (.t 40)),Ji 42 (.build [(.int .i64 0),(.str []),(.int .i64 0),(.int .i64 0)] [(0,1,(Jk 5)),(3,1,(.t 41))]),Ji 43 (.mkLit 4 [(.int .i64 0),(.str []),(.int .i64 0),(.int .i64 0)] [(0,4,(.t 42))] false),Ji 44 (.append 4 40 (some 55) (.t 39) (.t 43)),Ji 45 (.build [(.int .i64 0),(.int .i64 0)] []),Jm 2 44,⟨none,.store 2 (.t 3) (.t 45),none⟩]) .ret)))))),[],false⟩
def a22:AFunc:=⟨38,[.tmp 0],(.seq (.reg [Ji 0 (.mov (.k (.bool false)))]) (.seq (.reg [Ji 5 (.call (Jf 23) [(.k (.str [49,32,43,32,50,32,42,32,120]))]),Jm 4 5,Ji 6 (.extract (.t 4) 0),Ji 7 (.extract (.t 4) 1),Ji 8 (.extract (.t 4) 2),Ji 1 (.valloc 2),Ji 3 (.valloc 2),Ji 1 (.vbox 2 1 (.t 6)),Jm 2 7,Ji 3 (.vbox 2 3 (.t 8))]) (.seq (.reg [Jd 9 0 3,Jl 10 9,Je 11 10 0,Jm 12 11,Jg 13 12 (.mov (.t 2)),Jg 14 12 (.bin .eql (.t 13) (Jk 4)),Ji 15 (.pick (.t 12) (.t 14) (.k (.bool false))),Jm 16 15,Jg 17 16 (.fieldAddr 1 1 false (.t 1)),Jg 18 16 (.load 1 false (.t 17)),Jg 19 16 (.lenSl (.t 18)),Jg 20 16 (.bin .eql (.t 19) (Jk 5)),Ji 21 (.pick (.t 16) (.t 20) (.k (.bool false))),Jm 22 21,Jg 23 22 (.fieldAddr 1 1 false (.t 1)),Jg 24 22 (.load 1 false (.t 23)),Jg 25 22 (.indexAddr 9 true none (.t 24) (Jk 2)),Jg 26 22 (.fieldAddr 4 1 false (.t 25)),Jg 27 22 (.load 1 false (.t 26)),Jg 28 22 (.bin .eql (.t 27) (.k (.str [120]))),Ji 29 (.pick (.t 22) (.t 28) (.k (.bool false))),Jm 30 29,Jg 31 30 (.fieldAddr 1 1 false (.t 1)),Jg 32 30 (.load 1 false (.t 31)),Jg 33 30 (.indexAddr 9 true none (.t 32) (Jk 3)),Jg 34 30 (.fieldAddr 0 1 false (.t 33)),Jg 35 30 (.load 1 false (.t 34)),Jg 36 30 (.bin .eql (.t 35) (Jk 8)),Ji 37 (.pick (.t 30) (.t 36) (.k (.bool false))),Jm 0 37]) .ret))),[],false⟩
def a23:AFunc:=⟨22,[.cell 2 2 true,.tmp 3,.cell 4 2 true],(.seq (.reg [Ji 2 (.new (.agg [(.lst 7 [] .tight),(.lst 9 [] .tight)]) true none),Ji 3 (.mov (Jk 0)),Ji 4 (.new (.agg [(.int .i64 0),(.int .i64 0)]) true none)]) (.seq (.reg [Ji 5 (.new (.int .i64 0) true none),⟨none,.store 1 (.t 5) (Jk 0),none⟩]) (.seq (.reg [Jm 9 0,Ji 10 (.mkFunc 48 [] [(.t 5)]),Ji 11 (.call (Jf 47) [(.t 9),(.t 10)]),Jm 8 11,Ji 12 (.extract (.t 8) 0),Ji 13 (.extract (.t 8) 1),Ji 6 (.valloc 2),Ji 7 (.valloc 2),Ji 6 (.vbox 2 6 (.t 12)),Ji 7 (.vbox 2 7 (.t 13))]) (.seq (.seq (.reg [Jd 14 0 7,Jl 15 14,Ji 16 (.bin .neq (.t 15) (Jk 0))]) (.cond (.t 16) (.seq (.plan [Js 0 (Jo 17 2 6),Js 1 (Jo 18 2 7),⟨2,⟨none,.store 2 (.t 2) (.t 17),none⟩,[1]⟩,Js 3 (Ji 3 (.mov (Jk 0))),⟨4,⟨none,.store 2 (.t 4) (.t 18),none⟩,[]⟩]) .ret) .skip)) (.seq (.plan [Js 0 (Jo 19 2 6),Js 1 (Jl 20 5),Js 2 (Jo 21 2 7),⟨3,⟨none,.store 2 (.t 2) (.t 19),none⟩,[1,2]⟩,Js 4 (Jm 3 20),⟨5,⟨none,.store 2 (.t 4) (.t 21),none⟩,[]⟩]) .ret))))),[],false⟩
def a24_0:ACode:=(.seq (.seq (.reg [Jm 277 15,Jd 278 5 13,Jl 279 278,Jn 280 279,Ji 281 (.bin .lss (.t 277) (.t 280))]) (.cond (.t 281) .skip (.exit 8))) (.seq (.block 9 (.seq (.plan [Js 0 (Jd 284 5 13),Js 1 (Jl 285 284),Js 2 (Jm 286 15),Js 3 (Ji 287 (.indexAddr 1 false none (.t 285) (.t 286))),Js 4 (Jl 288 287),Js 5 (Jd 289 5 14),Js 6 (Jl 290 289),Js 7 (Jm 291 15),Js 8 (Ji 292 (.indexAddr 1 false none (.t 290) (.t 291))),Js 9 (Jl 293 292),Js 10 (Ji 294 (.bin .neq (.t 288) (.t 293)))]) (.cond (.t 294) (.seq (.reg [Ji 4 (.mov (.k (.bool false)))]) .ret) .skip))) (.reg [Jm 282 15,Ja 283 282,Jm 15 283])))
def a24_1:ACode:=(.seq (.seq (.reg [Jm 197 12,Jd 198 3 9,Jl 199 198,Jn 200 199,Ji 201 (.bin .lss (.t 197) (.t 200))]) (.cond (.t 201) .skip (.exit 6))) (.seq (.block 7 (.seq (.plan [Js 0 (Jd 204 3 9),Js 1 (Jl 205 204),Js 2 (Jm 206 12),Js 3 (Jx 207 9 205 206),Js 4 (Jo 208 9 207),Js 5 (Jd 209 3 10),Js 6 (Jl 210 209),Js 7 (Jm 211 12),Js 8 (Jx 212 9 210 211),Js 9 (Jo 213 9 212),Js 10 (Ji 13 (.valloc 9)),Js 11 (Ji 14 (.valloc 9)),Js 12 (Ji 13 (.vbox 9 13 (.t 208))),Js 13 (Ji 14 (.vbox 9 14 (.t 213)))]) (.seq (.seq (.reg [Jd 214 0 13,Jl 215 214,Jd 216 0 14,Jl 217 216,Ji 218 (.bin .neq (.t 215) (.t 217)),Jm 219 218,Jh 220 219 (.fieldAddr 1 1 false (.t 13)),Jh 221 219 (.load 1 false (.t 220)),Jh 222 219 (.fieldAddr 1 1 false (.t 14)),Jh 223 219 (.load 1 false (.t 222)),Jh 224 219 (.bin .neq (.t 221) (.t 223)),Ji 225 (.pick (.t 219) (.k (.bool true)) (.t 224)),Jm 226 225,Jh 227 226 (.fieldAddr 2 1 false (.t 13)),Jh 228 226 (.load 1 false (.t 227)),Jh 229 226 (.fieldAddr 2 1 false (.t 14)),Jh 230 226 (.load 1 false (.t 229)),Jh 231 226 (.bin .neq (.t 228) (.t 230)),Ji 232 (.pick (.t 226) (.k (.bool true)) (.t 231)),Jm 233 232,Jh 234 233 (.fieldAddr 3 1 false (.t 13)),Jh 235 233 (.load 1 false (.t 234)),Jh 236 233 (.fieldAddr 3 1 false (.t 14)),Jh 237 233 (.load 1 false (.t 236)),Jh 238 233 (.bin .neq (.t 235) (.t 237)),Ji 239 (.pick (.t 233) (.k (.bool true)) (.t 238)),Jm 240 239,Jh 241 240 (.fieldAddr 4 1 false (.t 13)),Jh 242 240 (.load 1 false (.t 241)),Jh 243 240 (.fieldAddr 4 1 false (.t 14)),Jh 244 240 (.load 1 false (.t 243)),Jh 245 240 (.bin .neq (.t 242) (.t 244)),Ji 246 (.pick (.t 240) (.k (.bool true)) (.t 245)),Jm 247 246,Jh 248 247 (.fieldAddr 6 1 false (.t 13)),Jh 249 247 (.load 1 false (.t 248)),Jh 250 247 (.fieldAddr 6 1 false (.t 14)),Jh 251 247 (.load 1 false (.t 250)),Jh 252 247 (.bin .neq (.t 249) (.t 251)),Ji 253 (.pick (.t 247) (.k (.bool true)) (.t 252)),Jm 254 253,Jh 255 254 (.fieldAddr 7 1 false (.t 13)),Jh 256 254 (.load 1 false (.t 255)),Jh 257 254 (.fieldAddr 7 1 false (.t 14)),Jh 258 254 (.load 1 false (.t 257)),Jh 259 254 (.bin .neq (.t 256) (.t 258)),Ji 260 (.pick (.t 254) (.k (.bool true)) (.t 259)),Jm 261 260,Jh 262 261 (.fieldAddr 8 1 false (.t 13)),Jh 263 261 (.load 1 false (.t 262)),Jh 264 261 (.fieldAddr 8 1 false (.t 14)),Jh 265 261 (.load 1 false (.t 264)),Jh 266 261 (.bin .neq (.t 263) (.t 265)),Ji 267 (.pick (.t 261) (.k (.bool true)) (.t 266)),Jm 268 267,Jh 269 268 (.fieldAddr 5 1 false (.t 13)),Jh 270 268 (.load 1 false (.t 269)),Jh 271 268 (.lenSl (.t 270)),Jh 272 268 (.fieldAddr 5 1 false (.t 14)),Jh 273 268 (.load 1 false (.t 272)),Jh 274 268 (.lenSl (.t 273)),Jh 275 268 (.bin .neq (.t 271) (.t 274)),Ji 276 (.pick (.t 268) (.k (.bool true)) (.t 275))]) (.cond (.t 276) (.seq (.reg [Ji 4 (.mov (.k (.bool false)))]) .ret) .skip)) (.seq (.reg [Ji 15 (.mov (Jk 0))]) (.block 8 (.loop a24_0)))))) (.reg [Jm 202 12,Ja 203 202,Jm 12 203])))
def a24_2:ACode:=(.seq (.seq (.reg [Jm 179 11,Jd 180 2 9,Jl 181 180,Jn 182 181,Ji 183 (.bin .lss (.t 179) (.t 182))]) (.cond (.t 183) .skip (.exit 4))) (.seq (.block 5 (.seq (.plan [Js 0 (Jd 186 2 9),Js 1 (Jl 187 186),Js 2 (Jm 188 11),Js 3 (Jx 189 2 187 188),Js 4 (Jo 190 2 189),Js 5 (Jd 191 2 10),Js 6 (Jl 192 191),Js 7 (Jm 193 11),Js 8 (Jx 194 2 192 193),Js 9 (Jo 195 2 194),⟨10,Ji 196 (.eqAgg [1,0] true (.t 190) (.t 195)),[]⟩]) (.cond (.t 196) (.seq (.reg [Ji 4 (.mov (.k (.bool false)))]) .ret) .skip))) (.reg [Jm 184 11,Ja 185 184,Jm 11 185])))
def a24_3:ACode:=(.seq (.seq (.reg [Jm 111 8,Jd 112 0 2,Jl 113 112,Jn 114 113,Ji 115 (.bin .lss (.t 111) (.t 114))]) (.cond (.t 115) .skip (.exit 2))) (.seq (.block 3 (.seq (.plan [Js 0 (Jd 118 0 2),Js 1 (Jl 119 118),Js 2 (Jm 120 8),Js 3 (Jx 121 7 119 120),Js 4 (Jo 122 7 121),Js 5 (Jd 123 0 3),Js 6 (Jl 124 123),Js 7 (Jm 125 8),Js 8 (Jx 126 7 124 125),Js 9 (Jo 127 7 126),Js 10 (Ji 9 (.valloc 7)),Js 11 (Ji 10 (.valloc 7)),Js 12 (Ji 9 (.vbox 7 9 (.t 122))),Js 13 (Ji 10 (.vbox 7 10 (.t 127)))]) (.seq (.seq (.reg [Jd 128 0 9,Jl 129 128,Jd 130 0 10,Jl 131 130,Ji 132 (.bin .neq (.t 129) (.t 131)),Jm 133 132,Jh 134 133 (.fieldAddr 1 1 false (.t 9)),Jh 135 133 (.load 1 false (.t 134)),Jh 136 133 (.fieldAddr 1 1 false (.t 10)),Jh 137 133 (.load 1 false (.t 136)),Jh 138 133 (.bin .neq (.t 135) (.t 137)),Ji 139 (.pick (.t 133) (.k (.bool true)) (.t 138)),Jm 140 139,Jh 141 140 (.fieldAddr 4 1 false (.t 9)),Jh 142 140 (.load 1 false (.t 141)),Jh 143 140 (.fieldAddr 4 1 false (.t 10)),Jh 144 140 (.load 1 false (.t 143)),Jh 145 140 (.bin .neq (.t 142) (.t 144)),Ji 146 (.pick (.t 140) (.k (.bool true)) (.t 145)),Jm 147 146,Jh 148 147 (.fieldAddr 5 1 false (.t 9)),Jh 149 147 (.load 1 false (.t 148)),Jh 150 147 (.fieldAddr 5 1 false (.t 10)),Jh 151 147 (.load 1 false (.t 150)),Jh 152 147 (.bin .neq (.t 149) (.t 151)),Ji 153 (.pick (.t 147) (.k (.bool true)) (.t 152)),Jm 154 153,Jh 155 154 (.fieldAddr 6 1 false (.t 9)),Jh 156 154 (.load 1 false (.t 155)),Jh 157 154 (.fieldAddr 6 1 false (.t 10)),Jh 158 154 (.load 1 false (.t 157)),Jh 159 154 (.bin .neq (.t 156) (.t 158)),Ji 160 (.pick (.t 154) (.k (.bool true)) (.t 159)),Jm 161 160,Jh 162 161 (.fieldAddr 2 1 false (.t 9)),Jh 163 161 (.load 1 false (.t 162)),Jh 164 161 (.lenSl (.t 163)),Jh 165 161 (.fieldAddr 2 1 false (.t 10)),Jh 166 161 (.load 1 false (.t 165)),Jh 167 161 (.lenSl (.t 166)),Jh 168 161 (.bin .neq (.t 164) (.t 167)),Ji 169 (.pick (.t 161) (.k (.bool true)) (.t 168)),Jm 170 169,Jh 171 170 (.fieldAddr 3 1 false (.t 9)),Jh 172 170 (.load 1 false (.t 171)),Jh 173 170 (.lenSl (.t 172)),Jh 174 170 (.fieldAddr 3 1 false (.t 10)),Jh 175 170 (.load 1 false (.t 174)),Jh 176 170 (.lenSl (.t 175)),Jh 177 170 (.bin .neq (.t 173) (.t 176)),Ji 178 (.pick (.t 170) (.k (.bool true)) (.t 177))]) (.cond (.t 178) (.seq (.reg [Ji 4 (.mov (.k (.bool false)))]) .ret) .skip)) (.seq (.seq (.reg [Ji 11 (.mov (Jk 0))]) (.block 4 (.loop a24_2))) (.seq (.reg [Ji 12 (.mov (Jk 0))]) (.block 6 (.loop a24_1))))))) (.reg [Jm 116 8,Ja 117 116,Jm 8 117])))
def a24_4:ACode:=(.seq (.seq (.reg [Jm 32 5,Jd 33 1 2,Jl 34 33,Jn 35 34,Ji 36 (.bin .lss (.t 32) (.t 35))]) (.cond (.t 36) .skip (.exit 0))) (.seq (.block 1 (.seq (.plan [Js 0 (Jd 39 1 2),Js 1 (Jl 40 39),Js 2 (Jm 41 5),Js 3 (Jx 42 9 40 41),Js 4 (Jo 43 9 42),Js 5 (Jd 44 1 3),Js 6 (Jl 45 44),Js 7 (Jm 46 5),Js 8 (Jx 47 9 45 46),Js 9 (Jo 48 9 47),Js 10 (Ji 6 (.valloc 9)),Js 11 (Ji 7 (.valloc 9)),Js 12 (Ji 6 (.vbox 9 6 (.t 43))),Js 13 (Ji 7 (.vbox 9 7 (.t 48)))]) (.seq (.reg [Jd 49 0 6,Jl 50 49,Jd 51 0 7,Jl 52 51,Ji 53 (.bin .neq (.t 50) (.t 52)),Jm 54 53,Jh 55 54 (.fieldAddr 1 1 false (.t 6)),Jh 56 54 (.load 1 false (.t 55)),Jh 57 54 (.fieldAddr 1 1 false (.t 7)),Jh 58 54 (.load 1 false (.t 57)),Jh 59 54 (.bin .neq (.t 56) (.t 58)),Ji 60 (.pick (.t 54) (.k (.bool true)) (.t 59)),Jm 61 60,Jh 62 61 (.fieldAddr 2 1 false (.t 6)),Jh 63 61 (.load 1 false (.t 62)),Jh 64 61 (.fieldAddr 2 1 false (.t 7)),Jh 65 61 (.load 1 false (.t 64)),Jh 66 61 (.bin .neq (.t 63) (.t 65)),Ji 67 (.pick (.t 61) (.k (.bool true)) (.t 66)),Jm 68 67,Jh 69 68 (.fieldAddr 3 1 false (.t 6)),Jh 70 68 (.load 1 false (.t 69)),Jh 71 68 (.fieldAddr 3 1 false (.t 7)),Jh 72 68 (.load 1 false (.t 71)),Jh 73 68 (.bin .neq (.t 70) (.t 72)),Ji 74 (.pick (.t 68) (.k (.bool true)) (.t 73)),Jm 75 74,Jh 76 75 (.fieldAddr 4 1 false (.t 6)),Jh 77 75 (.load 1 false (.t 76)),Jh 78 75 (.fieldAddr 4 1 false (.t 7)),Jh 79 75 (.load 1 false (.t 78)),Jh 80 75 (.bin .neq (.t 77) (.t 79)),Ji 81 (.pick (.t 75) (.k (.bool true)) (.t 80)),Jm 82 81,Jh 83 82 (.fieldAddr 5 1 false (.t 6)),Jh 84 82 (.load 1 false (.t 83)),Jh 85 82 (.fieldAddr 5 1 false (.t 7)),Jh 86 82 (.load 1 false (.t 85)),Jh 87 82 (.bin .neq (.t 84) (.t 86)),Ji 88 (.pick (.t 82) (.k (.bool true)) (.t 87)),Jm 89 88,Jh 90 89 (.fieldAddr 6 1 false (.t 6)),Jh 91 89 (.load 1 false (.t 90)),Jh 92 89 (.fieldAddr 6 1 false (.t 7)),Jh 93 89 (.load 1 false (.t 92)),Jh 94 89 (.bin .neq (.t 91) (.t 93)),Ji 95 (.pick (.t 89) (.k (.bool true)) (.t 94)),Jm 96 95,Jh 97 96 (.fieldAddr 8 1 false (.t 6)),Jh 98 96 (.load 1 false (.t 97)),Jh 99 96 (.fieldAddr 8 1 false (.t 7)),Jh 100 96 (.load 1 false (.t 99)),Jh 101 96 (.bin .neq (.t 98) (.t 100)),Ji 102 (.pick (.t 96) (.k (.bool true)) (.t 101)),Jm 103 102,Jh 104 103 (.fieldAddr 7 1 false (.t 6)),Jh 105 103 (.load 1 false (.t 104)),Jh 106 103 (.fieldAddr 7 1 false (.t 7)),Jh 107 103 (.load 1 false (.t 106)),Jh 108 103 (.call (Jf 50) [(.t 105),(.t 107)]),Jh 109 103 (.un .not (.t 108)),Ji 110 (.pick (.t 103) (.k (.bool true)) (.t 109))]) (.cond (.t 110) (.seq (.reg [Ji 4 (.mov (.k (.bool false)))]) .ret) .skip)))) (.reg [Jm 37 5,Ja 38 37,Jm 5 38])))
def a24:AFunc:=⟨295,[.tmp 4],(.seq (.reg [Ji 2 (.box 2 (.t 0) false),Ji 3 (.box 2 (.t 1) false),Ji 4 (.mov (.k (.bool false)))]) (.seq (.seq (.reg [Jd 16 1 2,Jl 17 16,Jn 18 17,Jd 19 1 3,Jl 20 19,Jn 21 20,Ji 22 (.bin .neq (.t 18) (.t 21)),Jm 23 22,Jh 24 23 (.fieldAddr 0 1 false (.t 2)),Jh 25 23 (.load 1 false (.t 24)),Jh 26 23 (.lenSl (.t 25)),Jh 27 23 (.fieldAddr 0 1 false (.t 3)),Jh 28 23 (.load 1 false (.t 27)),Jh 29 23 (.lenSl (.t 28)),Jh 30 23 (.bin .neq (.t 26) (.t 29)),Ji 31 (.pick (.t 23) (.k (.bool true)) (.t 30))]) (.cond (.t 31) (.seq (.reg [Ji 4 (.mov (.k (.bool false)))]) .ret) .skip)) (.seq (.seq (.reg [Ji 5 (.mov (Jk 0))]) (.block 0 (.loop a24_4))) (.seq (.seq (.reg [Ji 8 (.mov (Jk 0))]) (.block 2 (.loop a24_3))) (.seq (.reg [Ji 4 (.mov (.k (.bool true)))]) .ret))))),[],false⟩
def a25_0:ACode:=(.seq (.seq (.reg [Jm 61 13,Jm 62 11,Jn 63 62,Ji 64 (.bin .lss (.t 61) (.t 63))]) (.cond (.t 64) .skip (.exit 0))) (.seq (.block 1 (.seq (.plan [Js 0 (Jo 67 2 4),Js 1 (Jm 68 11),Js 2 (Jm 69 13),Js 3 (Ji 70 (.indexAddr 1 false none (.t 68) (.t 69))),Js 4 (Jl 71 70),Js 5 (Jo 72 2 6),Js 6 (Jm 73 12),Js 7 (Jm 74 13),Js 8 (Ji 75 (.indexAddr 1 false none (.t 73) (.t 74))),Js 9 (Jl 76 75),⟨10,Ji 77 (.call (Jf 25) [(.t 67),(.t 71),(.t 72),(.t 76)]),[]⟩,Js 11 (Ji 78 (.un .not (.t 77)))]) (.cond (.t 78) (.seq (.reg [Ji 8 (.mov (.k (.bool false)))]) .ret) .skip))) (.reg [Jm 65 13,Ja 66 65,Jm 13 66])))
def a25:AFunc:=⟨79,[.tmp 8],(.seq (.reg [Ji 4 (.box 2 (.t 0) false),Ji 6 (.box 2 (.t 2) false),Ji 8 (.mov (.k (.bool false)))]) (.seq (.plan [Js 0 (Jd 14 1 4),Js 1 (Jl 15 14),Js 2 (Jm 16 1),Js 3 (Jx 17 9 15 16),Js 4 (Jo 18 9 17),Js 5 (Jd 19 1 6),Js 6 (Jl 20 19),Js 7 (Jm 21 3),Js 8 (Jx 22 9 20 21),Js 9 (Jo 23 9 22),Js 10 (Ji 9 (.valloc 9)),Js 11 (Ji 10 (.valloc 9)),Js 12 (Ji 9 (.vbox 9 9 (.t 18))),Js 13 (Ji 10 (.vbox 9 10 (.t 23)))]) (.seq (.plan [Js 0 (Jo 24 9 9),Js 2 (Jo 26 9 10),⟨1,Ji 25 (.call (Jf 51) [(.t 24)]),[2]⟩,⟨3,Ji 27 (.call (Jf 51) [(.t 26)]),[]⟩,Js 4 (Jm 11 25),Js 5 (Jm 12 27)]) (.seq (.seq (.reg [Jd 28 0 9,Jl 29 28,Jd 30 0 10,Jl 31 30,Ji 32 (.bin .neq (.t 29) (.t 31)),Jm 33 32,Jh 34 33 (.fieldAddr 4 1 false (.t 9)),Jh 35 33 (.load 1 false (.t 34)),Jh 36 33 (.fieldAddr 4 1 false (.t 10)),Jh 37 33 (.load 1 false (.t 36)),Jh 38 33 (.bin .neq (.t 35) (.t 37)),Ji 39 (.pick (.t 33) (.k (.bool true)) (.t 38)),Jm 40 39,Jh 41 40 (.fieldAddr 5 1 false (.t 9)),Jh 42 40 (.load 1 false (.t 41)),Jh 43 40 (.fieldAddr 5 1 false (.t 10)),Jh 44 40 (.load 1 false (.t 43)),Jh 45 40 (.bin .neq (.t 42) (.t 44)),Ji 46 (.pick (.t 40) (.k (.bool true)) (.t 45)),Jm 47 46,Jh 48 47 (.fieldAddr 6 1 false (.t 9)),Jh 49 47 (.load 1 false (.t 48)),Jh 50 47 (.fieldAddr 6 1 false (.t 10)),Jh 51 47 (.load 1 false (.t 50)),Jh 52 47 (.bin .neq (.t 49) (.t 51)),Ji 53 (.pick (.t 47) (.k (.bool true)) (.t 52)),Jm 54 53,Jh 55 54 (.mov (.t 11)),Jh 56 54 (.lenSl (.t 55)),Jh 57 54 (.mov (.t 12)),Jh 58 54 (.lenSl (.t 57)),Jh 59 54 (.bin .neq (.t 56) (.t 58)),Ji 60 (.pick (.t 54) (.k (.bool true)) (.t 59))]) (.cond (.t 60) (.seq (.reg [Ji 8 (.mov (.k (.bool false)))]) .ret) .skip)) (.seq (.seq (.reg [Ji 13 (.mov (Jk 0))]) (.block 0 (.loop a25_0))) (.seq (.reg [Ji 8 (.mov (.k (.bool true)))]) .ret)))))),[],false⟩
def a31_0:ACode:=(.seq (.seq (.reg [Jm 22 7,Jm 23 6,Jn 24 23,Ji 25 (.bin .lss (.t 22) (.t 24))]) (.cond (.t 25) .skip (.exit 0))) (.seq (.block 1 (.seq (.reg [Jm 28 6,Jm 29 7,Ji 30 (.indexAddr 1 false none (.t 28) (.t 29)),Jl 31 30,Ji 32 (.bin .lss (.t 31) (Jk 0)),Jm 33 32,Jh 34 33 (.mov (.t 6)),Jh 35 33 (.mov (.t 7)),Jh 36 33 (.indexAddr 1 false none (.t 34) (.t 35)),Jh 37 33 (.load 1 false (.t 36)),Jh 38 33 (.mov (.t 1)),Jh 39 33 (.bin .geq (.t 37) (.t 38)),Ji 40 (.pick (.t 33) (.k (.bool true)) (.t 39))]) (.cond (.t 40) (.seq (.reg [Ji 4 (.mov (.k (.bool false)))]) .ret) .skip))) (.reg [Jm 26 7,Ja 27 26,Jm 7 27])))
def a31:AFunc:=⟨122,[.tmp 4],(.seq (.reg [Ji 2 (.box 9 (.t 0) false),Ji 4 (.mov (.k (.bool false)))]) (.seq (.seq (.reg [Jd 9 0 2,Jl 10 9,Ji 11 (.bin .lss (.t 10) (Jk 1)),Jm 12 11,Jh 13 12 (.fieldAddr 0 1 false (.t 2)),Jh 14 12 (.load 1 false (.t 13)),Jh 15 12 (.bin .gtr (.t 14) (Jk 21)),Ji 16 (.pick (.t 12) (.k (.bool true)) (.t 15))]) (.cond (.t 16) (.seq (.reg [Ji 4 (.mov (.k (.bool false)))]) .ret) .skip)) (.seq (.reg [Jd 17 0 2,Jl 18 17,Ji 19 (.call (Jf 55) [(.t 18)]),Jm 5 19]) (.seq (.reg [Jo 20 9 2,Ji 21 (.call (Jf 51) [(.t 20)]),Jm 6 21]) (.seq (.seq (.reg [Ji 7 (.mov (Jk 0))]) (.block 0 (.loop a31_0))) (.seq (.seq (.reg [Jm 41 5,Ji 42 (.bin .lss (.t 41) (Jk 1)),Jm 43 42,Jg 44 43 (.fieldAddr 1 1 false (.t 2)),Jg 45 43 (.load 1 false (.t 44)),Jg 46 43 (.bin .neq (.t 45) (Jk 0)),Ji 47 (.pick (.t 43) (.t 46) (.k (.bool false))),Jm 48 47,Jh 49 48 (.mov (.t 5)),Jh 50 48 (.bin .lss (.t 49) (Jk 2)),Jh 51 48 (.mov (.t 50)),Jg 52 51 (.fieldAddr 2 1 false (.t 2)),Jg 53 51 (.load 1 false (.t 52)),Jg 54 51 (.bin .neq (.t 53) (Jk 0)),Jh 55 48 (.pick (.t 51) (.t 54) (.k (.bool false))),Ji 56 (.pick (.t 48) (.k (.bool true)) (.t 55)),Jm 57 56,Jh 58 57 (.mov (.t 5)),Jh 59 57 (.bin .lss (.t 58) (Jk 3)),Jh 60 57 (.mov (.t 59)),Jg 61 60 (.fieldAddr 3 1 false (.t 2)),Jg 62 60 (.load 1 false (.t 61)),Jg 63 60 (.bin .neq (.t 62) (Jk 0)),Jh 64 57 (.pick (.t 60) (.t 63) (.k (.bool false))),Ji 65 (.pick (.t 57) (.k (.bool true)) (.t 64)),Jm 66 65,Jh 67 66 (.mov (.t 5)),Jh 68 66 (.bin .geq (.t 67) (Jk 0)),Jh 69 66 (.mov (.t 68)),Jg 70 69 (.fieldAddr 7 1 false (.t 2)),Jg 71 69 (.load 1 false (.t 70)),Jg 72 69 (.lenSl (.t 71)),Jg 73 69 (.bin .gtr (.t 72) (Jk 0)),Jh 74 66 (.pick (.t 69) (.t 73) (.k (.bool false))),Ji 75 (.pick (.t 66) (.k (.bool true)) (.t 74))]) (.cond (.t 75) (.seq (.reg [Ji 4 (.mov (.k (.bool false)))]) .ret) .skip)) (.seq (.reg [Jd 76 0 2,Jl 77 76,Je 78 77 3,Jm 79 78,Jh 80 79 (.fieldAddr 0 1 false (.t 2)),Jh 81 79 (.load 1 false (.t 80)),Jh 82 79 (.bin .eql (.t 81) (Jk 19)),Ji 83 (.pick (.t 79) (.k (.bool true)) (.t 82)),Jm 84 83,Jh 85 84 (.fieldAddr 0 1 false (.t 2)),Jh 86 84 (.load 1 false (.t 85)),Jh 87 84 (.bin .eql (.t 86) (Jk 20)),Ji 88 (.pick (.t 84) (.k (.bool true)) (.t 87)),Jm 8 88]) (.seq (.seq (.reg [Jm 89 8,Jd 90 4 2,Jl 91 90,Ji 92 (.bin .neq (.t 91) (.k (.str []))),Ji 93 (.eqBool true (.t 89) (.t 92)),Jm 94 93,Jh 95 94 (.fieldAddr 0 1 false (.t 2)),Jh 96 94 (.load 1 false (.t 95)),Jh 97 94 (.bin .eql (.t 96) (Jk 20)),Jh 98 94 (.fieldAddr 5 1 false (.t 2)),Jh 99 94 (.load 1 false (.t 98)),Jh 100 94 (.bin .neq (.t 99) (.k (.str []))),Jh 101 94 (.eqBool true (.t 97) (.t 100)),Ji 102 (.pick (.t 94) (.k (.bool true)) (.t 101))]) (.cond (.t 102) (.seq (.reg [Ji 4 (.mov (.k (.bool false)))]) .ret) .skip)) (.seq (.seq (.reg [Jd 103 0 2,Jl 104 103,Ji 105 (.bin .gtr (.t 104) (Jk 2))]) (.cond (.t 105) (.seq (.reg [Jd 106 6 2,Jl 107 106,Je 108 107 0,Jm 4 108]) .ret) .skip)) (.seq (.reg [Jd 109 6 2,Jl 110 109,Ji 111 (.bin .geq (.t 110) (Jk 0)),Jm 112 111,Jg 113 112 (.fieldAddr 0 1 false (.t 2)),Jg 114 112 (.load 1 false (.t 113)),Jg 115 112 (.bin .eql (.t 114) (Jk 1)),Jg 116 112 (.mov (.t 115)),Jh 117 116 (.fieldAddr 6 1 false (.t 2)),Jh 118 116 (.load 1 false (.t 117)),Jh 119 116 (.bin .leq (.t 118) (Jk 1)),Jg 120 112 (.pick (.t 116) (.k (.bool true)) (.t 119)),Ji 121 (.pick (.t 112) (.t 120) (.k (.bool false))),Jm 4 121]) .ret)))))))))),[],false⟩
def a34_0:ACode:=(.seq (.reg [Ji 9 (.bin .lss (.t 8) (.t 7))]) (.seq (.cond (.t 9) .skip (.exit 0)) (.seq (.block 1 (.seq (.reg [Jm 10 8,Jx 11 9 6 8,Jo 12 9 11,Ji 4 (.new (.agg [(.int .i64 0),(.int .i64 0),(.int .i64 0),(.int .i64 0),(.str []),(.str []),(.int .i64 0),(.lst 1 [] .tight),(.int .i64 0)]) true none),Jm 3 10,⟨none,.store 9 (.t 4) (.t 12),none⟩]) (.seq (.reg [Jo 13 9 4,Jm 14 3,Ji 15 (.call (Jf 56) [(.t 13),(.t 14)]),Ji 16 (.un .not (.t 15))]) (.cond (.t 16) (.seq (.reg [Ji 2 (.mov (.k (.bool false)))]) .ret) .skip)))) (.reg [Ja 17 8,Jm 8 17]))))
def a34:AFunc:=⟨23,[.tmp 2],(.seq (.reg [Ji 1 (.box 2 (.t 0) false),Ji 2 (.mov (.k (.bool false)))]) (.seq (.seq (.reg [Jd 5 1 1,Jl 6 5,Jn 7 6,Ji 8 (.mov (Jk 0))]) (.block 0 (.loop a34_0))) (.seq (.reg [Jd 18 0 1,Jl 19 18,Ji 20 (.mkFunc 58 [] [(.t 1)]),Ji 21 (.call (Jf 57) [(.t 19),(.t 20)]),Ji 22 (.un .not (.t 21)),Jm 2 22]) .ret))),[],false⟩
def a35:AFunc:=⟨99,[],(.seq (.reg [Jm 11 0,Ji 12 (.nilCheck (.t 11)),Ji 13 (.fieldAddr 2 2 true (.t 12)),Jd 14 1 13,Jl 15 14,Jm 16 1,Jx 17 9 15 16,Jo 18 9 17,Ji 6 (.valloc 9),Ji 6 (.vbox 9 6 (.t 18))]) (.seq (.seq (.reg [Jo 19 9 6,Ji 20 (.call (Jf 60) [(.t 19)]),Jm 21 2,Ji 22 (.bin .lss (.t 20) (.t 21))]) (.cond (.t 22) (.seq (.reg [Jm 23 0,Ji 24 (.mkLit 1 [(.str [])] [(0,1,(.k (.str [40])))] false),Ji 25 (.call (Jf 61) [(.t 23),(.t 24)])]) (.reg [Jm 26 0,Ji 27 (.mkLit 1 [(.str [])] [(0,1,(.k (.str [41])))] false),⟨none,.defer (Jf 61) [(.t 26),(.t 27)],none⟩])) .skip)) (.seq (.plan [Js 1 (Jd 30 0 6),Js 2 (Jl 31 30),Js 7 (Ji 7 (.valloc 4)),⟨0,Ji 29 (.call (Jf 62) []),[2]⟩,⟨3,Ji 32 (.lookup 0 (.agg [(.str []),(.int .i64 0),(.int .i64 0),(.int .i64 0)]) true (.t 29) (.t 31)),[]⟩,Js 4 (Jm 28 32),Js 5 (Ji 33 (.extract (.t 28) 0)),Js 6 (Ji 34 (.extract (.t 28) 1)),Js 8 (Ji 7 (.vbox 4 7 (.t 33))),Js 9 (Jm 8 34)]) (.seq (.plan [Js 1 (Jd 37 0 6),Js 2 (Jl 38 37),⟨0,Ji 36 (.call (Jf 63) []),[2]⟩,⟨3,Ji 39 (.lookup 0 (.str []) true (.t 36) (.t 38)),[]⟩,Js 4 (Jm 35 39),Js 5 (Ji 40 (.extract (.t 35) 0)),Js 6 (Ji 41 (.extract (.t 35) 1)),Js 7 (Jm 9 40),Js 8 (Jm 10 41)]) (.block 0 (.seq (.reg [Jm 46 8,Jm 45 46]) (.cond (.t 45) (.seq (.reg [Jm 47 0,Jd 48 1 6,Jl 49 48,Jd 50 2 7,Jl 51 50,Ji 52 (.call (Jf 35) [(.t 47),(.t 49),(.t 51)])]) (.seq (.reg [Jm 53 0,Jd 54 0 7,Jl 55 54,Ji 56 (.mkLit 1 [(.str []),(.str []),(.str [])] [(0,1,(.k (.str [32]))),(1,1,(.t 55)),(2,1,(.k (.str [32])))] false),Ji 57 (.call (Jf 61) [(.t 53),(.t 56)])]) (.reg [Jm 58 0,Jd 59 2 6,Jl 60 59,Jd 61 3 7,Jl 62 61,Ji 63 (.call (Jf 35) [(.t 58),(.t 60),(.t 62)])]))) (.seq (.reg [Jm 65 10,Jm 64 65]) (.cond (.t 64) (.seq (.reg [Jm 66 0,Jm 67 9,Ji 68 (.mkLit 1 [(.str [])] [(0,1,(.t 67))] false),Ji 69 (.call (Jf 61) [(.t 66),(.t 68)])]) (.reg [Jm 70 0,Jd 71 1 6,Jl 72 71,Ji 73 (.call (Jf 35) [(.t 70),(.t 72),(Jk 6)])])) (.seq (.reg [Jd 75 0 6,Jl 76 75,Je 77 76 15,Jm 74 77]) (.cond (.t 74) (.seq (.reg [Jm 78 0,Ji 79 (.mkLit 1 [(.str [])] [(0,1,(.k (.str [105,102,32])))] false),Ji 80 (.call (Jf 61) [(.t 78),(.t 79)])]) (.seq (.reg [Jm 81 0,Jd 82 1 6,Jl 83 82,Ji 84 (.call (Jf 35) [(.t 81),(.t 83),(Jk 0)])]) (.seq (.reg [Jm 85 0,Ji 86 (.mkLit 1 [(.str [])] [(0,1,(.k (.str [32,116,104,101,110,32])))] false),Ji 87 (.call (Jf 61) [(.t 85),(.t 86)])]) (.seq (.reg [Jm 88 0,Jd 89 2 6,Jl 90 89,Ji 91 (.call (Jf 35) [(.t 88),(.t 90),(Jk 0)])]) (.seq (.reg [Jm 92 0,Ji 93 (.mkLit 1 [(.str [])] [(0,1,(.k (.str [32,101,108,115,101,32])))] false),Ji 94 (.call (Jf 61) [(.t 92),(.t 93)])]) (.reg [Jm 95 0,Jd 96 3 6,Jl 97 96,Ji 98 (.call (Jf 35) [(.t 95),(.t 97),(Jk 0)])])))))) (.reg [Jm 42 0,Jo 43 9 6,Ji 44 (.call (Jf 64) [(.t 42),(.t 43)])])))))))))))),[],true⟩
def a37_0:ACode:=(.seq (.reg [Ji 79 (.bin .lss (.t 78) (.t 77))]) (.seq (.cond (.t 79) .skip (.exit 3)) (.seq (.block 4 (.seq (.reg [Jx 80 9 76 78,Jo 81 9 80,Ji 8 (.valloc 9),Ji 8 (.vbox 9 8 (.t 81))]) (.reg [Jm 82 0,Jo 83 9 8,Ji 84 (.call (Jf 66) [(.t 82),(.t 83)])]))) (.reg [Ja 85 78,Jm 78 85]))))
def a37_1:ACode:=(.seq (.reg [Ji 26 (.bin .lss (.t 25) (.t 24))]) (.seq (.cond (.t 26) .skip (.exit 0)) (.seq (.block 1 (.seq (.reg [Jm 27 25,Jx 28 2 23 25,Jo 29 2 28,Ji 6 (.valloc 2),Jm 5 27,Ji 6 (.vbox 2 6 (.t 29))]) (.seq (.seq (.reg [Jm 30 5,Ji 31 (.bin .gtr (.t 30) (Jk 0))]) (.cond (.t 31) (.reg [Jm 32 0,Ji 33 (.mkLit 1 [(.str [])] [(0,1,(.k (.str [44,32])))] false),Ji 34 (.call (Jf 61) [(.t 32),(.t 33)])]) .skip)) (.plan [Js 0 (Jm 35 0),Js 1 (Jd 36 0 6),Js 2 (Jl 37 36),Js 3 (Jd 38 1 6),Js 4 (Jl 39 38),⟨5,Ji 40 (.call (Jf 65) [(.t 39)]),[2]⟩,⟨6,Ji 41 (.mkLit 1 [(.str []),(.str []),(.str [])] [(0,1,(.t 37)),(1,1,(.k (.str [58,32]))),(2,1,(.t 40))] false),[]⟩,⟨7,Ji 42 (.call (Jf 61) [(.t 35),(.t 41)]),[]⟩])))) (.reg [Ja 43 25,Jm 25 43]))))
def a37:AFunc:=⟨102,[],(.seq (.reg [Ji 3 (.box 7 (.t 1) false)]) (.seq (.reg [Ji 9 (.build [(.str []),(.str []),(.str [])] [(0,1,(.k (.str [102,117,110]))),(1,1,(.k (.str [110,111,100,101]))),(2,1,(.k (.str [104,121,98,114,105,100])))]),Ji 4 (.valloc 3),Ji 4 (.vbox 3 4 (.t 9))]) (.seq (.plan [Js 0 (Jm 10 0),Js 1 (Jd 11 0 3),Js 2 (Jl 12 11),Js 3 (Ji 13 (.bin .sub (.t 12) (Jk 1))),⟨4,Ji 14 (.minmax false [(.t 13),(Jk 2)]),[]⟩,⟨5,Ji 15 (.minmax true [(Jk 0),(.t 14)]),[]⟩,Js 6 (Ji 16 (.indexAddr 1 false (some 3) (.t 4) (.t 15))),Js 7 (Jl 17 16),Js 8 (Jd 18 1 3),Js 9 (Jl 19 18),⟨10,Ji 20 (.mkLit 1 [(.str []),(.str []),(.str []),(.str [])] [(0,1,(.t 17)),(1,1,(.k (.str [32]))),(2,1,(.t 19)),(3,1,(.k (.str [40])))] false),[]⟩,⟨11,Ji 21 (.call (Jf 61) [(.t 10),(.t 20)]),[]⟩]) (.seq (.seq (.reg [Jd 22 2 3,Jl 23 22,Jn 24 23,Ji 25 (.mov (Jk 0))]) (.block 0 (.loop a37_1))) (.seq (.reg [Jm 44 0,Ji 45 (.mkLit 1 [(.str [])] [(0,1,(.k (.str [41])))] false),Ji 46 (.call (Jf 61) [(.t 44),(.t 45)])]) (.seq (.seq (.reg [Jd 47 0 3,Jl 48 47]) (.block 2 (.seq (.reg [Je 50 48 1,Jm 49 50]) (.cond (.t 49) (.seq (.reg [Jm 51 0,Jd 52 4 3,Jl 53 52,Ji 54 (.call (Jf 65) [(.t 53)]),Ji 55 (.mkLit 1 [(.str []),(.str []),(.str [])] [(0,1,(.k (.str [58,32]))),(1,1,(.t 54)),(2,1,(.k (.str [32,61,32])))] false),Ji 56 (.call (Jf 61) [(.t 51),(.t 55)])]) (.seq (.reg [Jm 57 0,Jd 58 5 3,Jl 59 58,Ji 60 (.call (Jf 35) [(.t 57),(.t 59),(Jk 0)])]) (.seq (.reg [Jm 61 0,Ji 62 (.mkLit 1 [(.str [])] [(0,1,(.k (.str [59,10])))] false),Ji 63 (.call (Jf 61) [(.t 61),(.t 62)])]) .ret))) (.seq (.reg [Je 65 48 2,Jm 64 65]) (.cond (.t 64) (.reg [Jm 66 0,Jd 67 4 3,Jl 68 67,Ji 69 (.call (Jf 65) [(.t 68)]),Ji 70 (.mkLit 1 [(.str []),(.str [])] [(0,1,(.k (.str [58,32]))),(1,1,(.t 69))] false),Ji 71 (.call (Jf 61) [(.t 66),(.t 70)])]) .skip)))))) (.seq (.reg [Jm 72 0,Ji 73 (.mkLit 1 [(.str [])] [(0,1,(.k (.str [32,123,10])))] false),Ji 74 (.call (Jf 61) [(.t 72),(.t 73)])]) (.seq (.seq (.reg [Jd 75 3 3,Jl 76 75,Jn 77 76,Ji 78 (.mov (Jk 0))]) (.block 3 (.loop a37_0))) (.seq (.seq (.reg [Jd 86 0 3,Jl 87 86,Je 88 87 2]) (.cond (.t 88) (.seq (.reg [Jm 89 0,Ji 90 (.mkLit 1 [(.str [])] [(0,1,(.k (.str [32,32,114,101,116,117,114,110,32])))] false),Ji 91 (.call (Jf 61) [(.t 89),(.t 90)])]) (.seq (.reg [Jm 92 0,Jd 93 5 3,Jl 94 93,Ji 95 (.call (Jf 35) [(.t 92),(.t 94),(Jk 0)])]) (.reg [Jm 96 0,Ji 97 (.mkLit 1 [(.str [])] [(0,1,(.k (.str [59,10])))] false),Ji 98 (.call (Jf 61) [(.t 96),(.t 97)])]))) .skip)) (.reg [Jm 99 0,Ji 100 (.mkLit 1 [(.str [])] [(0,1,(.k (.str [125,10])))] false),Ji 101 (.call (Jf 61) [(.t 99),(.t 100)])])))))))))),[],true⟩
def a42:AFunc:=⟨80,[.tmp 2],(.seq (.reg [Ji 2 (.mov (Jk 0))]) (.seq (.reg [Ji 3 (.mov (Jk 0))]) (.seq (.seq (.reg [Jm 10 0,Ji 11 (.call (Jf 69) [(.t 10)])]) (.cond (.t 11) (.seq (.plan [Js 0 (Jm 12 0),Js 1 (Ji 13 (.nilCheck (.t 12))),Js 2 (Jd 14 0 13),Js 3 (Jl 15 14),Js 4 (Jm 16 0),Js 5 (Ji 17 (.nilCheck (.t 16))),Js 6 (Jd 18 1 17),Js 7 (Jl 19 18),Js 8 (Jx 20 4 15 19),Js 9 (Jd 21 3 20),Js 10 (Jl 22 21),Js 11 (Jm 4 22)]) (.seq (.reg [Jm 23 0,Ji 24 (.call (Jf 70) [(.t 23),(.k (.str [105,102]))])]) (.cond (.t 24) (.seq (.reg [Jm 25 0,Ji 26 (.call (Jf 42) [(.t 25)]),Jm 5 26]) (.seq (.reg [Jm 27 0,Ji 28 (.call (Jf 71) [(.t 27),(.k (.str [116,104,101,110]))])]) (.seq (.reg [Jm 29 0,Ji 30 (.call (Jf 42) [(.t 29)]),Jm 6 30]) (.seq (.reg [Jm 31 0,Ji 32 (.call (Jf 71) [(.t 31),(.k (.str [101,108,115,101]))])]) (.seq (.reg [Jm 33 0,Ji 34 (.call (Jf 42) [(.t 33)]),Jm 7 34]) (.reg [Jm 35 0,Jm 36 5,Jm 37 6,Jm 38 7,Jm 39 4,Ji 40 (.build [(.int .i64 0),(.int .i64 0),(.int .i64 0),(.int .i64 0),(.str []),(.str []),(.int .i64 0),(.lst 1 [] .tight),(.int .i64 0)] [(0,1,(Jk 15)),(1,1,(.t 36)),(2,1,(.t 37)),(3,1,(.t 38)),(8,1,(.t 39))]),Ji 41 (.call (Jf 72) [(.t 35),(.t 40)]),Jm 3 41])))))) (.seq (.reg [Jm 42 0,Ji 43 (.call (Jf 73) [(.t 42),(Jk 1)]),Jm 3 43]) (.seq (.plan [Js 0 (Jm 44 0),Js 1 (Ji 45 (.nilCheck (.t 44))),Js 2 (Jd 46 0 45),Js 3 (Jl 47 46),Js 4 (Jm 48 0),Js 5 (Ji 49 (.nilCheck (.t 48))),Js 6 (Jd 50 1 49),Js 7 (Jl 51 50),Js 8 (Jx 52 4 47 51),Js 9 (Jd 53 3 52),Js 10 (Jl 54 53),Js 11 (Jm 4 54)]) (.seq (.reg [Ji 8 (.mov (Jk 17))]) (.seq (.seq (.reg [Jm 55 0,Ji 56 (.call (Jf 74) [(.t 55),(.k (.str [102,98,121]))])]) (.cond (.t 56) (.reg [Ji 8 (.mov (Jk 18))]) .skip)) (.seq (.reg [Jm 57 0,Ji 58 (.call (Jf 70) [(.t 57),(.k (.str [45,62]))]),Jm 59 58,Jh 60 59 (.mov (.t 0)),Jh 61 59 (.call (Jf 70) [(.t 60),(.k (.str [102,98,121]))]),Ji 62 (.pick (.t 59) (.k (.bool true)) (.t 61))]) (.cond (.t 62) (.seq (.reg [Jm 63 0,Ji 64 (.call (Jf 42) [(.t 63)]),Jm 9 64]) (.reg [Jm 65 0,Jm 66 8,Jm 67 3,Jm 68 9,Jm 69 4,Ji 70 (.build [(.int .i64 0),(.int .i64 0),(.int .i64 0),(.int .i64 0),(.str []),(.str []),(.int .i64 0),(.lst 1 [] .tight),(.int .i64 0)] [(0,1,(.t 66)),(1,1,(.t 67)),(2,1,(.t 68)),(8,1,(.t 69))]),Ji 71 (.call (Jf 72) [(.t 65),(.t 70)]),Jm 3 71])) .skip))))))))) .skip)) (.seq (.reg [Jm 72 0,Ji 73 (.nilCheck (.t 72)),Jd 74 4 73,Jl 75 74,Ji 76 (.bin .sub (.t 75) (Jk 1)),Ji 77 (.nilCheck (.t 72)),Jd 78 4 77,⟨none,.store 1 (.t 78) (.t 76),none⟩]) (.seq (.reg [Jm 79 3,Jm 2 79]) .ret))))),[],true⟩
def a43:AFunc:=⟨73,[.cell 2 7 true],(.seq (.reg [Ji 2 (.new (.agg [(.int .i64 0),(.str []),(.lst 2 [] .tight),(.lst 9 [] .tight),(.int .i64 0),(.int .i64 0),(.int .i64 0)]) true none)]) (.seq (.reg [Ji 3 (.new (.agg [(.int .i64 0),(.str []),(.lst 2 [] .tight),(.lst 9 [] .tight),(.int .i64 0),(.int .i64 0),(.int .i64 0)]) true none)]) (.seq (.plan [Js 0 (Jm 4 0),Js 1 (Ji 5 (.nilCheck (.t 4))),Js 2 (Jd 6 0 5),Js 3 (Jl 7 6),Js 4 (Jm 8 0),Js 5 (Ji 9 (.nilCheck (.t 8))),Js 6 (Jd 10 1 9),Js 7 (Jl 11 10),Js 8 (Jx 12 4 7 11),Js 9 (Jd 13 3 12),Js 10 (Jl 14 13),Js 11 (Jd 15 6 3),⟨12,⟨none,.store 1 (.t 15) (.t 14),none⟩,[]⟩]) (.seq (.seq (.reg [Jm 16 0,Ji 17 (.call (Jf 70) [(.t 16),(.k (.str [102,117,110]))])]) (.cond (.t 17) (.reg [Jd 18 0 3,⟨none,.store 1 (.t 18) (Jk 1),none⟩]) (.seq (.reg [Jm 19 0,Ji 20 (.call (Jf 70) [(.t 19),(.k (.str [110,111,100,101]))])]) (.cond (.t 20) (.reg [Jd 21 0 3,⟨none,.store 1 (.t 21) (Jk 2),none⟩]) (.seq (.reg [Jd 22 0 3,⟨none,.store 1 (.t 22) (Jk 3),none⟩]) (.reg [Jm 23 0,Ji 24 (.call (Jf 71) [(.t 23),(.k (.str [104,121,98,114,105,100]))])])))))) (.seq (.reg [Jm 25 0,Ji 26 (.call (Jf 75) [(.t 25)]),Jd 27 1 3,⟨none,.store 1 (.t 27) (.t 26),none⟩]) (.seq (.reg [Jm 28 0,Ji 29 (.call (Jf 76) [(.t 28)]),Jd 30 2 3,⟨none,.store 1 (.t 30) (.t 29),none⟩]) (.seq (.seq (.reg [Jd 31 0 3,Jl 32 31,Je 33 32 3]) (.cond (.t 33) (.seq (.reg [Jm 34 0,Ji 35 (.call (Jf 71) [(.t 34),(.k (.str [123]))])]) (.seq (.reg [Jm 36 0,Ji 37 (.call (Jf 77) [(.t 36),(.k (.bool true))]),Jd 38 3 3,⟨none,.store 1 (.t 38) (.t 37),none⟩]) (.seq (.reg [Jm 39 0,Ji 40 (.call (Jf 71) [(.t 39),(.k (.str [125]))])]) (.seq (.reg [Jo 41 7 3,⟨none,.store 7 (.t 2) (.t 41),none⟩]) .ret)))) .skip)) (.seq (.reg [Jm 42 0,Ji 43 (.call (Jf 71) [(.t 42),(.k (.str [58]))])]) (.seq (.reg [Jm 44 0,Ji 45 (.call (Jf 78) [(.t 44)]),Jd 46 4 3,⟨none,.store 1 (.t 46) (.t 45),none⟩]) (.seq (.seq (.reg [Jd 47 0 3,Jl 48 47,Je 49 48 1]) (.cond (.t 49) (.seq (.reg [Jm 50 0,Ji 51 (.call (Jf 71) [(.t 50),(.k (.str [61]))])]) (.seq (.reg [Jm 52 0,Ji 53 (.call (Jf 42) [(.t 52)]),Jd 54 5 3,⟨none,.store 1 (.t 54) (.t 53),none⟩]) (.seq (.reg [Jm 55 0,Ji 56 (.call (Jf 71) [(.t 55),(.k (.str [59]))])]) (.seq (.reg [Jo 57 7 3,⟨none,.store 7 (.t 2) (.t 57),none⟩]) .ret)))) .skip)) (.seq (.reg [Jm 58 0,Ji 59 (.call (Jf 71) [(.t 58),(.k (.str [123]))])]) (.seq (.reg [Jm 60 0,Ji 61 (.call (Jf 77) [(.t 60),(.k (.bool false))]),Jd 62 3 3,⟨none,.store 1 (.t 62) (.t 61),none⟩]) (.seq (.reg [Jm 63 0,Ji 64 (.call (Jf 71) [(.t 63),(.k (.str [114,101,116,117,114,110]))])]) (.seq (.reg [Jm 65 0,Ji 66 (.call (Jf 42) [(.t 65)]),Jd 67 5 3,⟨none,.store 1 (.t 67) (.t 66),none⟩]) (.seq (.reg [Jm 68 0,Ji 69 (.call (Jf 71) [(.t 68),(.k (.str [59]))])]) (.seq (.reg [Jm 70 0,Ji 71 (.call (Jf 71) [(.t 70),(.k (.str [125]))])]) (.seq (.reg [Jo 72 7 3,⟨none,.store 7 (.t 2) (.t 72),none⟩]) .ret))))))))))))))))),[],true⟩
def a44:AFunc:=⟨26,[],(.seq (.reg [Jm 4 0,Ji 5 (.nilCheck (.t 4)),Ji 6 (.fieldAddr 5 2 true (.t 5)),Jd 7 0 6,Jl 8 7,Je 9 8 0]) (.cond (.t 9) (.plan [Js 0 (Jm 10 0),Js 1 (Jm 11 1),Js 2 (Jm 12 0),Js 3 (Ji 13 (.nilCheck (.t 12))),Js 4 (Jd 14 0 13),Js 5 (Jl 15 14),Js 6 (Jm 16 0),Js 7 (Ji 17 (.nilCheck (.t 16))),Js 8 (Jd 18 1 17),Js 9 (Jl 19 18),Js 10 (Jx 20 4 15 19),Js 11 (Jd 21 3 20),Js 12 (Jl 22 21),⟨13,Ji 23 (.build [(.int .i64 0),(.int .i64 0)] [(0,1,(.t 11)),(1,1,(.t 22))]),[]⟩,Js 14 (Ji 24 (.nilCheck (.t 10))),Js 15 (Ji 25 (.fieldAddr 5 2 true (.t 24))),⟨16,⟨none,.store 2 (.t 25) (.t 23),none⟩,[]⟩]) .skip)),[],true⟩
def a45_0:ACode:=(.seq (.seq (.reg [Jm 7 1,Jm 8 0,Ji 9 (.lenStr (.t 8)),Ji 10 (.bin .lss (.t 7) (.t 9))]) (.cond (.t 10) .skip (.exit 0))) (.block 1 (.seq (.reg [Jm 11 0,Jm 12 1,Ji 13 (.indexStr (.t 11) (.t 12)),Jm 6 13]) (.seq (.seq (.reg [Jm 14 5]) (.cond (.t 14) (.seq (.reg [Jm 15 6,Ji 16 (.bin .eql (.t 15) (.k (.int .u8 10)))]) (.cond (.t 16) (.reg [Ji 5 (.mov (.k (.bool false)))]) .skip)) (.seq (.reg [Jm 17 6,Ji 18 (.bin .eql (.t 17) (.k (.int .u8 35)))]) (.cond (.t 18) (.reg [Ji 5 (.mov (.k (.bool true)))]) (.seq (.reg [Jm 19 6,Ji 20 (.bin .neq (.t 19) (.k (.int .u8 32))),Jm 21 20,Jg 22 21 (.mov (.t 6)),Jg 23 21 (.bin .neq (.t 22) (.k (.int .u8 9))),Ji 24 (.pick (.t 21) (.t 23) (.k (.bool false))),Jm 25 24,Jg 26 25 (.mov (.t 6)),Jg 27 25 (.bin .neq (.t 26) (.k (.int .u8 10))),Ji 28 (.pick (.t 25) (.t 27) (.k (.bool false))),Jm 29 28,Jg 30 29 (.mov (.t 6)),Jg 31 29 (.bin .neq (.t 30) (.k (.int .u8 13))),Ji 32 (.pick (.t 29) (.t 31) (.k (.bool false)))]) (.cond (.t 32) (.seq (.reg [Jm 33 1,Jm 4 33]) .ret) .skip)))))) (.reg [Jm 34 1,Ja 35 34,Jm 1 35])))))
def a45:AFunc:=⟨37,[.tmp 4],(.seq (.reg [Ji 4 (.mov (Jk 0))]) (.seq (.reg [Ji 5 (.mov (.k (.bool false)))]) (.seq (.block 0 (.loop a45_0)) (.seq (.reg [Jm 36 1,Jm 4 36]) .ret)))),[],false⟩
def a46_0:ACode:=(.seq (.seq (.reg [Jm 116 12,Jm 117 11,Jn 118 117,Ji 119 (.bin .lss (.t 116) (.t 118))]) (.cond (.t 119) .skip (.exit 6))) (.seq (.block 7 (.seq (.reg [Jm 122 11,Jm 123 12,Ji 124 (.indexAddr 1 false none (.t 122) (.t 123)),Jl 125 124,Ji 126 (.lenStr (.t 125)),Jm 13 126]) (.seq (.plan [Js 0 (Jm 127 1),Js 1 (Jm 128 13),Js 2 (Ji 129 (.bin .add (.t 127) (.t 128))),Js 3 (Jm 130 0),Js 4 (Ji 131 (.lenStr (.t 130))),Js 5 (Ji 132 (.bin .leq (.t 129) (.t 131))),Js 6 (Jm 133 132),Js 7 (Jg 134 133 (.mov (.t 0))),Js 8 (Jg 135 133 (.mov (.t 1))),Js 9 (Jg 136 133 (.mov (.t 1))),Js 10 (Jg 137 133 (.mov (.t 13))),Js 11 (Jg 138 133 (.bin .add (.t 136) (.t 137))),Js 12 (Jg 139 133 (.sliceStr (.t 134) (some (.t 135)) (some (.t 138)))),Js 13 (Jg 140 133 (.mov (.t 11))),Js 14 (Jg 141 133 (.mov (.t 12))),Js 15 (Jg 142 133 (.indexAddr 1 false none (.t 140) (.t 141))),Js 16 (Jg 143 133 (.load 1 false (.t 142))),Js 17 (Jg 144 133 (.bin .eql (.t 139) (.t 143))),Js 18 (Ji 145 (.pick (.t 133) (.t 144) (.k (.bool false))))]) (.cond (.t 145) (.seq (.reg [Jm 146 11,Jm 147 12,Ji 148 (.indexAddr 1 false none (.t 146) (.t 147)),Jl 149 148,Jm 150 1,Ji 151 (.build [(.int .i64 0),(.str []),(.int .i64 0),(.int .i64 0)] [(0,1,(Jk 4)),(1,1,(.t 149)),(3,1,(.t 150))]),⟨none,.store 4 (.t 4) (.t 151),none⟩,Ji 5 (.mov (.k (.bool true)))]) .ret) .skip)))) (.reg [Jm 120 12,Ja 121 120,Jm 12 121])))
def a46_1:ACode:=(.seq (.seq (.reg [Jm 87 7,Jm 88 0,Ji 89 (.lenStr (.t 88)),Ji 90 (.bin .lss (.t 87) (.t 89)),Jm 91 90,Jg 92 91 (.mov (.t 0)),Jg 93 91 (.mov (.t 7)),Jg 94 91 (.indexStr (.t 92) (.t 93)),Jg 95 91 (.call (Jf 80) [(.t 94)]),Ji 96 (.pick (.t 91) (.t 95) (.k (.bool false)))]) (.cond (.t 96) .skip (.exit 4))) (.block 5 (.reg [Jm 97 7,Ja 98 97,Jm 7 98])))
def a46_2:ACode:=(.seq (.seq (.reg [Jm 55 7,Jm 56 0,Ji 57 (.lenStr (.t 56)),Ji 58 (.bin .lss (.t 55) (.t 57)),Jm 59 58,Jg 60 59 (.mov (.t 0)),Jg 61 59 (.mov (.t 7)),Jg 62 59 (.indexStr (.t 60) (.t 61)),Jg 63 59 (.call (Jf 80) [(.t 62)]),Ji 64 (.pick (.t 59) (.t 63) (.k (.bool false)))]) (.cond (.t 64) .skip (.exit 2))) (.block 3 (.reg [Jm 65 7,Ja 66 65,Jm 7 66])))
def a46_3:ACode:=(.seq (.seq (.reg [Jm 20 7,Jm 21 0,Ji 22 (.lenStr (.t 21)),Ji 23 (.bin .lss (.t 20) (.t 22)),Jm 24 23,Jg 25 24 (.mov (.t 0)),Jg 26 24 (.mov (.t 7)),Jg 27 24 (.indexStr (.t 25) (.t 26)),Jg 28 24 (.call (Jf 79) [(.t 27)]),Jg 29 24 (.mov (.t 28)),Jh 30 29 (.mov (.t 0)),Jh 31 29 (.mov (.t 7)),Jh 32 29 (.indexStr (.t 30) (.t 31)),Jh 33 29 (.call (Jf 80) [(.t 32)]),Jg 34 24 (.pick (.t 29) (.k (.bool true)) (.t 33)),Ji 35 (.pick (.t 24) (.t 34) (.k (.bool false)))]) (.cond (.t 35) .skip (.exit 0))) (.block 1 (.reg [Jm 36 7,Ja 37 36,Jm 7 37])))
def a46:AFunc:=⟨153,[.cell 4 4 true,.tmp 5],(.seq (.reg [Ji 4 (.new (.agg [(.int .i64 0),(.str []),(.int .i64 0),(.int .i64 0)]) true none),Ji 5 (.mov (.k (.bool false)))]) (.seq (.reg [Jm 14 0,Jm 15 1,Ji 16 (.indexStr (.t 14) (.t 15)),Jm 6 16]) (.seq (.reg [Jm 17 1,Jm 7 17]) (.seq (.seq (.reg [Jm 18 6,Ji 19 (.call (Jf 79) [(.t 18)])]) (.cond (.t 19) (.seq (.block 0 (.loop a46_3)) (.seq (.reg [Jm 38 0,Jm 39 1,Jm 40 7,Ji 41 (.sliceStr (.t 38) (some (.t 39)) (some (.t 40))),Jm 42 1,Ji 43 (.build [(.int .i64 0),(.str []),(.int .i64 0),(.int .i64 0)] [(0,1,(Jk 1)),(1,1,(.t 41)),(3,1,(.t 42))]),Ji 8 (.new (.agg [(.int .i64 0),(.str []),(.int .i64 0),(.int .i64 0)]) true none),⟨none,.store 4 (.t 8) (.t 43),none⟩]) (.seq (.seq (.reg [Jd 44 1 8,Jl 45 44,Ji 46 (.call (Jf 81) [(.t 45)])]) (.cond (.t 46) (.reg [Jd 47 0 8,⟨none,.store 1 (.t 47) (Jk 3),none⟩]) .skip)) (.seq (.reg [Jo 48 4 8,Jm 49 7,Jm 50 1,Ji 51 (.bin .sub (.t 49) (.t 50)),Ji 52 (.bin .leq (.t 51) (Jk 16)),⟨none,.store 4 (.t 4) (.t 48),none⟩,Jm 5 52]) .ret)))) .skip)) (.seq (.seq (.reg [Jm 53 6,Ji 54 (.call (Jf 80) [(.t 53)])]) (.cond (.t 54) (.seq (.block 2 (.loop a46_2)) (.seq (.seq (.reg [Jm 67 7,Ja 68 67,Jm 69 0,Ji 70 (.lenStr (.t 69)),Ji 71 (.bin .lss (.t 68) (.t 70)),Jm 72 71,Jg 73 72 (.mov (.t 0)),Jg 74 72 (.mov (.t 7)),Jg 75 72 (.indexStr (.t 73) (.t 74)),Jg 76 72 (.bin .eql (.t 75) (.k (.int .u8 46))),Ji 77 (.pick (.t 72) (.t 76) (.k (.bool false))),Jm 78 77,Jg 79 78 (.mov (.t 0)),Jg 80 78 (.mov (.t 7)),Jg 81 78 (.bin .add (.t 80) (Jk 1)),Jg 82 78 (.indexStr (.t 79) (.t 81)),Jg 83 78 (.call (Jf 80) [(.t 82)]),Ji 84 (.pick (.t 78) (.t 83) (.k (.bool false)))]) (.cond (.t 84) (.seq (.reg [Jm 85 7,Ja 86 85,Jm 7 86]) (.block 4 (.loop a46_1))) .skip)) (.seq (.reg [Jm 100 0,Jm 101 1,Jm 102 7,Ji 103 (.sliceStr (.t 100) (some (.t 101)) (some (.t 102))),Ji 104 (.call (Jf 82) [(.t 103)]),Jm 99 104,Ji 105 (.extract (.t 99) 0),Ji 106 (.extract (.t 99) 1),Jm 9 105,Jm 10 106]) (.seq (.reg [Jm 107 0,Jm 108 1,Jm 109 7,Ji 110 (.sliceStr (.t 107) (some (.t 108)) (some (.t 109))),Jm 111 9,Jm 112 1,Ji 113 (.build [(.int .i64 0),(.str []),(.int .i64 0),(.int .i64 0)] [(0,1,(Jk 2)),(1,1,(.t 110)),(2,1,(.t 111)),(3,1,(.t 112))]),Jm 114 10,⟨none,.store 4 (.t 4) (.t 113),none⟩,Jm 5 114]) .ret)))) .skip)) (.seq (.reg [Ji 115 (.mkLit 1 [(.str []),(.str []),(.str []),(.str []),(.str []),(.str []),(.str []),(.str []),(.str []),(.str []),(.str []),(.str []),(.str []),(.str []),(.str []),(.str []),(.str [])] [(0,1,(.k (.str [45,62]))),(1,1,(.k (.str [60,61]))),(2,1,(.k (.str [61,61]))),(3,1,(.k (.str [40]))),(4,1,(.k (.str [41]))),(5,1,(.k (.str [123]))),(6,1,(.k (.str [125]))),(7,1,(.k (.str [44]))),(8,1,(.k (.str [59]))),(9,1,(.k (.str [58]))),(10,1,(.k (.str [61]))),(11,1,(.k (.str [43]))),(12,1,(.k (.str [45]))),(13,1,(.k (.str [42]))),(14,1,(.k (.str [47]))),(15,1,(.k (.str [60]))),(16,1,(.k (.str [46])))] false),Jm 11 115]) (.seq (.seq (.reg [Ji 12 (.mov (Jk 0))]) (.block 6 (.loop a46_0))) (.seq (.reg [Ji 152 (.build [(.int .i64 0),(.str []),(.int .i64 0),(.int .i64 0)] []),⟨none,.store 4 (.t 4) (.t 152),none⟩,Ji 5 (.mov (.k (.bool false)))]) .ret)))))))),[],false⟩
def a48:AFunc:=⟨5,[],(.reg [Jm 3 0,Ji 4 (.call (Jf 49) [(.t 3)]),⟨none,.store 1 (.t 1) (.t 4),none⟩]),[],true⟩
def a49:AFunc:=⟨6,[.tmp 2],(.seq (.reg [Ji 1 (.box 1 (.t 0) false),Ji 2 (.mov (Jk 0))]) (.seq (.reg [Jl 3 1,Ji 4 (.mkFunc 87 [] [(.t 1)]),Ji 5 (.call (Jf 86) [(.t 3),(.t 4)]),Jm 2 5]) .ret)),[],true⟩
def a50_0:ACode:=(.seq (.seq (.reg [Jm 11 5,Jm 12 0,Jn 13 12,Ji 14 (.bin .lss (.t 11) (.t 13))]) (.cond (.t 14) .skip (.exit 0))) (.seq (.block 1 (.seq (.plan [Js 0 (Jm 17 0),Js 1 (Jm 18 5),Js 2 (Ji 19 (.indexAddr 1 false none (.t 17) (.t 18))),Js 3 (Jl 20 19),Js 4 (Jm 21 1),Js 5 (Jm 22 5),Js 6 (Ji 23 (.indexAddr 1 false none (.t 21) (.t 22))),Js 7 (Jl 24 23),Js 8 (Ji 25 (.bin .neq (.t 20) (.t 24)))]) (.cond (.t 25) (.seq (.reg [Ji 4 (.mov (.k (.bool false)))]) .ret) .skip))) (.reg [Jm 15 5,Ja 16 15,Jm 5 16])))
def a50:AFunc:=⟨26,[.tmp 4],(.seq (.reg [Ji 4 (.mov (.k (.bool false)))]) (.seq (.seq (.reg [Jm 6 0,Jn 7 6,Jm 8 1,Jn 9 8,Ji 10 (.bin .neq (.t 7) (.t 9))]) (.cond (.t 10) (.seq (.reg [Ji 4 (.mov (.k (.bool false)))]) .ret) .skip)) (.seq (.seq (.reg [Ji 5 (.mov (Jk 0))]) (.block 0 (.loop a50_0))) (.seq (.reg [Ji 4 (.mov (.k (.bool true)))]) .ret)))),[],false⟩
def a51:AFunc:=⟨24,[.tmp 2],(.seq (.reg [Ji 1 (.box 9 (.t 0) false),Ji 2 (.mov (.k (.lst 1 [] .tight)))]) (.seq (.reg [Jd 5 0 1,Jl 6 5,Ji 7 (.call (Jf 55) [(.t 6)]),Jm 3 7]) (.seq (.seq (.reg [Jm 8 3,Ji 9 (.bin .lss (.t 8) (Jk 0))]) (.cond (.t 9) (.seq (.reg [Ji 10 (.mkLit 1 [] [] false),Jd 11 7 1,Jl 12 11,Ji 13 (.append 1 8 (some 3) (.t 10) (.t 12)),Jm 2 13]) .ret) .skip)) (.seq (.reg [Jd 14 1 1,Jl 15 14,Jd 16 2 1,Jl 17 16,Jd 18 3 1,Jl 19 18,Ji 20 (.mkLit 1 [(.int .i64 0),(.int .i64 0),(.int .i64 0)] [(0,1,(.t 15)),(1,1,(.t 17)),(2,1,(.t 19))] false),Jm 4 20]) (.seq (.reg [Jm 21 4,Jm 22 3,Ji 23 (.sliceLst 1 (.t 21) none (some (.t 22)) none),Jm 2 23]) .ret))))),[],false⟩
def a53:AFunc:=⟨81,[.cell 2 7 true],(.seq (.reg [Ji 2 (.new (.agg [(.int .i64 0),(.str []),(.lst 2 [] .tight),(.lst 9 [] .tight),(.int .i64 0),(.int .i64 0),(.int .i64 0)]) true none)]) (.seq (.reg [Jm 4 0,Ji 5 (.nilCheck (.t 4)),Jd 6 0 5,Jl 7 6,Ji 8 (.indexAddr 4 true none (.t 7) (Jk 0)),Jd 9 3 8,Jl 10 9,Ji 11 (.build [(.int .i64 0),(.str []),(.lst 2 [] .tight),(.lst 9 [] .tight),(.int .i64 0),(.int .i64 0),(.int .i64 0)] [(6,1,(.t 10))]),Ji 3 (.new (.agg [(.int .i64 0),(.str []),(.lst 2 [] .tight),(.lst 9 [] .tight),(.int .i64 0),(.int .i64 0),(.int .i64 0)]) true none),⟨none,.store 7 (.t 3) (.t 11),none⟩]) (.seq (.block 0 (.seq (.reg [Jm 17 0,Ji 18 (.call (Jf 93) [(.t 17),(.k (.str [102,117,110]))]),Jm 16 18]) (.cond (.t 16) (.reg [Jd 19 0 3,⟨none,.store 1 (.t 19) (Jk 1),none⟩]) (.seq (.reg [Jm 21 0,Ji 22 (.call (Jf 93) [(.t 21),(.k (.str [110,111,100,101]))]),Jm 20 22]) (.cond (.t 20) (.reg [Jd 23 0 3,⟨none,.store 1 (.t 23) (Jk 2),none⟩]) (.seq (.reg [Jm 12 0,Ji 13 (.mkLit 1 [(.str [])] [(0,1,(.k (.str [104,121,98,114,105,100])))] false),Ji 14 (.call (Jf 94) [(.t 12),(.t 13)])]) (.reg [Jd 15 0 3,⟨none,.store 1 (.t 15) (Jk 3),none⟩]))))))) (.seq (.reg [Jm 24 0,Ji 25 (.call (Jf 95) [(.t 24)]),Ji 26 (.field 1 1 false (.t 25)),Jm 27 0,Ji 28 (.call (Jf 96) [(.t 27)]),Jd 29 1 3,⟨none,.store 1 (.t 29) (.t 26),none⟩,Jd 30 2 3,⟨none,.store 1 (.t 30) (.t 28),none⟩]) (.seq (.seq (.reg [Jd 31 0 3,Jl 32 31,Je 33 32 3]) (.cond (.t 33) (.seq (.reg [Jm 34 0,Ji 35 (.mkLit 1 [(.str [])] [(0,1,(.k (.str [123])))] false),Ji 36 (.call (Jf 94) [(.t 34),(.t 35)])]) (.seq (.reg [Jm 37 0,Ji 38 (.mkLit 1 [(.str []),(.str []),(.str []),(.str []),(.str []),(.str []),(.str []),(.str [])] [(0,1,(.k (.str [108,101,116]))),(1,1,(.k (.str [100,101,114]))),(2,1,(.k (.str [114,101,115,101,116]))),(3,1,(.k (.str [109,101,109]))),(4,1,(.k (.str [111,110]))),(5,1,(.k (.str [109,111,100,101]))),(6,1,(.k (.str [102,114,111,109]))),(7,1,(.k (.str [111,117,116])))] false),Ji 39 (.call (Jf 97) [(.t 37),(.t 38)]),Jd 40 3 3,⟨none,.store 1 (.t 40) (.t 39),none⟩]) (.seq (.reg [Jm 41 0,Ji 42 (.mkLit 1 [(.str [])] [(0,1,(.k (.str [125])))] false),Ji 43 (.call (Jf 94) [(.t 41),(.t 42)])]) (.seq (.reg [Jo 44 7 3,⟨none,.store 7 (.t 2) (.t 44),none⟩]) .ret)))) .skip)) (.seq (.reg [Jm 45 0,Ji 46 (.mkLit 1 [(.str [])] [(0,1,(.k (.str [58])))] false),Ji 47 (.call (Jf 94) [(.t 45),(.t 46)])]) (.seq (.reg [Jm 48 0,Ji 49 (.call (Jf 98) [(.t 48)]),Jd 50 4 3,⟨none,.store 1 (.t 50) (.t 49),none⟩]) (.seq (.seq (.reg [Jd 51 0 3,Jl 52 51,Je 53 52 1]) (.cond (.t 53) (.seq (.reg [Jm 54 0,Ji 55 (.mkLit 1 [(.str [])] [(0,1,(.k (.str [61])))] false),Ji 56 (.call (Jf 94) [(.t 54),(.t 55)])]) (.seq (.reg [Jm 57 0,Ji 58 (.call (Jf 49) [(.t 57)]),Jd 59 5 3,⟨none,.store 1 (.t 59) (.t 58),none⟩]) (.seq (.reg [Jm 60 0,Ji 61 (.mkLit 1 [(.str [])] [(0,1,(.k (.str [59])))] false),Ji 62 (.call (Jf 94) [(.t 60),(.t 61)])]) (.seq (.reg [Jo 63 7 3,⟨none,.store 7 (.t 2) (.t 63),none⟩]) .ret)))) .skip)) (.seq (.reg [Jm 64 0,Ji 65 (.mkLit 1 [(.str [])] [(0,1,(.k (.str [123])))] false),Ji 66 (.call (Jf 94) [(.t 64),(.t 65)])]) (.seq (.reg [Jm 67 0,Ji 68 (.mkLit 1 [(.str [])] [(0,1,(.k (.str [108,101,116])))] false),Ji 69 (.call (Jf 97) [(.t 67),(.t 68)]),Jd 70 3 3,⟨none,.store 1 (.t 70) (.t 69),none⟩]) (.seq (.reg [Jm 71 0,Ji 72 (.mkLit 1 [(.str [])] [(0,1,(.k (.str [114,101,116,117,114,110])))] false),Ji 73 (.call (Jf 94) [(.t 71),(.t 72)])]) (.seq (.reg [Jm 74 0,Ji 75 (.call (Jf 49) [(.t 74)]),Jd 76 5 3,⟨none,.store 1 (.t 76) (.t 75),none⟩]) (.seq (.reg [Jm 77 0,Ji 78 (.mkLit 1 [(.str []),(.str [])] [(0,1,(.k (.str [59]))),(1,1,(.k (.str [125])))] false),Ji 79 (.call (Jf 94) [(.t 77),(.t 78)])]) (.seq (.reg [Jo 80 7 3,⟨none,.store 7 (.t 2) (.t 80),none⟩]) .ret)))))))))))))),[],true⟩
def a56:AFunc:=⟨85,[.tmp 4],(.seq (.reg [Ji 2 (.box 9 (.t 0) false),Ji 3 (.box 1 (.t 1) false),Ji 4 (.mov (.k (.bool false)))]) (.seq (.seq (.reg [Jd 8 0 2,Jl 9 8,Ji 10 (.bin .lss (.t 9) (Jk 1)),Jm 11 10,Jh 12 11 (.fieldAddr 0 1 false (.t 2)),Jh 13 11 (.load 1 false (.t 12)),Jh 14 11 (.bin .gtr (.t 13) (Jk 21)),Ji 15 (.pick (.t 11) (.k (.bool true)) (.t 14))]) (.cond (.t 15) (.seq (.reg [Ji 4 (.mov (.k (.bool false)))]) .ret) .skip)) (.seq (.reg [Jd 16 0 2,Jl 17 16,Je 18 17 3,Jm 19 18,Jh 20 19 (.fieldAddr 0 1 false (.t 2)),Jh 21 19 (.load 1 false (.t 20)),Jh 22 19 (.bin .eql (.t 21) (Jk 19)),Ji 23 (.pick (.t 19) (.k (.bool true)) (.t 22)),Jm 24 23,Jh 25 24 (.fieldAddr 0 1 false (.t 2)),Jh 26 24 (.load 1 false (.t 25)),Jh 27 24 (.bin .eql (.t 26) (Jk 20)),Ji 28 (.pick (.t 24) (.k (.bool true)) (.t 27)),Jm 5 28]) (.seq (.reg [Jd 29 0 2,Jl 30 29,Je 31 30 1,Jm 32 31,Jh 33 32 (.fieldAddr 0 1 false (.t 2)),Jh 34 32 (.load 1 false (.t 33)),Jh 35 32 (.bin .eql (.t 34) (Jk 2)),Ji 36 (.pick (.t 32) (.k (.bool true)) (.t 35)),Jm 6 36]) (.seq (.reg [Ji 37 (.mkFunc 100 [] [(.t 3)]),Jm 7 37]) (.seq (.block 0 (.seq (.plan [Js 0 (Jo 39 9 2),Js 1 (Jo 40 9 2),Js 2 (Jm 41 5),Js 3 (Jd 42 0 2),Js 4 (Jl 43 42),Js 5 (Je 44 43 20),Js 6 (Jm 45 6),⟨7,Ji 46 (.call (Jf 102) [(.t 40),(.t 41),(.t 44),(.t 45)]),[0]⟩,⟨8,Ji 47 (.call (Jf 101) [(.t 39),(.t 46)]),[]⟩,Js 9 (Ji 48 (.un .not (.t 47))),Js 10 (Jm 49 48),Js 11 (Jh 50 49 (.load 9 true (.t 2))),Js 13 (Jh 52 49 (.mov (.t 7))),⟨12,Jh 51 49 (.call (Jf 104) [(.t 50)]),[]⟩,⟨14,Jh 53 49 (.call (Jf 103) [(.t 51),(.t 52)]),[]⟩,Js 15 (Ji 54 (.pick (.t 49) (.k (.bool true)) (.t 53))),Js 16 (Jm 38 54)]) (.cond (.t 38) (.seq (.reg [Ji 4 (.mov (.k (.bool false)))]) .ret) (.seq (.reg [Jm 56 5,Jm 57 56,Jg 58 57 (.fieldAddr 4 1 false (.t 2)),Jg 59 57 (.load 1 false (.t 58)),Jg 60 57 (.bin .eql (.t 59) (.k (.str []))),Ji 61 (.pick (.t 57) (.t 60) (.k (.bool false))),Jm 62 61,Jh 63 62 (.fieldAddr 0 1 false (.t 2)),Jh 64 62 (.load 1 false (.t 63)),Jh 65 62 (.bin .eql (.t 64) (Jk 20)),Jh 66 62 (.mov (.t 65)),Jg 67 66 (.fieldAddr 5 1 false (.t 2)),Jg 68 66 (.load 1 false (.t 67)),Jg 69 66 (.bin .eql (.t 68) (.k (.str []))),Jh 70 62 (.pick (.t 66) (.t 69) (.k (.bool false))),Ji 71 (.pick (.t 62) (.k (.bool true)) (.t 70)),Jm 55 71]) (.cond (.t 55) (.seq (.reg [Ji 4 (.mov (.k (.bool false)))]) .ret) .skip))))) (.seq (.reg [Jd 72 6 2,Jl 73 72,Ji 74 (.bin .geq (.t 73) (Jk 0)),Jm 75 74,Jg 76 75 (.fieldAddr 0 1 false (.t 2)),Jg 77 75 (.load 1 false (.t 76)),Jg 78 75 (.bin .neq (.t 77) (Jk 2)),Jg 79 75 (.mov (.t 78)),Jh 80 79 (.fieldAddr 6 1 false (.t 2)),Jh 81 79 (.load 1 false (.t 80)),Jh 82 79 (.bin .leq (.t 81) (Jk 1)),Jg 83 75 (.pick (.t 79) (.k (.bool true)) (.t 82)),Ji 84 (.pick (.t 75) (.t 83) (.k (.bool false))),Jm 4 84]) .ret))))))),[],false⟩
def a57:AFunc:=⟨9,[.tmp 4],(.seq (.reg [Ji 4 (.mov (.k (.bool false)))]) (.seq (.reg [Jm 5 0,Jm 6 1,Ji 7 (.call (Jf 105) [(.t 5),(.t 6)]),Ji 8 (.bin .geq (.t 7) (Jk 0)),Jm 4 8]) .ret)),[],false⟩
def a58:AFunc:=⟨8,[.tmp 3],(.seq (.reg [Ji 2 (.box 7 (.t 0) false),Ji 3 (.mov (.k (.bool false)))]) (.seq (.reg [Jo 4 2 1,Jo 5 7 2,Ji 6 (.call (Jf 59) [(.t 4),(.t 5)]),Ji 7 (.un .not (.t 6)),Jm 3 7]) .ret)),[],true⟩
def a59:AFunc:=⟨23,[.tmp 4],(.seq (.reg [Ji 2 (.box 2 (.t 0) false),Ji 3 (.box 7 (.t 1) false),Ji 4 (.mov (.k (.bool false)))]) (.seq (.seq (.reg [Jo 5 2 2,Jd 6 5 3,Jl 7 6,Jd 8 0 3,Jl 9 8,Je 10 9 1,Jm 11 10,Jh 12 11 (.fieldAddr 0 1 false (.t 3)),Jh 13 11 (.load 1 false (.t 12)),Jh 14 11 (.bin .eql (.t 13) (Jk 2)),Ji 15 (.pick (.t 11) (.k (.bool true)) (.t 14)),Ji 16 (.call (Jf 106) [(.t 5),(.t 7),(.t 15)]),Ji 17 (.un .not (.t 16))]) (.cond (.t 17) (.seq (.reg [Ji 4 (.mov (.k (.bool false)))]) .ret) .skip)) (.seq (.reg [Jd 18 3 3,Jl 19 18,Ji 20 (.mkFunc 108 [] [(.t 2)]),Ji 21 (.call (Jf 107) [(.t 19),(.t 20)]),Ji 22 (.un .not (.t 21)),Jm 4 22]) .ret))),[],false⟩
def a60:AFunc:=⟨28,[.tmp 2],(.seq (.reg [Ji 1 (.box 9 (.t 0) false),Ji 2 (.mov (Jk 0))]) (.seq (.seq (.plan [Js 1 (Jd 9 0 1),Js 2 (Jl 10 9),Js 7 (Ji 3 (.valloc 4)),⟨0,Ji 8 (.call (Jf 62) []),[2]⟩,⟨3,Ji 11 (.lookup 0 (.agg [(.str []),(.int .i64 0),(.int .i64 0),(.int .i64 0)]) true (.t 8) (.t 10)),[]⟩,Js 4 (Jm 7 11),Js 5 (Ji 12 (.extract (.t 7) 0)),Js 6 (Ji 13 (.extract (.t 7) 1)),Js 8 (Ji 3 (.vbox 4 3 (.t 12))),Js 9 (Jm 4 13)]) (.seq (.reg [Jm 14 4]) (.cond (.t 14) (.seq (.reg [Jd 15 1 3,Jl 16 15,Jm 2 16]) .ret) .skip))) (.seq (.seq (.plan [Js 1 (Jd 19 0 1),Js 2 (Jl 20 19),⟨0,Ji 18 (.call (Jf 63) []),[2]⟩,⟨3,Ji 21 (.lookup 0 (.str []) true (.t 18) (.t 20)),[]⟩,Js 4 (Jm 17 21),Js 5 (Ji 22 (.extract (.t 17) 0)),Js 6 (Ji 23 (.extract (.t 17) 1)),Js 7 (Jm 5 22),Js 8 (Jm 6 23)]) (.seq (.reg [Jm 24 6]) (.cond (.t 24) (.seq (.reg [Ji 2 (.mov (Jk 6))]) .ret) .skip))) (.seq (.seq (.reg [Jd 25 0 1,Jl 26 25,Je 27 26 15]) (.cond (.t 27) (.seq (.reg [Ji 2 (.mov (Jk 0))]) .ret) .skip)) (.seq (.reg [Ji 2 (.mov (Jk 7))]) .ret))))),[],false⟩
def a61_0:ACode:=(.seq (.reg [Ji 9 (.bin .lss (.t 8) (.t 7))]) (.seq (.cond (.t 9) .skip (.exit 0)) (.seq (.block 1 (.seq (.reg [Ji 10 (.indexAddr 1 false none (.t 6) (.t 8)),Jl 11 10,Jm 5 11]) (.reg [Jm 12 0,Ji 13 (.nilCheck (.t 12)),Ji 14 (.fieldAddr 0 2 true (.t 13)),Jm 15 5,Ji 16 (.call (Jf 110) [(.t 14),(.t 15)])]))) (.reg [Ja 17 8,Jm 8 17]))))
def a61:AFunc:=⟨18,[],(.seq (.reg [Jm 6 1,Jn 7 6,Ji 8 (.mov (Jk 0))]) (.block 0 (.loop a61_0))),[],true⟩
def a62:AFunc:=⟨14,[.tmp 0],(.seq (.reg [Ji 0 (.mov (.k .nilMap))]) (.seq (.reg [Ji 1 (.mkMap),Ji 2 (.build [(.str []),(.int .i64 0),(.int .i64 0),(.int .i64 0)] [(0,1,(.k (.str [43]))),(1,1,(Jk 4)),(2,1,(Jk 4)),(3,1,(Jk 5))]),⟨none,.mapUpdate 0 (.t 1) (Jk 6) (.t 2),none⟩,Ji 3 (.build [(.str []),(.int .i64 0),(.int .i64 0),(.int .i64 0)] [(0,1,(.k (.str [45]))),(1,1,(Jk 4)),(2,1,(Jk 4)),(3,1,(Jk 5))]),⟨none,.mapUpdate 0 (.t 1) (Jk 7) (.t 3),none⟩,Ji 4 (.build [(.str []),(.int .i64 0),(.int .i64 0),(.int .i64 0)] [(0,1,(.k (.str [42]))),(1,1,(Jk 5)),(2,1,(Jk 5)),(3,1,(Jk 6))]),⟨none,.mapUpdate 0 (.t 1) (Jk 8) (.t 4),none⟩,Ji 5 (.build [(.str []),(.int .i64 0),(.int .i64 0),(.int .i64 0)] [(0,1,(.k (.str [47]))),(1,1,(Jk 5)),(2,1,(Jk 5)),(3,1,(Jk 6))]),⟨none,.mapUpdate 0 (.t 1) (Jk 9) (.t 5),none⟩,Ji 6 (.build [(.str []),(.int .i64 0),(.int .i64 0),(.int .i64 0)] [(0,1,(.k (.str [60]))),(1,1,(Jk 3)),(2,1,(Jk 4)),(3,1,(Jk 4))]),⟨none,.mapUpdate 0 (.t 1) (Jk 10) (.t 6),none⟩,Ji 7 (.build [(.str []),(.int .i64 0),(.int .i64 0),(.int .i64 0)] [(0,1,(.k (.str [60,61]))),(1,1,(Jk 3)),(2,1,(Jk 4)),(3,1,(Jk 4))]),⟨none,.mapUpdate 0 (.t 1) (Jk 11) (.t 7),none⟩,Ji 8 (.build [(.str []),(.int .i64 0),(.int .i64 0),(.int .i64 0)] [(0,1,(.k (.str [61,61]))),(1,1,(Jk 3)),(2,1,(Jk 4)),(3,1,(Jk 4))]),⟨none,.mapUpdate 0 (.t 1) (Jk 12) (.t 8),none⟩,Ji 9 (.build [(.str []),(.int .i64 0),(.int .i64 0),(.int .i64 0)] [(0,1,(.k (.str [97,110,100]))),(1,1,(Jk 2)),(2,1,(Jk 2)),(3,1,(Jk 3))]),⟨none,.mapUpdate 0 (.t 1) (Jk 13) (.t 9),none⟩,Ji 10 (.build [(.str []),(.int .i64 0),(.int .i64 0),(.int .i64 0)] [(0,1,(.k (.str [111,114]))),(1,1,(Jk 1)),(2,1,(Jk 1)),(3,1,(Jk 2))]),⟨none,.mapUpdate 0 (.t 1) (Jk 14) (.t 10),none⟩,Ji 11 (.build [(.str []),(.int .i64 0),(.int .i64 0),(.int .i64 0)] [(0,1,(.k (.str [45,62]))),(1,1,(Jk 0)),(2,1,(Jk 1)),(3,1,(Jk 0))]),⟨none,.mapUpdate 0 (.t 1) (Jk 17) (.t 11),none⟩,Ji 12 (.build [(.str []),(.int .i64 0),(.int .i64 0),(.int .i64 0)] [(0,1,(.k (.str [102,98,121]))),(1,1,(Jk 0)),(2,1,(Jk 1)),(3,1,(Jk 0))]),⟨none,.mapUpdate 0 (.t 1) (Jk 18) (.t 12),none⟩,Jm 13 1,Jm 0 13]) .ret)),[],true⟩
def a63:AFunc:=⟨3,[.tmp 0],(.seq (.reg [Ji 0 (.mov (.k .nilMap))]) (.seq (.reg [Ji 1 (.mkMap),⟨none,.mapUpdate 0 (.t 1) (Jk 4) (.k (.str [45])),none⟩,⟨none,.mapUpdate 0 (.t 1) (Jk 5) (.k (.str [110,111,116,32])),none⟩,⟨none,.mapUpdate 0 (.t 1) (Jk 16) (.k (.str [112,114,101,32])),none⟩,⟨none,.mapUpdate 0 (.t 1) (Jk 21) (.k (.str [115,113,114,116,32])),none⟩,Jm 2 1,Jm 0 2]) .ret)),[],true⟩
def a64_0:ACode:=(.seq (.reg [Ji 51 (.bin .lss (.t 50) (.t 49))]) (.seq (.cond (.t 51) .skip (.exit 1)) (.seq (.block 2 (.seq (.reg [Jm 52 50,Ji 53 (.indexAddr 1 false none (.t 48) (.t 50)),Jl 54 53,Jm 4 52,Jm 5 54]) (.seq (.seq (.reg [Jm 55 4,Ji 56 (.bin .gtr (.t 55) (Jk 0))]) (.cond (.t 56) (.reg [Jm 57 0,Ji 58 (.mkLit 1 [(.str [])] [(0,1,(.k (.str [44,32])))] false),Ji 59 (.call (Jf 61) [(.t 57),(.t 58)])]) .skip)) (.reg [Jm 60 0,Jm 61 5,Ji 62 (.call (Jf 35) [(.t 60),(.t 61),(Jk 0)])])))) (.reg [Ja 63 50,Jm 50 63]))))
def a64:AFunc:=⟨67,[],(.seq (.reg [Ji 3 (.box 9 (.t 1) false)]) (.seq (.reg [Jd 6 0 3,Jl 7 6]) (.block 0 (.seq (.reg [Je 14 7 1,Jm 13 14]) (.cond (.t 13) (.reg [Jm 15 0,Jd 16 6 3,Jl 17 16,Ji 18 (.call (Jf 111) [(.t 17)]),Ji 19 (.mkLit 1 [(.str [])] [(0,1,(.t 18))] false),Ji 20 (.call (Jf 61) [(.t 15),(.t 19)])]) (.seq (.reg [Je 22 7 2,Jm 21 22]) (.cond (.t 21) (.reg [Jm 23 0,Ji 24 (.mkLit 1 [(.str []),(.str [])] [(0,1,(.k (.str [102,97,108,115,101]))),(1,1,(.k (.str [116,114,117,101])))] false),Jd 25 6 3,Jl 26 25,Ji 27 (.indexAddr 1 false none (.t 24) (.t 26)),Jl 28 27,Ji 29 (.mkLit 1 [(.str [])] [(0,1,(.t 28))] false),Ji 30 (.call (Jf 61) [(.t 23),(.t 29)])]) (.seq (.reg [Je 32 7 20,Jm 31 32]) (.cond (.t 31) (.reg [Jm 33 0,Jd 34 4 3,Jl 35 34,Jd 36 5 3,Jl 37 36,Ji 38 (.mkLit 1 [(.str []),(.str []),(.str [])] [(0,1,(.t 35)),(1,1,(.k (.str [32,105,115,32]))),(2,1,(.t 37))] false),Ji 39 (.call (Jf 61) [(.t 33),(.t 38)])]) (.seq (.reg [Je 41 7 19,Jm 40 41]) (.cond (.t 40) (.seq (.reg [Jm 42 0,Jd 43 4 3,Jl 44 43,Ji 45 (.mkLit 1 [(.str []),(.str [])] [(0,1,(.t 44)),(1,1,(.k (.str [40])))] false),Ji 46 (.call (Jf 61) [(.t 42),(.t 45)])]) (.seq (.seq (.reg [Jd 47 7 3,Jl 48 47,Jn 49 48,Ji 50 (.mov (Jk 0))]) (.block 1 (.loop a64_0))) (.reg [Jm 64 0,Ji 65 (.mkLit 1 [(.str [])] [(0,1,(.k (.str [41])))] false),Ji 66 (.call (Jf 61) [(.t 64),(.t 65)])]))) (.reg [Jm 8 0,Jd 9 4 3,Jl 10 9,Ji 11 (.mkLit 1 [(.str [])] [(0,1,(.t 10))] false),Ji 12 (.call (Jf 61) [(.t 8),(.t 11)])])))))))))))),[],true⟩
def a65:AFunc:=⟨8,[.tmp 2],(.seq (.reg [Ji 2 (.mov (.k (.str [])))]) (.seq (.seq (.reg [Jm 3 0]) (.block 0 (.seq (.reg [Je 5 3 1,Jm 4 5]) (.cond (.t 4) (.seq (.reg [Ji 2 (.mov (.k (.str [102,105,120])))]) .ret) (.seq (.reg [Je 7 3 2,Jm 6 7]) (.cond (.t 6) (.seq (.reg [Ji 2 (.mov (.k (.str [98,111,111,108])))]) .ret) .skip)))))) (.seq (.reg [Ji 2 (.mov (.k (.str [63])))]) .ret))),[],false⟩
def a66:AFunc:=⟨113,[],(.seq (.reg [Ji 2 (.box 1 (.t 0) false),Ji 3 (.box 9 (.t 1) false)]) (.seq (.reg [Ji 6 (.mkFunc 112 [] [(.t 2),(.t 3)]),Jm 4 6]) (.seq (.reg [Ji 7 (.mkFunc 113 [] [(.t 2),(.t 3)]),Jm 5 7]) (.seq (.reg [Jl 8 2,Ji 9 (.mkLit 1 [(.str [])] [(0,1,(.k (.str [32,32])))] false),Ji 10 (.call (Jf 61) [(.t 8),(.t 9)])]) (.seq (.seq (.reg [Jd 11 0 3,Jl 12 11]) (.block 0 (.seq (.reg [Je 19 12 1,Jm 18 19]) (.cond (.t 18) (.seq (.plan [Js 0 (Jl 20 2),Js 1 (Jd 21 1 3),Js 2 (Jl 22 21),Js 3 (Jd 23 2 3),Js 4 (Jl 24 23),⟨5,Ji 25 (.call (Jf 65) [(.t 24)]),[0,2]⟩,⟨6,Ji 26 (.mkLit 1 [(.str []),(.str []),(.str []),(.str []),(.str [])] [(0,1,(.k (.str [108,101,116,32]))),(1,1,(.t 22)),(2,1,(.k (.str [58,32]))),(3,1,(.t 25)),(4,1,(.k (.str [32,61,32])))] false),[]⟩,⟨7,Ji 27 (.call (Jf 61) [(.t 20),(.t 26)]),[]⟩]) (.reg [Jm 28 4,Ji 29 (.call (.t 28) [])])) (.seq (.reg [Je 31 12 2,Jm 30 31]) (.cond (.t 30) (.seq (.reg [Jl 32 2,Jd 33 1 3,Jl 34 33,Ji 35 (.mkLit 1 [(.str []),(.str []),(.str [])] [(0,1,(.k (.str [100,101,114,32]))),(1,1,(.t 34)),(2,1,(.k (.str [32,61,32])))] false),Ji 36 (.call (Jf 61) [(.t 32),(.t 35)])]) (.seq (.reg [Jm 37 4,Ji 38 (.call (.t 37) [])]) (.seq (.reg [Jl 39 2,Ji 40 (.mkLit 1 [(.str [])] [(0,1,(.k (.str [32,105,110,105,116,32])))] false),Ji 41 (.call (Jf 61) [(.t 39),(.t 40)])]) (.reg [Jm 42 5,Ji 43 (.call (.t 42) [])])))) (.seq (.reg [Je 45 12 3,Jm 44 45]) (.cond (.t 44) (.seq (.reg [Jl 46 2,Jd 47 1 3,Jl 48 47,Ji 49 (.mkLit 1 [(.str []),(.str []),(.str [])] [(0,1,(.k (.str [114,101,115,101,116,32]))),(1,1,(.t 48)),(2,1,(.k (.str [32,111,110,32])))] false),Ji 50 (.call (Jf 61) [(.t 46),(.t 49)])]) (.seq (.reg [Jm 51 5,Ji 52 (.call (.t 51) [])]) (.seq (.reg [Jl 53 2,Ji 54 (.mkLit 1 [(.str [])] [(0,1,(.k (.str [32,61,32])))] false),Ji 55 (.call (Jf 61) [(.t 53),(.t 54)])]) (.reg [Jm 56 4,Ji 57 (.call (.t 56) [])])))) (.seq (.reg [Je 59 12 4,Jm 58 59]) (.cond (.t 58) (.seq (.plan [Js 0 (Jl 60 2),Js 1 (Jd 61 1 3),Js 2 (Jl 62 61),Js 3 (Jd 63 2 3),Js 4 (Jl 64 63),⟨5,Ji 65 (.call (Jf 65) [(.t 64)]),[0,2]⟩,⟨6,Ji 66 (.mkLit 1 [(.str []),(.str []),(.str []),(.str []),(.str [])] [(0,1,(.k (.str [109,101,109,32]))),(1,1,(.t 62)),(2,1,(.k (.str [58,32]))),(3,1,(.t 65)),(4,1,(.k (.str [32,105,110,105,116,32])))] false),[]⟩,⟨7,Ji 67 (.call (Jf 61) [(.t 60),(.t 66)]),[]⟩]) (.reg [Jm 68 4,Ji 69 (.call (.t 68) [])])) (.seq (.reg [Je 71 12 5,Jm 70 71]) (.cond (.t 70) (.seq (.reg [Jl 72 2,Ji 73 (.mkLit 1 [(.str [])] [(0,1,(.k (.str [111,110,32])))] false),Ji 74 (.call (Jf 61) [(.t 72),(.t 73)])]) (.seq (.reg [Jm 75 5,Ji 76 (.call (.t 75) [])]) (.seq (.reg [Jl 77 2,Jd 78 1 3,Jl 79 78,Ji 80 (.mkLit 1 [(.str []),(.str []),(.str [])] [(0,1,(.k (.str [32,115,101,116,32]))),(1,1,(.t 79)),(2,1,(.k (.str [32,61,32])))] false),Ji 81 (.call (Jf 61) [(.t 77),(.t 80)])]) (.reg [Jm 82 4,Ji 83 (.call (.t 82) [])])))) (.seq (.reg [Je 85 12 6,Jm 84 85]) (.cond (.t 84) (.plan [Js 0 (Jl 86 2),Js 1 (Jd 87 1 3),Js 2 (Jl 88 87),Js 3 (Jd 89 5 3),Js 4 (Jl 90 89),⟨5,Ji 91 (.call (Jf 114) [(.t 90),(.k (.str [44,32]))]),[0,2]⟩,⟨6,Ji 92 (.mkLit 1 [(.str []),(.str []),(.str []),(.str []),(.str [])] [(0,1,(.k (.str [109,111,100,101,32]))),(1,1,(.t 88)),(2,1,(.k (.str [32,123]))),(3,1,(.t 91)),(4,1,(.k (.str [125])))] false),[]⟩,⟨7,Ji 93 (.call (Jf 61) [(.t 86),(.t 92)]),[]⟩]) (.seq (.reg [Je 95 12 7,Jm 94 95]) (.cond (.t 94) (.seq (.reg [Jl 96 2,Jd 97 1 3,Jl 98 97,Jd 99 6 3,Jl 100 99,Ji 101 (.mkLit 1 [(.str []),(.str []),(.str []),(.str []),(.str [])] [(0,1,(.k (.str [102,114,111,109,32]))),(1,1,(.t 98)),(2,1,(.k (.str [46]))),(3,1,(.t 100)),(4,1,(.k (.str [32,111,110,32])))] false),Ji 102 (.call (Jf 61) [(.t 96),(.t 101)])]) (.seq (.reg [Jm 103 5,Ji 104 (.call (.t 103) [])]) (.reg [Jl 105 2,Jd 106 7 3,Jl 107 106,Ji 108 (.mkLit 1 [(.str []),(.str [])] [(0,1,(.k (.str [32,103,111,116,111,32]))),(1,1,(.t 107))] false),Ji 109 (.call (Jf 61) [(.t 105),(.t 108)])]))) (.reg [Jl 13 2,Jd 14 1 3,Jl 15 14,Ji 16 (.mkLit 1 [(.str []),(.str [])] [(0,1,(.k (.str [111,117,116,32]))),(1,1,(.t 15))] false),Ji 17 (.call (Jf 61) [(.t 13),(.t 16)])]))))))))))))))))) (.reg [Jl 110 2,Ji 111 (.mkLit 1 [(.str [])] [(0,1,(.k (.str [59,10])))] false),Ji 112 (.call (Jf 61) [(.t 110),(.t 111)])])))))),[],true⟩
end Go.Proofs.YtgkhmmlemgikjaaGreatDoor
