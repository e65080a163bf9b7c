/- Part Kl. No condition. -/
import Derived.Test.YtgkhmmlemgikjaaGreatDoorKd
import Derived.Test.YtgkhmmlemgikjaaGreatDoorEc
import Derived.Test.YtgkhmmlemgikjaaGreatDoorRows
set_option linter.unusedVariables false
set_option linter.unusedSimpArgs false
namespace Go.Proofs.YtgkhmmlemgikjaaGreatDoor
open Go Ai
theorem glOk {W:World} {laid:List (String×DataW Unit)} (_:laidMetH Tryz.prog laid W):GlOk gl (J0 W):=by
 intro g v h;cases h
theorem bwOk {W:World} (h:laidMetH Tryz.prog Rows.parseExprsUptoRow.laid W):Bw W :=
 tab_of_laid (g:=0) (t:=182) (e:=5) (m:=256) (by kernel_rfl) (by kernel_rfl) (by kernel_rfl) Tryz.underlying182 Tryz.underlying5 (by kernel_rfl) (by kernel_rfl) h
noncomputable def low:Nat:=(World.holding Tryz.prog default ⟨#[],#[],[]⟩).heap.size
def plainD:DataW Unit→Bool
 | .agg _=>true
 | .lit _=>true
 | _=>false
def setAll:List (Nat×Array Value)→Array Obj→Array Obj
 | [],h=>h
 | x :: l, h => setAll l (h.modify x.1 fun
     | .cells _ t frozen=>.cells x.2 t frozen
     | o=>o)
def r16 (a b c:Int):List Value:=[.int .u16 a,.int .u16 b,.int .u16 c]
noncomputable def wit (os:Os):World :=
 let w0:=World.holding Tryz.prog os ⟨#[.cells #[.string ⟨#[118,97,108,117,101,32,111,117,116,32,111,102,32,114,97,110,103,101]⟩] 252,.cells #[.string ⟨#[105,110,118,97,108,105,100,32,115,121,110,116,97,120]⟩] 252,
  .cells (r16 9 13 1++r16 32 133 101++r16 160 5760 5600++r16 8192 8202 1++r16 8232 8233 1++r16 8239 8287 48++r16 12288 12288 1).toArray 223,
  .cells #[.slice (some ⟨low+2,0,none⟩) 7 7,.slice none 0 0,.int .i64 2] 220],#[],[]⟩
 { w0 with heap:=setAll [(7,#[.iface 250 (.pointer (some ⟨low,0,none⟩))]),(6,#[.iface 250 (.pointer (some ⟨low+1,0,none⟩))]),(2,#[.pointer (some ⟨low+3,0,none⟩)])] (layIn Tryz.prog (Rows.parseExprsUptoRow.laid.filter fun x=>plainD x.2) w0.heap) }
end Go.Proofs.YtgkhmmlemgikjaaGreatDoor
