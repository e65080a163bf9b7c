/- Part Jl. No condition. -/
import Derived.Test.YtefildelnccljaaGreatJa
set_option linter.unusedVariables false
set_option linter.unusedSimpArgs false
namespace Go.Proofs.YtefildelnccljaaGreat
open Go Go.Shelf Go.RowKit Go.Lib Go.Sort
set_option maxHeartbeats 0 in
theorem closure46 (x y:Int×Int) (W:World):Calls Tryz.prog 46 #[.agg #[.int .i64 x.1,.int .i64 x.2],.agg #[.int .i64 y.1,.int .i64 y.2]] W fun e w' =>
  e=.returned (.int .i64 (if Lib.compareInt x.2 y.2=0 then Lib.compareInt x.1 y.1 else Lib.compareInt x.2 y.2))∧∃q os',w'=grow (W.drewN q) os':=by
 have hcon:=fun W'=>AnyG.cmp_Compare_int Tryz.cmp48 x.2 y.2 W'
 change ∀W',Calls Tryz.prog 48 _ _ _ at hcon
 have hcon2:=fun W'=>AnyG.cmp_Compare_int Tryz.cmp49 x.1 y.1 W'
 change ∀W',Calls Tryz.prog 49 _ _ _ at hcon2
 generalize Lib.compareInt x.1 y.1=r1 at hcon2 ⊢
 generalize Lib.compareInt x.2 y.2=r2 at hcon ⊢
 have hor:=fun b W h0 h1=>or47 b r2 r1 W h0 h1
 generalize (if r2=0 then r1 else r2)=r at hor ⊢
 change ∀b W _ _,Calls Tryz.prog 47 _ _ _ at hor
 go_enter Tryz.func46,Tryz.ntmps46
 go_wp2
 go_region_with (first | (go_at_call 48;refine (hcon _).mono ?_;rintro e w' ⟨rfl,rfl⟩) | (go_at_call 49;refine (hcon2 _).mono ?_;rintro e w' ⟨rfl,rfl⟩) | (go_at_call 47;refine (hor _ _ (by go_simp) (by go_simp)).mono ?_;rintro e w' ⟨rfl,q,rfl⟩))
 all_goals first
  | (go_wp2;go_ret;exact ⟨rfl,1+q,#[_,_,_],by rw [alloc_eq_grow,alloc_eq_grow,alloc_eq_grow,grow_grow,grow_grow];rfl⟩)
  | (go_wp2;go_ret;exact ⟨rfl,1+q,#[_,_,_],by simp [grow,World.alloc,World.drewN]⟩)
end Go.Proofs.YtefildelnccljaaGreat
