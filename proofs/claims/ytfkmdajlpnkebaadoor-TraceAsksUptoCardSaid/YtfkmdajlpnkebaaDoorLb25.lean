/- THE LIBRARY's CONTRACTS AT THIS DUMP, as functions of the evaluator (chapter 25). No condition. -/
import Derived.Test.YtfkmdajlpnkebaaDoorSh25
import Derived.Test.YtfkmdajlpnkebaaDoorAi29
namespace Go.Proofs.YtfkmdajlpnkebaaDoor
open Go.Shelf

theorem enters27 : ∀ args w, (callFunc 27 args).run Tryd.prog w = .ok (.enter 27 args) w := enters_of Tryd.func27 (by kernel_rfl) rfl
theorem enters21 : ∀ args w, (callFunc 21 args).run Tryd.prog w = .ok (.enter 21 args) w := enters_of Tryd.func21 (by kernel_rfl) rfl
theorem enters31 : ∀ args w, (callFunc 31 args).run Tryd.prog w = .ok (.enter 31 args) w := enters_of Tryd.func31 (by kernel_rfl) rfl
theorem enters20 : ∀ args w, (callFunc 20 args).run Tryd.prog w = .ok (.enter 20 args) w := enters_of Tryd.func20 (by kernel_rfl) rfl

open Ai

theorem copy27 {gl : List (Nat × AV)} {A : AProg} {B : World → Prop} {args : List AV} {st : St} {o : AOut} {st' : St} (hh : copyA 48 args st = some (o, st')) : TaskOk Tryd.prog gl A B (.call 27 args) st (outRes st' o) :=
  copy_task enters27 (fun b w h => Any.Builder_copyCheck_used (P := Tryd.prog) (ρ := Tryd.lays156_ren) { Tryd.lays156 with } Tryd.bx156.toX72 b w h)
    (fun b w h1 h2 h3 => Any.Builder_copyCheck_fresh (P := Tryd.prog) (ρ := Tryd.lays156_ren) { Tryd.lays156 with } Tryd.bx156.toX72 b w h1 h2 h3) hh
theorem string21 {gl : List (Nat × AV)} {A : AProg} {B : World → Prop} {args : List AV} {st : St} {o : AOut} {st' : St} (hh : stringA 48 5 args st = some (o, st')) : TaskOk Tryd.prog gl A B (.call 21 args) st (outRes st' o) :=
  string_task enters21 (fun b w h => builder_string_nil (P := Tryd.prog) (ρ := Tryd.lays169_ren) Tryd.lays169 Tryd.bx169 b w h)
    (fun b g cap cur fr l w h0 h1 h2 h3 h4 h5 h6 => builder_string_row (P := Tryd.prog) (ρ := Tryd.lays169_ren) Tryd.lays169 Tryd.bx169 b g cap cur fr l w h0 h1 h2 h3 h4 h5 h6) hh
theorem join31 {gl : List (Nat × AV)} {B : World → Prop} : PureOk Tryd.prog gl B 31 joinA :=
  join_ok enters31 (fun a c sep w => Any.strings_Join_none (P := Tryd.prog) (ρ := Tryd.lays156_ren) Tryd.lays156 Tryd.bx156 a c sep w)
    (fun bk o c xs sep w h1 h2 h3 h4 h5 => Any.strings_Join (P := Tryd.prog) (ρ := Tryd.lays156_ren) Tryd.lays156 Tryd.bx156 bk o c xs sep w h1 h2 h3 h4 h5)
theorem itoa20 {gl : List (Nat × AV)} {B : World → Prop} (hB : ∀ w, B w → Lib.TabIs Tryd.prog w pow10Name .u64 Lib.pow10Tab) : PureOk Tryd.prog gl B 20 itoaA :=
  itoa_ok hB enters20 (fun n w h0 h1 ht => Any.strconv_Itoa (P := Tryd.prog) (ρ := Tryd.lays171_ren) Tryd.lays171 n h0 h1 w ht)
#print axioms copy27
#print axioms string21
#print axioms join31
#print axioms itoa20
end Go.Proofs.YtfkmdajlpnkebaaDoor
