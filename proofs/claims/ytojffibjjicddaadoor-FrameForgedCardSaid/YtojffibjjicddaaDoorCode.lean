/- api.Code of nil is 0; of an api.Errno its number, in every world that holds the listed variable. -/
import Derived.Test.YtojffibjjicddaaDoorErr
namespace Go.Proofs.YtojffibjjicddaaDoor
open Go.RowKit Go.Extern.Stop Go.Stop Go.Extern
set_option maxHeartbeats 4000000 in
theorem code_nil (w : World) : Calls Tryd.prog 14 #[.nilIface] w fun e w' => e = .returned (.int .i64 0) ∧ Below w.heap.size w w' := by
  go_enter Tryd.func14, Tryd.ntmps14
  go_wp2
  go_ret
  exact ⟨rfl, (Below.refl _ _).alloc (Nat.le_refl _) _⟩
set_option maxHeartbeats 4000000 in
theorem code_errno (w : World) (n : Int) (hg : Handle w) : Calls Tryd.prog 14 #[.iface 61 (.int .i64 n)] w fun e w' => e = .returned (.int .i64 n) ∧ Below w.heap.size w w' := by
  have HG := veil hg
  clear hg
  go_enter Tryd.func14, Tryd.ntmps14
  go_wp2_with (first
    | (go_at_call 28
       go_must (
        refine (as_hit n _ _ _ (HG.out.below ((Below.refl _ _).alloc (Nat.le_refl _) _)) (by simp; rfl) (by simp)).mono ?_
        rintro e w' ⟨rfl, rfl⟩)))
  go_ret
  refine ⟨rfl, ?_⟩
  repeat (first | exact Below.refl _ _ | (refine Below.alloc ?_ (by first | exact Nat.le_refl _ | (simp; done) | (simp; omega)) _))
end Go.Proofs.YtojffibjjicddaaDoor
