/- Contracts of frame.sided, frame.numbered and slices.Clone of bytes, for every argument. -/
import Derived.Test.YtojffibjjicddaaDoorMac5
import Derived.Test.YtojffibjjicddaaDoorMac6
namespace Go.Proofs.YtojffibjjicddaaDoor
open Go.RowKit
def sidedP (d : Int) : Bool := d == 0 || d == 1
def numberedP (s : Int) : Bool := decide (1 ≤ s ∧ s ≤ 4611686018427387904)
set_option maxRecDepth 100000 in
set_option maxHeartbeats 1000000 in
theorem sided_any (w : World) (d : Int) : Calls Tryd.prog 23 #[.int .i64 d] w fun e w' => e = .returned (.bool (sidedP d)) ∧ w' = w := by
  go_enter Tryd.func23, Tryd.ntmps23
  by_cases h0 : d = 0
  · subst h0
    go_wp2
    go_ret
    exact ⟨rfl, rfl⟩
  · go_wp2
    go_ret
    exact ⟨rfl, rfl⟩
set_option maxRecDepth 100000 in
set_option maxHeartbeats 1000000 in
theorem numbered_any (w : World) (d : Int) : Calls Tryd.prog 24 #[.int .i64 d] w fun e w' => e = .returned (.bool (numberedP d)) ∧ w' = w := by
  go_enter Tryd.func24, Tryd.ntmps24
  by_cases h0 : 1 ≤ d
  · have HP := veil (show numberedP d = decide (d ≤ 4611686018427387904) by unfold numberedP; simp [h0])
    go_wp2
    go_ret
    exact ⟨by rw [HP.out]; rfl, rfl⟩
  · have HP := veil (show numberedP d = false by unfold numberedP; simp; omega)
    go_wp2
    go_ret
    exact ⟨by rw [HP.out]; rfl, rfl⟩
set_option maxRecDepth 100000 in
set_option maxHeartbeats 1000000 in
theorem cloneb_any (w : World) (g off c : Nat) (xs : List UInt8) (h : RdB w (.slice (some ⟨g, off, none⟩) xs.length c) xs) (hl : xs.length ≤ 1048576) :
    Calls Tryd.prog 27 #[.slice (some ⟨g, off, none⟩) xs.length c] w fun e w' => ∃ r, e = .returned r ∧ Own w' w.heap.size 5 1 r xs.length (bcells xs) ∧ Below w.heap.size w w' := by
  have HR := veil h
  obtain ⟨i5, hi5, hz5, hs5, hb5⟩ := info_u8
  have I5 := veil (And.intro hi5 (And.intro hz5 (And.intro hs5 hb5)))
  generalize hn : xs.length = n at HR hl
  have HN := veil hn
  clear h hi5 hz5 hs5 hb5 hn
  go_enter Tryd.func27, Tryd.ntmps27
  have heq := Lib.run_eql_slice_nil (P := Tryd.prog) w 22 _ (some ⟨g, off, none⟩) n c 0 0 Tryd.underlying22
  go_wp2_with (first
    | simp only [heq]
    | (at_builtin
       with_reducible apply wpL_append (m := xs.length) (news := bcells xs) (base := w.heap.size)
       go_must (
        · rfl
        · rfl
        · exact Tryd.underlying22
        · exact I5.out.1
        · exact I5.out.2.1
        · exact I5.out.2.2.1
        · exact I5.out.2.2.2
        · rfl
        · exact Own.made (cs := []) (Row.newAt (w := w) 5 [] rfl) (Nat.le_refl 0) rfl (Nat.zero_le _) w.heap.size (Nat.le_refl _)
        · exact (HR.out.below ((Below.refl _ _).alloc (Nat.le_refl _) _)).src Tryd.underlying22
        · rw [HN.out]; omega
        · rw [HN.out]; omega
        · simp
        intro v2 w2 ho2 hbu2 hbk2 _)))
  go_ret
  rw [Nat.zero_add, HN.out] at ho2
  exact ⟨_, rfl, ho2, ((((But.refl (fun _ => False) w).alloc _).own hbu2 (fun i hi => .inr (by have h7 := Option.some.inj (show some w.heap.size = some i from hi); omega))).below (fun _ _ hf => hf))⟩
end Go.Proofs.YtojffibjjicddaaDoor
