/- The reference's Tag is tag; its Seal writes what sealP says. -/
import Derived.Test.YtojffibjjicddaaDoorR4
namespace Go.Proofs.YtojffibjjicddaaDoor
open Go.RowKit
set_option linter.unusedVariables false
set_option linter.unusedSimpArgs false
set_option maxRecDepth 100000 in
set_option maxHeartbeats 4000000 in
theorem tagR_any (w : World) (kv tv : Value) (key text : List UInt8) (hk : Bs w kv key) (ht : Bs w tv text) (hkl : key.length ≤ 1000000) (htl : text.length ≤ 1000000) :
    Calls Tryd.prog 29 #[kv, tv] w fun e w' => ∃ A c, e = .returned (.slice A 16 c) ∧ Own w' w.heap.size 5 1 (.slice A 16 c) 16 (bcells (tag key text)) ∧ Below w.heap.size w w' := by
  have HC := veil (codeR_any w kv tv key text hk ht hkl htl)
  have hl := veil (show (bcells (hmac key text)).length = 32 by rw [bcells_length]; exact sha_length _)
  have h1 := veil (bcells_one (hmac key text))
  have HT := veil (show bcells (tag key text) = (bcells (hmac key text)).take 16 by unfold tag bcells; rw [List.map_take])
  have HTL := veil (tag_length key text)
  generalize bcells (hmac key text) = hb at HC hl h1 HT
  obtain ⟨i5, hi5, hz5, hs5, hb5⟩ := info_u8
  have I5 := veil (And.intro hi5 (And.intro hz5 (And.intro hs5 hb5)))
  clear hk ht hi5 hz5 hs5 hb5
  go_enter Tryd.func29, Tryd.ntmps29
  go_wp2_with (first
    | (go_at_call 36
       go_must (
        with_reducible refine HC.out.mono ?_
        rintro e w1 ⟨rfl, hb1⟩
        have B1 := veil hb1
        have b1 := hb1.size
        clear hb1))
    | (with_reducible apply wpL_store (vs := hb)
       go_must (
        · rfl
        · rfl
        · exact Row.newAt (w := w1) 72 (List.replicate 32 (.int .u8 0)) rfl
        · rw [hl.out]; exact Nat.le_refl 32
        · exact h1.out
        · rw [hl.out]; kernel_rfl
        intro w2 hr2 ho2
        have R2 := veil (hr2.whole (n := 32) rfl hl.out)
        have B2 := veil ((((But.of_below (S := fun _ => False) B1.out).alloc _).only ho2 (.inr (by omega))).below (fun _ _ hf => hf))
        have b2 := B2.out.size
        clear hr2 ho2))
    | (at_builtin
       with_reducible apply wpL_append (m := 16) (news := bcells (tag key text)) (base := w.heap.size)
       go_must (
        · rfl
        · rfl
        · exact Tryd.underlying22
        · exact I5.out.1
        · exact I5.out.2.1
        · exact I5.out.2.2.1
        · exact I5.out.2.2.2
        · rfl
        · exact Own.made (cs := []) (Row.newAt (w := w2) 5 [] rfl) (Nat.le_refl 0) rfl (Nat.zero_le _) w.heap.size b2
        · have h9 := Own.made (n := 16) (cap := 32) (sz := 1) (R2.out.alloc (.cells #[] 5)) (by omega) (by rw [hl.out]) (by omega) 0 (Nat.zero_le _)
          rw [← HT.out] at h9
          have h8 := h9.rdB.1.src (P := Tryd.prog) Tryd.underlying22
          rw [HTL.out] at h8
          exact h8
        · omega
        · omega
        · simp; omega
        intro v3 w3 ho3 hbu3 hbk3 _)))
  go_ret
  obtain ⟨A3, c3, rfl⟩ := ho3.slice
  exact ⟨A3, c3, rfl, ho3, ((((But.of_below (S := fun _ => False) B2.out).alloc _).own hbu3 (fun i hi => .inr (by have h7 := Option.some.inj (show some w2.heap.size = some i from hi); omega))).below (fun _ _ hf => hf))⟩
end Go.Proofs.YtojffibjjicddaaDoor
