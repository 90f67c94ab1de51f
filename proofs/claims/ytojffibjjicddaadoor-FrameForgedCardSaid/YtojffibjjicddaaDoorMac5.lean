/- mac.Tag is tag. -/
import Derived.Test.YtojffibjjicddaaDoorMac4
import Derived.Laws.Cover3
namespace Go.Proofs.YtojffibjjicddaaDoor
open Go.RowKit
set_option maxRecDepth 100000 in
set_option maxHeartbeats 1000000 in
theorem tag_any (w : World) (kv : Value) (key : List UInt8) (hk : RdB w kv key) (hkb : ∀ b, blockOf kv = some b → b < w.heap.size) (hkl : key.length ≤ 1048576)
    (g off c : Nat) (u : Value) (part : List UInt8) (hu : w.cell? ⟨g, off, none⟩ = some u) (hup : RdB w u part) (hub : ∀ b, blockOf u = some b → b < w.heap.size) (hpl : part.length ≤ 1048576) :
    Calls Tryd.prog 25 #[kv, .slice (some ⟨g, off, none⟩) 1 c] w fun e w' => e = .returned (.agg (bcells (tag key part)).toArray) ∧ Below w.heap.size w w' := by
  have HK := veil hk
  have HKB := veil hkb
  have HU := veil hu
  have HUP := veil hup
  have HUB := veil hub
  have HKL := veil hkl
  have HPL := veil hpl
  clear hk hkb hu hup hub hkl hpl
  go_enter Tryd.func25, Tryd.ntmps25
  go_upto_region 1 with (fail)
  generalize hW1 : w.alloc _ = w1
  have RW := veil (show Row w1 w.heap.size 62 (List.replicate 16 (.int .u8 0)) by rw [← hW1]; exact Row.newAt _ _ rfl)
  have BW := veil (show Below w.heap.size w w1 by rw [← hW1]; exact (Below.refl _ _).alloc (Nat.le_refl _) _)
  have hw1 : w1.heap.size = w.heap.size + 1 := by rw [← hW1]; simp
  clear hW1
  go_upto_region 2 with (first
    | (go_at_call 31
       go_must (
        refine (code_any w1 kv key (HK.out.below BW.out) (fun b hb => by have := HKB.out b hb; omega) HKL.out g off c u part ((BW.out.cell (block_lt_of_cell HU.out)).trans HU.out) (HUP.out.below BW.out) (fun b hb => by have := HUB.out b hb; omega) HPL.out).mono ?_
        rintro e w2 ⟨rfl, hb2⟩
        have B2 := veil hb2
        have b2 := hb2.size
        clear hb2
        have hbl := veil (show (bcells (hmac key part)).length = 32 by rw [bcells_length]; exact sha_length _)
        have htk := veil (show (bcells (hmac key part)).take 16 = bcells (tag key part) by unfold tag bcells; rw [List.map_take])
        have htl := veil (show (bcells (tag key part)).length = 16 by rw [bcells_length]; exact tag_length _ _)
        have h1c := veil (bcells_one (hmac key part))
        have h1t := veil (bcells_one (tag key part))
        generalize hby : bcells (hmac key part) = by_ at hbl h1c htk
        generalize htg : bcells (tag key part) = tg at htl htk h1t
        have HTG := veil htg
        clear hby htg))
    | (with_reducible apply wpL_store
       go_must (
        · rfl
        · rfl
        · exact Row.newAt (w := w2) 72 (List.replicate 32 (.int .u8 0)) rfl
        · rw [hbl.out]; decide
        · exact h1c.out
        · rw [hbl.out]; kernel_rfl
        intro w3 hr3 ho3)))
  have h3 := veil (hr3.whole (n := 32) rfl hbl.out)
  have RW3 := veil (ho3.row (((RW.out.below B2.out).alloc _)) (by omega))
  have BF := veil (show Below w.heap.size w w3 from (((((But.of_below (S := fun _ => False) BW.out).trans (But.of_below B2.out)).alloc _).only ho3 (.inr (by omega))).below (fun _ _ hf => hf)))
  clear hr3 ho3 RW
  have hat : (Instr.arrayAt 62 (.slice (some ⟨w2.heap.size, 0, none⟩) 16 32)).run Tryd.prog w3 = .ok (.pointer (some ⟨w2.heap.size, 0, none⟩)) w3 := by
    apply run_arrayAt
    · exact Tryd.underlying62
    · decide
  go_wp2_with (first
    | simp only [hat]
    | (with_reducible apply wpL_load (vs := tg)
       go_must (
        · rfl
        · exact fun j v hj => by
            rw [Nat.zero_add]
            refine h3.out.cell ?_
            rw [← htk.out, List.getElem?_take] at hj
            split at hj
            · exact hj
            · cases hj
        · exact Tryd.underlying62
        · rfl
        · rw [htl.out]; kernel_rfl))
    | (with_reducible apply wpL_store
       go_must (
        · rfl
        · rfl
        · exact RW3.out
        · rw [htl.out]; decide
        · exact h1t.out
        · rw [htl.out]; kernel_rfl
        intro w6 hr6 ho6)))
  have h6 := hr6.whole (n := 16) rfl htl.out
  exact bodyPost_ret (results_cell_row rfl _ _ _ _ _ _ _ rfl h6 Tryd.underlying62 rfl (by rw [List.size_toArray, htl.out]; kernel_rfl)) rfl ⟨by rw [HTG.out], ho6.below BF.out (Nat.le_refl _)⟩
end Go.Proofs.YtojffibjjicddaaDoor
