/- slices.Clone of one part. -/
import Derived.Test.YtojffibjjicddaaDoorMac1
import Derived.Lib.AppendZerosOnto
import Derived.Lib.Overlaps
import Derived.Lib.SliceRun
namespace Go.Proofs.YtojffibjjicddaaDoor
open Go.RowKit
theorem addr0 (g off : Nat) : (⟨g, off, none⟩ : Addr).add 0 = ⟨g, off, none⟩ := by unfold Addr.add; split <;> simp_all
theorem info_sl : ∃ i, Tryd.prog.info? 22 = some i ∧ i.zero = some (.slice none 0 0) ∧ i.size = 1 ∧ i.bytes = 24 := by
  obtain ⟨i, h1, h2, h3, h4⟩ := info_parts (show (Tryd.prog.info? 22).map (fun i => (i.zero, i.size, i.bytes)) = some (some (.slice none 0 0), 1, 24) by kernel_rfl)
  exact ⟨i, h1, h2, h3, h4⟩
set_option maxRecDepth 100000 in
set_option maxHeartbeats 1000000 in
theorem clonep_any (w : World) (g off c : Nat) (u : Value) (hu : w.cell? ⟨g, off, none⟩ = some u) (h1 : u.oneCell' = true) :
    Calls Tryd.prog 40 #[.slice (some ⟨g, off, none⟩) 1 c] w fun e w' => ∃ r, e = .returned r ∧ Own w' w.heap.size 22 1 r 1 [u] ∧ Below w.heap.size w w' := by
  have HU := veil hu
  have H1 := veil h1
  obtain ⟨i5, hi5, hz5, hs5, hb5⟩ := info_sl
  have I5 := veil (And.intro hi5 (And.intro hz5 (And.intro hs5 hb5)))
  clear hu h1 hi5 hz5 hs5 hb5
  go_enter Tryd.func40, Tryd.ntmps40
  have heq := Lib.run_eql_slice_nil (P := Tryd.prog) w 71 _ (some ⟨g, off, none⟩) 1 c 0 0 Tryd.underlying71
  go_wp2_with (first
    | (simp only [heq]; done)
    | simp only [heq]
    | (at_builtin
       with_reducible apply wpL_append (m := 1) (news := [u]) (base := w.heap.size)
       go_must (
        · rfl
        · rfl
        · exact Tryd.underlying71
        · exact I5.out.1
        · exact I5.out.2.1
        · exact I5.out.2.2.1
        · exact I5.out.2.2.2
        · rfl
        · exact Own.made (cs := []) (Row.newAt (w := w) 22 [] rfl) (Nat.le_refl 0) rfl (Nat.zero_le _) w.heap.size (Nat.le_refl _)
        · exact Src.ofSlice _ Tryd.underlying71 ⟨g, off, none⟩ 1 c [u] rfl (fun j u' hj => by
            obtain ⟨rfl, rfl⟩ : j = 0 ∧ u' = u := by
              rcases j with _ | j
              · simpa using hj.symm
              · simp at hj
            rw [addr0]; exact (((Below.refl w.heap.size w).alloc (Nat.le_refl _) _).cell (block_lt_of_cell HU.out)).trans HU.out) (by simpa using H1.out)
        · omega
        · omega
        · simp
        intro v2 w2 ho2 hbu2 hbk2 _)))
  go_ret
  exact ⟨_, rfl, ho2, ((((But.refl (fun _ => False) w).alloc _).own hbu2 (fun i hi => .inr (by have h7 := Option.some.inj (show some w.heap.size = some i from hi); omega))).below (fun _ _ hf => hf))⟩
end Go.Proofs.YtojffibjjicddaaDoor
