/- A store into a slice of one's own. -/
import Derived.Test.YtojffibjjicddaaDoorOwn
namespace Go.Proofs.YtojffibjjicddaaDoor
open Go.RowKit
theorem Own.set {w : World} {base : Nat} {E : TypeId} {n c g o i : Nat} {cs : List Value} (h : Own w base E 1 (.slice (some ⟨g, o, none⟩) n c) n cs) (hi : i < n) (v : Value) :
    Own (w.setCell ⟨g, o + i, none⟩ v) base E 1 (.slice (some ⟨g, o, none⟩) n c) n (cs.set i v) ∧ But (fun k => k = g) w (w.setCell ⟨g, o + i, none⟩ v) ∧ (∃ u, w.cell? ⟨g, o + i, none⟩ = some u) ∧ w.frozen? ⟨g, o + i, none⟩ = false ∧ base ≤ g := by
  rcases h.2 with ⟨h1, _⟩ | ⟨g', off, cap, cur, h1, h2, h3, h4, h5, h6, h7⟩
  · cases h1
  · injection h1 with h1 _ h8
    injection h1 with h1
    injection h1 with h1 h9
    subst h1 h8 h9
    have hl := h.1
    refine ⟨⟨by rw [List.length_set]; exact hl, .inr ⟨g, o, c, cur.set (o + i) v, rfl, h2, h3.set (o + i) v, h4, by rw [List.length_set]; exact h5, h6, ?_⟩⟩, (But.refl _ w).only (Only.setCell w ⟨g, o + i, none⟩ v) (.inl rfl), ⟨cur[o + i]'(by omega), h3.cell (List.getElem?_eq_getElem _)⟩, h3.frozen _, h2⟩
    rw [← h7]
    apply List.ext_getElem?
    intro j
    simp only [List.getElem?_take, List.getElem?_drop, List.getElem?_set]
    by_cases hj : j < n * 1
    · simp only [if_pos hj]
      by_cases e : i = j
      · subst e
        have e2 : i < ((cur.drop o).take (n * 1)).length := by rw [List.length_take, List.length_drop]; omega
        rw [if_pos rfl, if_pos rfl, if_pos e2, if_pos (show o + i < cur.length by omega)]
      · rw [if_neg (by omega), if_neg e]
    · simp only [if_neg hj]
      by_cases e : i = j
      · omega
      · rw [if_neg e]
end Go.Proofs.YtojffibjjicddaaDoor
