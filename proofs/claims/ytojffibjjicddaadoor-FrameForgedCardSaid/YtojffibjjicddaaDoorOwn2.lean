/- make of a slice of cells. -/
import Derived.Test.YtojffibjjicddaaDoorOwn
import Derived.Laws.MakeOwn
namespace Go.Proofs.YtojffibjjicddaaDoor
open Go.RowKit
theorem madeCells_one (z : Value) (n : Nat) : (madeCells #[z] n).toList = List.replicate n z := by
  apply List.ext_getElem?
  intro i
  simp only [madeCells, Array.toList_map, Array.toList_range, List.getElem?_map, List.getElem?_replicate]
  by_cases h : i < n
  · simp [h, Nat.mod_one]
  · simp [h]
/-- make([]T, n, m), T of one cell. -/
theorem wpL_make {P : Program} {ops : Array Oper} {rest : List Oper} {dst : Option Tmp} {l c : Operand} {t tt : TypeId} {pos : String} {af : Array Edge} {a : Act} {w : World} {Q : Exit → Act → World → Prop}
    {E : TypeId} {i : TypeInfo} {z : Value} {kl kc : IntKind} {L C : Int} {n m bytes : Nat} (hl : a.eval l = .int kl L) (hc : a.eval c = .int kc C) (hL : L = (n : Int)) (hC : C = (m : Int))
    (h1 : P.underlying t = some (.slice E)) (h2 : P.info? E = some i) (h3 : i.zero = some z) (h4 : i.size = 1) (hby : i.bytes = bytes) (hz : z.cells = #[z]) (hnm : n ≤ m) (b2 : bytes * m ≤ 140737488355328) (b3 : m ≤ 140737488355328)
    (h : ∀ w', Row w' w.heap.size E (List.replicate m z) → Below w.heap.size w w' → w'.heap.size = w.heap.size + 1 → wpList P ops Q rest (a.put dst (.slice (some ⟨w.heap.size, 0, none⟩) n m)) w') :
    wpList P ops Q (⟨dst, .makeSlice t l c, tt, pos, af, none⟩ :: rest) a w := by
  refine wpList_plain rfl fun K hK' => ?_
  subst hL hC
  subst hby
  have hrun := run_make (P := P) w t E i z h1 h2 h3 kl kc (n : Int) (m : Int) (by omega) (by omega) (by rw [← Int.natCast_mul]; omega) (by omega)
  rw [Int.toNat_natCast, Int.toNat_natCast, h4, Nat.mul_one, hz] at hrun
  unfold Oper.wp
  simp only [execOp, hl, hc, Sem.run_bind, Sem.run_pure, hrun, Result.andThen_ok]
  refine hK' _ _ (h _ ?_ ((Below.refl _ _).alloc (Nat.le_refl _) _) (by simp))
  have h5 := Row.new' w E (madeCells #[z] m)
  rw [madeCells_one] at h5
  exact h5
end Go.Proofs.YtojffibjjicddaaDoor
