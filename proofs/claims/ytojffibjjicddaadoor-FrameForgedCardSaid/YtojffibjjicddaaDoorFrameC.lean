/- Slices of bytes under one name; frame.Seal and frame.Open as their callers need them. -/
import Derived.Test.YtojffibjjicddaaDoorAwake19
namespace Go.Proofs.YtojffibjjicddaaDoor
open Go.RowKit
/-- A slice that reads as these bytes, of a block that is there. -/
structure Bs (w : World) (v : Value) (xs : List UInt8) : Prop where
  rd : RdB w v xs
  lt : ∀ b, blockOf v = some b → b < w.heap.size
  cap : ∀ A m c, v = .slice A m c → m ≤ c ∧ c ≤ 9223372036854775807
theorem Bs.below {w w' : World} {v : Value} {xs : List UInt8} (h : Bs w v xs) (hb : Below w.heap.size w w') : Bs w' v xs :=
  ⟨h.rd.below hb, fun b hv => Nat.lt_of_lt_of_le (h.lt b hv) hb.size, h.cap⟩
theorem Bs.alloc {w : World} {v : Value} {xs : List UInt8} (h : Bs w v xs) (o : Obj) : Bs (w.alloc o) v xs := h.below ((Below.refl _ _).alloc (Nat.le_refl _) _)
theorem Bs.drewN {w : World} {v : Value} {xs : List UInt8} (h : Bs w v xs) (n : Nat) : Bs (w.drewN n) v xs := ⟨h.rd, h.lt, h.cap⟩
theorem Bs.slice {w : World} {v : Value} {xs : List UInt8} (h : Bs w v xs) : ∃ A c, v = .slice A xs.length c ∧ xs.length ≤ c ∧ c ≤ 9223372036854775807 := by
  obtain ⟨A, c, rfl, _⟩ := h.rd
  exact ⟨A, c, rfl, h.cap _ _ _ rfl⟩
theorem Bs.nil (w : World) : Bs w (.slice none 0 0) [] := ⟨rdB_nil w, fun b h => (by cases h), fun A m c h => by injection h with h1 h2 h3; subst h2 h3; exact ⟨Nat.le_refl _, by decide⟩⟩
theorem Own.bs {w : World} {base : Nat} {E : TypeId} {v : Value} {n : Nat} {xs : List UInt8} (h : Own w base E 1 v n (bcells xs)) : Bs w v xs := by
  refine ⟨h.rdB.1, fun b hb => (h.lt b hb).2, fun A m c e => ?_⟩
  subst e
  have h1 := h.rdB.2
  obtain ⟨A', c', h2⟩ := h.slice
  injection h2 with h2 h3 h4
  subst h3 h4
  exact h.le
/-- What a call made: none of its blocks was there. -/
def New (w : World) (v : Value) : Prop := ∀ b, blockOf v = some b → w.heap.size ≤ b
theorem Own.new {w w' : World} {E : TypeId} {sz : Nat} {v : Value} {n : Nat} {cs : List Value} (h : Own w' w.heap.size E sz v n cs) : New w v := fun b hb => (h.lt b hb).1
def SealOk (dir seq : Int) (n : Nat) : Prop := sidedP dir = true ∧ numberedP seq = true ∧ n ≤ 486
theorem seal_ok (w : World) (kv : Value) (key : List UInt8) (hk : Bs w kv key) (hkl : key.length ≤ 1048576) (dir seq : Int) (bv : Value) (body : List UInt8) (hb : Bs w bv body) (h : SealOk dir seq body.length) :
    Calls Tryd.prog 11 #[kv, .agg #[.int .i64 dir, .int .i64 seq, bv]] w fun e w' => ∃ A c, e = .returned (.tuple #[.slice A (body.length + 26) c, .nilIface]) ∧ Bs w' (.slice A (body.length + 26) c) (sealP key dir.toNat seq.toNat body) ∧ New w (.slice A (body.length + 26) c) ∧ Own w' w.heap.size 5 1 (.slice A (body.length + 26) c) (body.length + 26) (bcells (sealP key dir.toNat seq.toNat body)) ∧ Below w.heap.size w w' := by
  refine (seal_any w kv key hk.rd hk.lt hkl dir seq bv body hb.rd (by have := h.2.2; omega)).mono ?_
  rintro e w1 ⟨ha, hb1⟩
  obtain ⟨A, c, he, ho, _⟩ := ha.ok h.1 h.2.1 h.2.2
  exact ⟨A, c, he, ho.bs, ho.new, ho, hb1⟩
theorem seal_bad (w : World) (kv : Value) (key : List UInt8) (hk : Bs w kv key) (hkl : key.length ≤ 1048576) (dir seq : Int) (bv : Value) (body : List UInt8) (hb : Bs w bv body) (hbl : body.length ≤ 1048576) (h : ¬ SealOk dir seq body.length) :
    Calls Tryd.prog 11 #[kv, .agg #[.int .i64 dir, .int .i64 seq, bv]] w fun e w' => ∃ n, e = .returned (.tuple #[.slice none 0 0, .iface 61 (.int .i64 n)]) ∧ Below w.heap.size w w' := by
  refine (seal_any w kv key hk.rd hk.lt hkl dir seq bv body hb.rd hbl).mono ?_
  rintro e w1 ⟨ha, hb1⟩
  obtain ⟨n, he⟩ := ha.bad h
  exact ⟨n, he, hb1⟩
theorem open_ok (w : World) (kv : Value) (key : List UInt8) (hk : Bs w kv key) (hkl : key.length ≤ 1048576) (dir : Int) (bv : Value) (b : List UInt8) (hb : Bs w bv b) (hbl : b.length ≤ 1048576) (s : Nat) (body : List UInt8) (h : openP key dir b = .ok (s, body)) :
    Calls Tryd.prog 12 #[kv, .int .i64 dir, bv] w fun e w' => ∃ A c, e = .returned (.tuple #[.agg #[.int .i64 dir, .int .i64 (s : Int), .slice A body.length c], .nilIface]) ∧ Bs w' (.slice A body.length c) body ∧ New w (.slice A body.length c) ∧ Below w.heap.size w w' := by
  refine (open_any w kv key hk.rd hk.lt hkl dir bv b hb.rd hb.lt hbl hb.cap).mono ?_
  rintro e w1 ⟨ha, hb1⟩
  obtain ⟨A, c, he, ho, _⟩ := ha.ok h
  exact ⟨A, c, he, ho.bs, ho.new, hb1⟩
theorem open_bad (w : World) (kv : Value) (key : List UInt8) (hk : Bs w kv key) (hkl : key.length ≤ 1048576) (dir : Int) (bv : Value) (b : List UInt8) (hb : Bs w bv b) (hbl : b.length ≤ 1048576) (n : Int) (h : openP key dir b = .error n) :
    Calls Tryd.prog 12 #[kv, .int .i64 dir, bv] w fun e w' => e = .returned (.tuple #[.agg #[.int .i64 0, .int .i64 0, .slice none 0 0], .iface 61 (.int .i64 n)]) ∧ Below w.heap.size w w' := by
  refine (open_any w kv key hk.rd hk.lt hkl dir bv b hb.rd hb.lt hbl hb.cap).mono ?_
  rintro e w1 ⟨ha, hb1⟩
  exact ⟨ha.bad h, hb1⟩
end Go.Proofs.YtojffibjjicddaaDoor
