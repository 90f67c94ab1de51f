/- Words for all walks of this seat: bits of numbers, rows of bytes, worlds that grow. -/
import Derived.WalkKit
import Derived.Deep.QuietTactic
import Derived.BigQuiet
import Derived.Lib.Hide
import Derived.Lib.ConvBytes
namespace Go.Proofs.YtojffibjjicddaaDoor
open Go.RowKit

/-- A fact that no tactic looks into. -/
structure Veil (p : Prop) : Prop where
  out : p
theorem veil {p : Prop} (h : p) : Veil p := ⟨h⟩

/-! ### Numbers -/
theorem or_u32 (a b : Nat) (ha : a < 4294967296) (hb : b < 4294967296) : bits .or .u32 (a : Int) (b : Int) = ((a ||| b : Nat) : Int) :=
  (bits_nat .u32 32 (by decide) (fun n h0 h1 => by rw [IntKind.wrap_u32]; omega) a b (by simpa using ha) (by simpa using hb)).2
theorem and_u32 (a b : Nat) (ha : a < 4294967296) (hb : b < 4294967296) : bits .and .u32 (a : Int) (b : Int) = ((a &&& b : Nat) : Int) :=
  (bits_nat .u32 32 (by decide) (fun n h0 h1 => by rw [IntKind.wrap_u32]; omega) a b (by simpa using ha) (by simpa using hb)).1
theorem xor_nat (k : IntKind) (j : Nat) (hj : j ≤ k.bits) (hk : ∀ n : Int, 0 ≤ n → n < 2 ^ j → k.wrap n = n) (a b : Nat) (ha : a < 2 ^ j) (hb : b < 2 ^ j) :
    bits .xor k a b = ((a ^^^ b : Nat) : Int) := by
  have hp : 2 ^ j ≤ 2 ^ k.bits := Nat.pow_le_pow_right (by decide) hj
  have ha' : a % 2 ^ k.bits = a := Nat.mod_eq_of_lt (Nat.lt_of_lt_of_le ha hp)
  have hb' : b % 2 ^ k.bits = b := Nat.mod_eq_of_lt (Nat.lt_of_lt_of_le hb hp)
  simp only [bits, BitVec.ofInt_natCast, BitVec.toNat_xor, BitVec.toNat_ofNat, ha', hb']
  exact hk _ (Int.natCast_nonneg _) (by exact_mod_cast Nat.xor_lt_two_pow ha hb)
theorem xor_u32 (a b : Nat) (ha : a < 4294967296) (hb : b < 4294967296) : bits .xor .u32 (a : Int) (b : Int) = ((a ^^^ b : Nat) : Int) :=
  xor_nat .u32 32 (by decide) (fun n h0 h1 => by rw [IntKind.wrap_u32]; omega) a b (by simpa using ha) (by simpa using hb)
theorem or_u8 (a b : Nat) (ha : a < 256) (hb : b < 256) : bits .or .u8 (a : Int) (b : Int) = ((a ||| b : Nat) : Int) :=
  (bits_nat .u8 8 (by decide) (fun n h0 h1 => by rw [IntKind.wrap_u8]; omega) a b (by simpa using ha) (by simpa using hb)).2
theorem xor_u8 (a b : Nat) (ha : a < 256) (hb : b < 256) : bits .xor .u8 (a : Int) (b : Int) = ((a ^^^ b : Nat) : Int) :=
  xor_nat .u8 8 (by decide) (fun n h0 h1 => by rw [IntKind.wrap_u8]; omega) a b (by simpa using ha) (by simpa using hb)
theorem xor_i64 (a b : Nat) (ha : a < 9223372036854775808) (hb : b < 9223372036854775808) : bits .xor .i64 (a : Int) (b : Int) = ((a ^^^ b : Nat) : Int) :=
  xor_nat .i64 63 (by decide) (fun n h0 h1 => by rw [IntKind.wrap_i64]; omega) a b (by simpa using ha) (by simpa using hb)
theorem and_i64 (a b : Nat) (ha : a < 9223372036854775808) (hb : b < 9223372036854775808) : bits .and .i64 (a : Int) (b : Int) = ((a &&& b : Nat) : Int) :=
  (bits_nat .i64 63 (by decide) (fun n h0 h1 => by rw [IntKind.wrap_i64]; omega) a b (by simpa using ha) (by simpa using hb)).1
theorem or_i64 (a b : Nat) (ha : a < 9223372036854775808) (hb : b < 9223372036854775808) : bits .or .i64 (a : Int) (b : Int) = ((a ||| b : Nat) : Int) :=
  (bits_nat .i64 63 (by decide) (fun n h0 h1 => by rw [IntKind.wrap_i64]; omega) a b (by simpa using ha) (by simpa using hb)).2

theorem join_u32 (a b i : Nat) (ha : a < 4294967296) (hm : a % 2 ^ i = 0) (hb : b < 2 ^ i) (hi : i ≤ 32) : bits .or .u32 (a : Int) (b : Int) = ((a + b : Nat) : Int) := by
  have hb' : b < 2 ^ 32 := Nat.lt_of_lt_of_le hb (Nat.pow_le_pow_right (by decide) hi)
  have := bits_join .u32 32 (by decide) (fun n h0 h1 => by rw [IntKind.wrap_u32]; omega) i (a : Int) (b : Int) (by omega) (by exact_mod_cast hm) (by omega) (by omega) (by exact_mod_cast hb) (by omega)
  rw [this]; simp
theorem or4_u32 (x0 x1 x2 x3 : Nat) (h0 : x0 < 256) (h1 : x1 < 256) (h2 : x2 < 256) (h3 : x3 < 256) :
    bits .or .u32 (bits .or .u32 (bits .or .u32 ((x0 : Int) * 16777216) ((x1 : Int) * 65536)) ((x2 : Int) * 256)) (x3 : Int) = ((16777216 * x0 + 65536 * x1 + 256 * x2 + x3 : Nat) : Int) := by
  rw [show ((x0 : Int) * 16777216) = ((x0 * 16777216 : Nat) : Int) by omega, show ((x1 : Int) * 65536) = ((x1 * 65536 : Nat) : Int) by omega, show ((x2 : Int) * 256) = ((x2 * 256 : Nat) : Int) by omega,
    join_u32 _ _ 24 (by omega) (by omega) (by omega) (by decide), join_u32 _ _ 16 (by omega) (by omega) (by omega) (by decide), join_u32 _ _ 8 (by omega) (by omega) (by omega) (by decide)]
  congr 1
  omega
theorem shr3 (x : Nat) : ((x : Int) / (8 : Int)) = ((x >>> 3 : Nat) : Int) := by rw [Nat.shiftRight_eq_div_pow]; omega
theorem shr10 (x : Nat) : ((x : Int) / (1024 : Int)) = ((x >>> 10 : Nat) : Int) := by rw [Nat.shiftRight_eq_div_pow]; omega
theorem ret_of {k : IntKind} {a b : Int} (h : a = b) : Ending.returned (.int k a) = .returned (.int k b) := by rw [h]
theorem ret_bool {a b : Bool} (h : a = b) : Ending.returned (.bool a) = .returned (.bool b) := by rw [h]

/-! ### A piece of a string -/
theorem run_slice_str {P : Program} (w : World) (t : TypeId) (ht : P.underlying t = some .string) (s : ByteArray) (kl kh : IntKind) (li hi : Int) (l h : Nat) (el : li = l) (eh : hi = h) (h1 : l ≤ h) (h2 : h ≤ s.size) :
    (Instr.slice t (.string s) (some (.int kl li)) (some (.int kh hi)) none).run P w = .ok (.string (s.extract l h)) w := by
  subst el; subst eh
  simp [Instr.slice, run_underlying ht, Instr.sliceBounds, run_sliceBound, h1, h2]

theorem extract_getD (s : ByteArray) (a b k : Nat) (h : a + k < b) (_hb : b ≤ s.size) : (s.extract a b).data.toList.getD k 0 = s.data.toList.getD (a + k) 0 := by
  have h1 : (s.extract a b).data.toList = (s.data.toList.drop a).take (b - a) := by
    simp [ByteArray.data_extract, Array.toList_extract, List.extract_eq_take_drop]
  rw [h1, List.getD_eq_getElem?_getD, List.getD_eq_getElem?_getD, List.getElem?_take, if_pos (by omega), List.getElem?_drop]

/-! ### Worlds that grow -/
theorem below_bytes (w : World) (e : TypeId) (s : ByteArray) : Below w.heap.size w (Lib.bytesWorld w e s) :=
  ⟨rfl, rfl, rfl, by rw [Lib.bytesWorld_size]; omega, fun k hk => Lib.bytesWorld_at_old w e s k hk⟩
theorem below_drewN {B : Nat} {a w : World} (h : Below B a w) (n : Nat) : Below B a (w.drewN n) := ⟨h.os, h.tape, h.output, h.size, h.block⟩
theorem below_undrewN {w w' : World} {n : Nat} (h : Below (w.drewN n).heap.size (w.drewN n) w') : Below w.heap.size w w' := ⟨h.os, h.tape, h.output, h.size, h.block⟩
/-- Two calls, one behind the other. -/
theorem below_step {B : Nat} {w w1 w2 : World} (h : Below B w w1) (hB : B ≤ w1.heap.size) (k : Below w1.heap.size w1 w2) : Below B w w2 := h.trans (k.mono hB)

/-- Block B holds these cells, of type T; none is frozen. -/
def Row (w : World) (B : Nat) (T : TypeId) (cs : List Value) : Prop := w.heap[B]? = some (.cells cs.toArray T (0, 0))
theorem Row.lt {w : World} {B : Nat} {T : TypeId} {cs : List Value} (h : Row w B T cs) : B < w.heap.size := (Array.getElem?_eq_some_iff.1 h).1
theorem Row.cell {w : World} {B : Nat} {T : TypeId} {cs : List Value} (h : Row w B T cs) {i : Nat} {v : Value} (hi : cs[i]? = some v) : w.cell? ⟨B, i, none⟩ = some v := by
  rw [cell_of_row w B i _ T _ h]; simpa using hi
theorem Row.frozen {w : World} {B : Nat} {T : TypeId} {cs : List Value} (h : Row w B T cs) (i : Nat) : w.frozen? ⟨B, i, none⟩ = false := frozen_of_row w B i _ T h
theorem Row.set {w : World} {B : Nat} {T : TypeId} {cs : List Value} (h : Row w B T cs) (i : Nat) (v : Value) : Row (w.setCell ⟨B, i, none⟩ v) B T (cs.set i v) := by
  have := heap_setCell_same w B i _ T v h
  unfold Row
  rw [this]
  simp
theorem Row.other {w : World} {B : Nat} {T : TypeId} {cs : List Value} (h : Row w B T cs) (a : Addr) (v : Value) (hne : B ≠ a.block) : Row (w.setCell a v) B T cs := by
  unfold Row; rw [heap_setCell_other w a B v hne]; exact h
theorem Row.new (w : World) (T : TypeId) (cs : List Value) : Row (w.alloc (.cells cs.toArray T)) w.heap.size T cs := heap_alloc_new w _
theorem Row.newAt {w : World} {B : Nat} (T : TypeId) (cs : List Value) (h : w.heap.size = B) : Row (w.alloc (.cells cs.toArray T)) B T cs := by subst h; exact Row.new w T cs
theorem Row.new' (w : World) (T : TypeId) (cs : Array Value) : Row (w.alloc (.cells cs T)) w.heap.size T cs.toList := by unfold Row; rw [heap_alloc_new]
theorem Row.alloc {w : World} {B : Nat} {T : TypeId} {cs : List Value} (h : Row w B T cs) (o : Obj) : Row (w.alloc o) B T cs := by
  unfold Row; rw [Below.heap_alloc w o B h.lt]; exact h
theorem Row.below {w w' : World} {B : Nat} {T : TypeId} {cs : List Value} (h : Row w B T cs) (hb : Below w.heap.size w w') : Row w' B T cs := by
  unfold Row; rw [hb.block B h.lt]; exact h
theorem Row.below' {w w' : World} {B S : Nat} {T : TypeId} {cs : List Value} (h : Row w B T cs) (hb : Below S w w') (hS : B < S) : Row w' B T cs := by
  unfold Row; rw [hb.block B hS]; exact h
theorem Row.drewN {w : World} {B : Nat} {T : TypeId} {cs : List Value} (h : Row w B T cs) (n : Nat) : Row (w.drewN n) B T cs := h
theorem Row.drew {w : World} {B : Nat} {T : TypeId} {cs : List Value} (h : Row w B T cs) : Row w.drew B T cs := h

/-- Only block B has turned. -/
structure Only (B : Nat) (w w' : World) : Prop where
  os : w'.os = w.os
  tape : w'.tape = w.tape
  output : w'.output = w.output
  size : w'.heap.size = w.heap.size
  block : ∀ k, k ≠ B → w'.heap[k]? = w.heap[k]?
theorem Only.below {B S : Nat} {w0 w w' : World} (h : Below S w0 w) (k : Only B w w') (hB : S ≤ B) : Below S w0 w' :=
  h.trans ⟨k.os, k.tape, k.output, by rw [k.size]; exact Nat.le_refl _, fun i hi => k.block i (by omega)⟩
theorem Only.row {B C : Nat} {w w' : World} {T : TypeId} {cs : List Value} (k : Only B w w') (h : Row w C T cs) (hne : C ≠ B) : Row w' C T cs := by
  unfold Row; rw [k.block C hne]; exact h

/-- Of what was there only blocks of S have turned. -/
structure But (S : Nat → Prop) (w w' : World) : Prop where
  os : w'.os = w.os
  tape : w'.tape = w.tape
  output : w'.output = w.output
  size : w.heap.size ≤ w'.heap.size
  block : ∀ k, k < w.heap.size → ¬ S k → w'.heap[k]? = w.heap[k]?
theorem But.refl (S : Nat → Prop) (w : World) : But S w w := ⟨rfl, rfl, rfl, Nat.le_refl _, fun _ _ _ => rfl⟩
theorem But.trans {S : Nat → Prop} {a b c : World} (h : But S a b) (k : But S b c) : But S a c :=
  ⟨k.os.trans h.os, k.tape.trans h.tape, k.output.trans h.output, Nat.le_trans h.size k.size, fun i hi hs => (k.block i (Nat.lt_of_lt_of_le hi h.size) hs).trans (h.block i hi hs)⟩
theorem But.of_below {S : Nat → Prop} {w w' : World} (h : Below w.heap.size w w') : But S w w' := ⟨h.os, h.tape, h.output, h.size, fun i hi _ => h.block i hi⟩
theorem But.mono {S S' : Nat → Prop} {w w' : World} (h : But S w w') (hs : ∀ k, k < w.heap.size → S k → S' k) : But S' w w' := ⟨h.os, h.tape, h.output, h.size, fun i hi hn => h.block i hi fun e => hn (hs i hi e)⟩
/-- What the call made by itself may turn as it likes. -/
theorem But.own {S S' : Nat → Prop} {a b c : World} (h : But S a b) (k : But S' b c) (hs : ∀ i, S' i → S i ∨ a.heap.size ≤ i) : But S a c :=
  ⟨k.os.trans h.os, k.tape.trans h.tape, k.output.trans h.output, Nat.le_trans h.size k.size, fun i hi hn => (k.block i (Nat.lt_of_lt_of_le hi h.size) (fun e => by rcases hs i e with h1 | h1; exact hn h1; omega)).trans (h.block i hi hn)⟩
theorem But.below {w w' : World} {S : Nat → Prop} (h : But S w w') (hs : ∀ k, k < w.heap.size → ¬ S k) : Below w.heap.size w w' := ⟨h.os, h.tape, h.output, h.size, fun i hi => h.block i hi (hs i hi)⟩
theorem But.row {S : Nat → Prop} {w w' : World} {B : Nat} {T : TypeId} {cs : List Value} (h : But S w w') (hr : Row w B T cs) (hn : ¬ S B) : Row w' B T cs := by
  unfold Row; rw [h.block B hr.lt hn]; exact hr
theorem But.cell {S : Nat → Prop} {w w' : World} (h : But S w w') {a : Addr} {v : Value} (hc : w.cell? a = some v) (hn : ¬ S a.block) : w'.cell? a = some v :=
  (World.cell?_of_block (w := w) (h.block a.block (block_lt_of_cell hc) hn)).trans hc
theorem But.alloc {S : Nat → Prop} {a w : World} (h : But S a w) (o : Obj) : But S a (w.alloc o) :=
  h.trans ⟨rfl, rfl, rfl, by simp, fun i hi _ => Below.heap_alloc _ _ _ hi⟩
theorem But.only {S : Nat → Prop} {a w w' : World} (h : But S a w) {B : Nat} (k : Only B w w') (hB : S B ∨ a.heap.size ≤ B) : But S a w' :=
  h.own (S' := fun i => i = B) ⟨k.os, k.tape, k.output, by rw [k.size]; exact Nat.le_refl _, fun i _ hn => k.block i hn⟩ (fun i e => by subst e; exact hB)
theorem But.drew {S : Nat → Prop} {a w : World} (h : But S a w) : But S a w.drew := ⟨h.os, h.tape, h.output, h.size, h.block⟩
theorem But.drewN {S : Nat → Prop} {a w : World} (h : But S a w) (n : Nat) : But S a (w.drewN n) := ⟨h.os, h.tape, h.output, h.size, h.block⟩
theorem Only.setCell (w : World) (a : Addr) (v : Value) : Only a.block w (w.setCell a v) :=
  ⟨rfl, rfl, rfl, by simp [World.setCell], fun k hk => Below.heap_setCell w a v k hk⟩

/-! ### Whole structs and arrays, loaded and stored -/
def aggD : TypeDesc → Bool
  | .struct _ | .array _ _ => true
  | _ => false
theorem run_loadVar_at {P : Program} (w : World) (ty : TypeId) (g off : Nat) (vs : List Value) (d : TypeDesc)
    (hc : ∀ j v, vs[j]? = some v → w.cell? ⟨g, off + j, none⟩ = some v)
    (hu : P.underlying ty = some d) (hd : aggD d = true) (hi : (P.info? ty).map (·.size) = some vs.length) :
    (loadVar ty ⟨g, off, none⟩).run P w = .ok (.agg vs.toArray) w := by
  have hl : (loadCells ⟨g, off, none⟩ vs.length).run P w = .ok vs.toArray w :=
    run_loadCells_list (P := P) w ⟨g, off, none⟩ vs (fun j v hv => by
      have hadd : (⟨g, off, none⟩ : Addr).add j = ⟨g, off + j, none⟩ := by unfold Addr.add; split <;> simp_all
      rw [hadd]; exact hc j v hv)
  cases hq : P.info? ty with
  | none => simp [hq] at hi
  | some i =>
    have hs : i.size = vs.length := by simpa [hq] using hi
    have hagg : (isAgg ty).run P w = .ok true w := by
      unfold isAgg
      rw [Sem.run_bind, run_underlying hu w]
      cases d <;> simp_all [aggD]
    simp [loadVar, Sem.run_bind, hagg, sizeOf, typeInfo, hq, hs, hl]
theorem wpList_load_at {P : Program} {ops : Array Oper} {rest : List Oper} {o : Oper} {a : Act} {w : World} {Q : Exit → Act → World → Prop} (hgd : o.guard = none) (ty : TypeId) (x : Operand) (ho : o.op = .load ty x)
    (g off : Nat) (hx : a.eval x = .pointer (some ⟨g, off, none⟩)) (vs : List Value) (d : TypeDesc) (hc : ∀ j v, vs[j]? = some v → w.cell? ⟨g, off + j, none⟩ = some v)
    (hu : P.underlying ty = some d) (hd : aggD d = true) (hi : (P.info? ty).map (·.size) = some vs.length)
    (h : wpList P ops Q rest (a.put o.dst (.agg vs.toArray)) w) : wpList P ops Q (o :: rest) a w :=
  wpList_plain hgd fun _ hK => by
    unfold Oper.wp execOp
    simp only [ho, hx, Instr.loadAt, Instr.sureAddr, Sem.run_bind, Sem.run_pure, Result.andThen_ok, run_loadVar_at w ty g off vs d hc hu hd hi]
    exact hK _ _ h

theorem run_storeVar_at {P : Program} (w : World) (ty : TypeId) (g off : Nat) (T : TypeId) (cs : List Value) (hr : Row w g T cs) (vs : List Value) (hfit : off + vs.length ≤ cs.length)
    (h1 : ∀ v ∈ vs, v.oneCell' = true) (hi : (P.info? ty).map (·.size) = some vs.length) :
    ∃ w', (storeVar ty ⟨g, off, none⟩ (.agg vs.toArray)).run P w = .ok () w' ∧ Row w' g T (cs.take off ++ vs ++ cs.drop (off + vs.length)) ∧ Only g w w' := by
  have hst := run_storeCells_at P g off T vs 0 cs.toArray w hr (by simpa using hfit) h1
  cases hq : P.info? ty with
  | none => simp [hq] at hi
  | some i =>
    have hs : i.size = vs.length := by simpa [hq] using hi
    refine ⟨_, by simp [storeVar, Value.cells, sizeOf, typeInfo, hq, hs]; exact hst, ?_, ?_⟩
    · unfold Row
      rw [setRow_heap w g cs.toArray _ T _ hr]
      simp
    · exact ⟨rfl, rfl, rfl, by simp, fun k hk => setRow_other w g k _ hk⟩
theorem wpList_store_at {P : Program} {ops : Array Oper} {rest : List Oper} {o : Oper} {a : Act} {w : World} {Q : Exit → Act → World → Prop} (hgd : o.guard = none) (ty : TypeId) (x y : Operand) (ho : o.op = .store ty x y)
    (g off : Nat) (hx : a.eval x = .pointer (some ⟨g, off, none⟩)) (T : TypeId) (cs : List Value) (hr : Row w g T cs) (vs : List Value) (hy : a.eval y = .agg vs.toArray) (hfit : off + vs.length ≤ cs.length)
    (h1 : ∀ v ∈ vs, v.oneCell' = true) (hi : (P.info? ty).map (·.size) = some vs.length)
    (h : ∀ w', Row w' g T (cs.take off ++ vs ++ cs.drop (off + vs.length)) → Only g w w' → wpList P ops Q rest (a.put o.dst undef) w') : wpList P ops Q (o :: rest) a w :=
  wpList_plain hgd fun _ hK => by
    obtain ⟨w', hrun, h2, h3⟩ := run_storeVar_at (P := P) w ty g off T cs hr vs hfit h1 hi
    unfold Oper.wp execOp
    simp only [ho, hx, hy, Instr.storeAt, Instr.sureAddr, Sem.run_bind, Sem.run_pure, Result.andThen_ok, hrun]
    exact hK _ _ (h w' h2 h3)

/-- The two laws at an operation that is written out: the operation is looked at first. -/
theorem wpL_load {P : Program} {ops : Array Oper} {rest : List Oper} {dst : Option Tmp} {ty tt : TypeId} {pos : String} {af : Array Edge} {x : Operand} {a : Act} {w : World} {Q : Exit → Act → World → Prop}
    {g off : Nat} {vs : List Value} {d : TypeDesc} (hx : a.eval x = .pointer (some ⟨g, off, none⟩)) (hc : ∀ j v, vs[j]? = some v → w.cell? ⟨g, off + j, none⟩ = some v)
    (hu : P.underlying ty = some d) (hd : aggD d = true) (hi : (P.info? ty).map (·.size) = some vs.length)
    (h : wpList P ops Q rest (a.put dst (.agg vs.toArray)) w) : wpList P ops Q (⟨dst, .load ty x, tt, pos, af, none⟩ :: rest) a w :=
  wpList_load_at rfl ty x rfl g off hx vs d hc hu hd hi h
theorem wpL_store {P : Program} {ops : Array Oper} {rest : List Oper} {dst : Option Tmp} {ty tt : TypeId} {pos : String} {af : Array Edge} {x y : Operand} {a : Act} {w : World} {Q : Exit → Act → World → Prop}
    {g off : Nat} {T : TypeId} {cs vs : List Value} (hx : a.eval x = .pointer (some ⟨g, off, none⟩)) (hy : a.eval y = .agg vs.toArray) (hr : Row w g T cs) (hfit : off + vs.length ≤ cs.length)
    (h1 : ∀ v ∈ vs, v.oneCell' = true) (hi : (P.info? ty).map (·.size) = some vs.length)
    (h : ∀ w', Row w' g T (cs.take off ++ vs ++ cs.drop (off + vs.length)) → Only g w w' → wpList P ops Q rest (a.put dst undef) w') : wpList P ops Q (⟨dst, .store ty x y, tt, pos, af, none⟩ :: rest) a w :=
  wpList_store_at rfl ty x y rfl g off hx T cs hr vs hy hfit h1 hi h
theorem Row.whole {w : World} {B n : Nat} {T : TypeId} {cs vs : List Value} (h : Row w B T (cs.take 0 ++ vs ++ cs.drop (0 + vs.length))) (h1 : cs.length = n) (h2 : vs.length = n) : Row w B T vs := by
  rw [List.take_zero, List.nil_append, Nat.zero_add, h2, ← h1, List.drop_length, List.append_nil] at h; exact h

end Go.Proofs.YtojffibjjicddaaDoor
