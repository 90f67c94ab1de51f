/- Slices that a call owns: their block is known whole. Append onto them, from whatever source. -/
import Derived.Test.YtojffibjjicddaaDoorLib
import Derived.Deep.AppendSrc
import Derived.OwnWalk
import Derived.Laws.IdiomCopy
namespace Go.Proofs.YtojffibjjicddaaDoor
open Go.RowKit
set_option linter.unusedVariables false
set_option linter.unusedSimpArgs false

/-- v is a slice of n elements of type E (sz cells each) whose block, from base on, is known whole; its elements' cells are cs. -/
def Own (w : World) (base : Nat) (E : TypeId) (sz : Nat) (v : Value) (n : Nat) (cs : List Value) : Prop :=
  cs.length = n * sz ∧ ((v = .slice none 0 0 ∧ n = 0) ∨
    ∃ (g off cap : Nat) (cur : List Value), v = .slice (some ⟨g, off, none⟩) n cap ∧ base ≤ g ∧ Row w g E cur ∧ n ≤ cap ∧ off + cap * sz ≤ cur.length ∧ cap ≤ maxLen ∧ (cur.drop off).take (n * sz) = cs)

def blockOf : Value → Option Nat
  | .slice (some a) _ _ => some a.block
  | _ => none

theorem Own.nil (w : World) (base : Nat) (E : TypeId) (sz : Nat) : Own w base E sz (.slice none 0 0) 0 [] := ⟨by simp, .inl ⟨rfl, rfl⟩⟩
theorem Own.keep {w w' : World} {base : Nat} {E : TypeId} {sz n : Nat} {v : Value} {cs : List Value} (h : Own w base E sz v n cs) {S : Nat → Prop} (hb : But S w w') (hn : ∀ g, blockOf v = some g → ¬ S g) : Own w' base E sz v n cs := by
  refine ⟨h.1, ?_⟩
  rcases h.2 with h1 | ⟨g, off, cap, cur, rfl, h2, h3, h4⟩
  · exact .inl h1
  · exact .inr ⟨g, off, cap, cur, rfl, h2, hb.row h3 (hn g rfl), h4⟩
theorem Own.below {w w' : World} {base : Nat} {E : TypeId} {sz n : Nat} {v : Value} {cs : List Value} (h : Own w base E sz v n cs) (hb : Below w.heap.size w w') : Own w' base E sz v n cs :=
  h.keep (But.of_below (S := fun _ => False) hb) (fun _ _ hf => hf)
theorem Own.drewN {w : World} {base : Nat} {E : TypeId} {sz n : Nat} {v : Value} {cs : List Value} (h : Own w base E sz v n cs) (k : Nat) : Own (w.drewN k) base E sz v n cs := h
theorem Own.lt {w : World} {base : Nat} {E : TypeId} {sz n : Nat} {v : Value} {cs : List Value} (h : Own w base E sz v n cs) : ∀ g, blockOf v = some g → base ≤ g ∧ g < w.heap.size := by
  intro g hg
  rcases h.2 with ⟨rfl, _⟩ | ⟨g', off, cap, cur, rfl, h2, h3, _⟩
  · cases hg
  · obtain rfl : g' = g := by simpa [blockOf] using hg
    exact ⟨h2, h3.lt⟩
theorem Own.mono {w : World} {base base' : Nat} {E : TypeId} {sz n : Nat} {v : Value} {cs : List Value} (h : Own w base E sz v n cs) (hb : base' ≤ base) : Own w base' E sz v n cs := by
  refine ⟨h.1, ?_⟩
  rcases h.2 with h1 | ⟨g, off, cap, cur, rfl, h2, h3⟩
  · exact .inl h1
  · exact .inr ⟨g, off, cap, cur, rfl, by omega, h3⟩
theorem Own.slice {w : World} {base : Nat} {E : TypeId} {sz n : Nat} {v : Value} {cs : List Value} (h : Own w base E sz v n cs) : ∃ A c, v = .slice A n c := by
  rcases h.2 with ⟨rfl, rfl⟩ | ⟨g, off, cap, cur, rfl, _⟩
  · exact ⟨none, 0, rfl⟩
  · exact ⟨_, _, rfl⟩
theorem Own.le {w : World} {base : Nat} {E : TypeId} {sz n : Nat} {A : Option Addr} {c : Nat} {cs : List Value} (h : Own w base E sz (.slice A n c) n cs) : n ≤ c ∧ c ≤ maxLen := by
  rcases h.2 with ⟨h1, rfl⟩ | ⟨g, off, cap, cur, h1, _, _, h4, _, h6, _⟩
  · injection h1 with _ _ h1; subst h1; exact ⟨Nat.le_refl _, Nat.zero_le _⟩
  · injection h1 with _ _ h1; subst h1; exact ⟨h4, h6⟩
/-- The cells, as they are read. -/
theorem Own.cell {w : World} {base : Nat} {E : TypeId} {sz n : Nat} {A : Option Addr} {c : Nat} {cs : List Value} (h : Own w base E sz (.slice A n c) n cs) (hn : 0 < n) :
    ∃ g off, A = some ⟨g, off, none⟩ ∧ base ≤ g ∧ ∀ j v, cs[j]? = some v → w.cell? ⟨g, off + j, none⟩ = some v ∧ w.frozen? ⟨g, off + j, none⟩ = false := by
  rcases h.2 with ⟨h1, h2⟩ | ⟨g, off, cap, cur, h1, h2, h3, h4, h5, h6, h7⟩
  · omega
  · injection h1 with h1 _ _
    refine ⟨g, off, h1, h2, fun j v hj => ⟨h3.cell ?_, h3.frozen _⟩⟩
    rw [← h7, List.getElem?_take] at hj
    split at hj
    · rwa [List.getElem?_drop] at hj
    · cases hj
theorem setCells_row {w : World} {B : Nat} {T : TypeId} (o : Nat) : ∀ (vs : List Value) (i : Nat) (w : World) (cs : List Value), Row w B T cs → o + i + vs.length ≤ cs.length → Row (w.setCells B (o + i) vs) B T (cs.take (o + i) ++ vs ++ cs.drop (o + i + vs.length)) ∧ Only B w (w.setCells B (o + i) vs)
  | [], i, w, cs, h, hl => by
    simp only [World.setCells, List.append_nil, List.length_nil, Nat.add_zero, List.take_append_drop]
    exact ⟨h, ⟨rfl, rfl, rfl, rfl, fun _ _ => rfl⟩⟩
  | v :: vs, i, w, cs, h, hl => by
    simp only [List.length_cons] at hl
    have h1 := setCells_row (w := w) (B := B) (T := T) o vs (i + 1) (w.setCell ⟨B, o + i, none⟩ v) (cs.set (o + i) v) (h.set (o + i) v) (by simp; omega)
    simp only [World.setCells]
    have e1 : o + (i + 1) = o + i + 1 := by omega
    rw [e1] at h1
    refine ⟨?_, ?_⟩
    · have h2 := h1.1
      have e2 : (cs.set (o + i) v).take (o + i + 1) ++ vs ++ (cs.set (o + i) v).drop (o + i + 1 + vs.length) = cs.take (o + i) ++ v :: vs ++ cs.drop (o + i + (v :: vs).length) := by
        rw [List.length_cons, show o + i + (vs.length + 1) = o + i + 1 + vs.length by omega, List.drop_set_of_lt (by omega), List.take_succ_eq_append_getElem (by simp; omega), List.take_set_of_le (Nat.le_refl _)]
        simp
      rw [e2] at h2
      exact h2
    · obtain ⟨a1, a2, a3, a4, a5⟩ := Only.setCell w ⟨B, o + i, none⟩ v
      obtain ⟨b1, b2, b3, b4, b5⟩ := h1.2
      exact ⟨b1.trans a1, b2.trans a2, b3.trans a3, b4.trans a4, fun k hk => (b5 k hk).trans (a5 k hk)⟩

theorem maxLen_eq : maxLen = 9223372036854775807 := rfl
/-- **Append onto a slice of one's own.** -/
theorem run_append {P : Program} (w : World) (base : Nat) (t tx ty E : TypeId) (i : TypeInfo) (z : Value) (sz bytes : Nat) (ht : P.underlying t = some (.slice E)) (hi : P.info? E = some i) (hz : i.zero = some z)
    (hsize : i.size = sz) (hby : i.bytes = bytes) (hzs : z.cells.size = sz) (v : Value) (n : Nat) (cs : List Value) (hown : Own w base E sz v n cs) (x : Value) (m : Nat) (news : List Value) (hs : Src P sz tx x m news w)
    (hlen : n + m ≤ 140737488355328) (hbytes : (n + m) * bytes ≤ 140737488355328) (hbase : base ≤ w.heap.size) :
    ∃ v' w', (Builtin.append_ #[t, tx] ty #[v, x]).run P w = .ok v' w' ∧ Own w' base E sz v' (n + m) (cs ++ news) ∧ But (fun k => blockOf v = some k) w w' ∧ (∀ k, blockOf v' = some k → blockOf v = some k ∨ w.heap.size ≤ k) ∧ (0 < n + m → v' ≠ .slice none 0 0) := by
  subst hsize
  subst hby
  have hl : (cs ++ news).length = (n + m) * i.size := by rw [List.length_append, hown.1, hs.newsLen, Nat.add_mul]
  have grown : ∀ (A : Option Addr) (old : Nat), old < n + m → v = .slice A n old → (Builtin.firstCells i.size n v).run P w.drew = .ok cs.toArray w.drew →
      ∃ v' w', (Builtin.append_ #[t, tx] ty #[v, x]).run P w = .ok v' w' ∧ Own w' base E i.size v' (n + m) (cs ++ news) ∧ But (fun k => blockOf v = some k) w w' ∧ (∀ k, blockOf v' = some k → blockOf v = some k ∨ w.heap.size ≤ k) ∧ (0 < n + m → v' ≠ .slice none 0 0) := by
    intro A old ho hv hf
    have hge := grownCap_ge w (n + m) old E
    have hcm : grownCap w (n + m) old E ≤ maxLen := grownCap_le_maxLen w (n + m) old E (by rw [maxLen_eq]; omega)
    have hr := run_append_grow_src (P := P) w t tx ty E i z ht hi hz A n old cs (by rw [← hv]; exact hf) x m news hs ho (by omega) (growslice_fits ho hbytes)
    rw [← hv] at hr
    refine ⟨_, _, hr, ⟨hl, .inr ⟨w.heap.size, 0, _, ((cs ++ news).toArray ++ Builtin.zeroCells z.cells (grownCap w (n + m) old E - (n + m))).toList, rfl, hbase, ?_, hge, ?_, hcm, ?_⟩⟩, ?_, ?_, ?_⟩
    · have h1 := Row.new' w.drew E ((cs ++ news).toArray ++ Builtin.zeroCells z.cells (grownCap w (n + m) old E - (n + m)))
      exact h1
    · simp only [Array.toList_append, List.length_append, Array.length_toList, size_zeroCells, hzs, Nat.zero_add]
      rw [← List.length_append, hl, ← Nat.add_mul]
      exact Nat.le_of_eq (by congr 1; omega)
    · simp only [List.drop_zero, Array.toList_append]
      rw [← hl]
      exact List.take_left
    · exact ⟨rfl, rfl, rfl, by simp, fun k hk _ => Below.heap_alloc w.drew _ k hk⟩
    · intro k hk
      exact .inr (by simp [blockOf] at hk; omega)
    · intro _ hh; cases hh
  rcases hown.2 with ⟨rfl, rfl⟩ | ⟨g, off, cap, cur, rfl, hbg, hrow, hnc, hfit, hcm, htake⟩
  · have hx : cs = [] := List.eq_nil_of_length_eq_zero (by simpa using hown.1)
    subst hx
    by_cases hm : m = 0
    · subst hm
      have hn : news = [] := List.eq_nil_of_length_eq_zero (by simpa using hs.newsLen)
      subst hn
      refine ⟨.slice none 0 0, w, ?_, Own.nil w base E i.size, But.refl _ w, fun k hk => (by cases hk), fun h => (by omega)⟩
      rcases hs.kind with ⟨e', hk⟩ | hk <;> simp [Builtin.append_, run_underlying ht, run_underlying hk, sizeOf, typeInfo, hi, hs.len, hs.cells]
    · exact grown none 0 (by omega) rfl (run_firstCells_none w.drew i.size 0 0 0)
  · by_cases hroom : n + m ≤ cap
    · have hmul : n * i.size + m * i.size ≤ cap * i.size := by rw [← Nat.add_mul]; exact Nat.mul_le_mul_right _ hroom
      have hnl := hs.newsLen
      have hin : ∀ j, j < news.length → off + n * i.size + j < cur.length := fun j hj => by omega
      have hr := run_append_room_src (P := P) w t tx ty E i ht hi g off n cap x m news hs hroom (fun j hj => by
          have := hrow.cell (i := off + n * i.size + j) (v := cur[off + n * i.size + j]'(hin j hj)) (List.getElem?_eq_getElem _)
          rw [this]; rfl) (fun j _ => hrow.frozen _)
      have hset := setCells_row (w := w) (B := g) (T := E) (off + n * i.size) news 0 w cur hrow (by omega)
      simp only [Nat.add_zero] at hset
      refine ⟨_, _, hr, ⟨hl, .inr ⟨g, off, cap, _, rfl, hbg, hset.1, hroom, ?_, hcm, ?_⟩⟩, (But.refl _ w).only hset.2 (.inl rfl), fun k hk => .inl hk, fun _ hh => by cases hh⟩
      · simp only [List.length_append, List.length_take, List.length_drop]; omega
      · have hlt : off ≤ (cur.take (off + n * i.size)).length := by rw [List.length_take]; omega
        have e1 : ((cur.take (off + n * i.size) ++ news ++ cur.drop (off + n * i.size + news.length)).drop off) = (cs ++ news) ++ cur.drop (off + n * i.size + news.length) := by
          rw [List.append_assoc, List.drop_append_of_le_length hlt, List.drop_take, Nat.add_sub_cancel_left, htake, List.append_assoc]
        rw [e1, ← hl]
        exact List.take_left
    · refine grown (some ⟨g, off, none⟩) cap (by omega) rfl ?_
      have hc := Own.cell (c := cap) hown
      rcases Nat.eq_zero_or_pos n with rfl | hn
      · obtain rfl : cs = [] := List.eq_nil_of_length_eq_zero (by simpa using hown.1)
        exact run_firstCells_some w.drew i.size 0 ⟨g, off, none⟩ 0 cap [] (by simp) (by simp)
      · obtain ⟨g', off', he, _, hcell⟩ := hc hn
        injection he with he
        injection he with he1 he2
        subst he1 he2
        exact run_firstCells_some w.drew i.size n ⟨g, off, none⟩ n cap cs hown.1 (fun j u hu => by
          have hadd : (⟨g, off, none⟩ : Addr).add j = ⟨g, off + j, none⟩ := by unfold Addr.add; split <;> simp_all
          rw [hadd]; exact (hcell j u hu).1)

/-- The rule of the walk. -/
theorem wpL_append {P : Program} {ops : Array Oper} {rest : List Oper} {dst : Option Tmp} {s x : Operand} {t tx tt : TypeId} {pos : String} {af : Array Edge} {a : Act} {w : World} {Q : Exit → Act → World → Prop}
    {base : Nat} {E : TypeId} {i : TypeInfo} {z : Value} {sz bytes : Nat} {v vx : Value} {n m : Nat} {cs news : List Value}
    (hv : a.eval s = v) (hx : a.eval x = vx) (ht : P.underlying t = some (.slice E)) (hi : P.info? E = some i) (hz : i.zero = some z) (hsize : i.size = sz) (hby : i.bytes = bytes) (hzs : z.cells.size = sz)
    (hown : Own w base E sz v n cs) (hs : Src P sz tx vx m news w) (hlen : n + m ≤ 140737488355328) (hbytes : (n + m) * bytes ≤ 140737488355328) (hbase : base ≤ w.heap.size)
    (h : ∀ v' w', Own w' base E sz v' (n + m) (cs ++ news) → But (fun k => blockOf v = some k) w w' → (∀ k, blockOf v' = some k → blockOf v = some k ∨ w.heap.size ≤ k) → (0 < n + m → v' ≠ .slice none 0 0) → wpList P ops Q rest (a.put dst v') w') :
    wpList P ops Q (⟨dst, .call { callee := .builtin .append, args := #[s, x], argTypes := #[t, tx] }, tt, pos, af, none⟩ :: rest) a w :=
  wpList_plain rfl fun _ hK => by
    obtain ⟨v', w', hr, h1, h2, h3, h4⟩ := run_append (P := P) w base t tx tt E i z sz bytes ht hi hz hsize hby hzs v n cs hown vx m news hs hlen hbytes hbase
    unfold Oper.wp execOp
    simp only [resolve, invoke, builtin, Sem.run_bind, Sem.run_pure, Result.andThen_ok, List.map_toArray, List.map_cons, List.map_nil, hv, hx, hr]
    exact hK _ _ (h v' w' h1 h2 h3 h4)

/-- What is left of a slice of one's own behind its first k elements, as Go makes it. -/
theorem Own.drop {w : World} {base : Nat} {E : TypeId} {sz n c : Nat} {A : Option Addr} {cs : List Value} (h : Own w base E sz (.slice A n c) n cs) (k : Nat) (hk : k ≤ n) (hp : 0 < n) :
    Own w base E sz (sliced A k n c sz) (n - k) (cs.drop (k * sz)) ∧ blockOf (sliced A k n c sz) = blockOf (.slice A n c) := by
  rcases h.2 with ⟨h1, h2⟩ | ⟨g, off, cap, cur, h1, h2, h3, h4, h5, h6, h7⟩
  · omega
  · injection h1 with h1 _ h8
    subst h1 h8
    have e1 : k * sz ≤ n * sz := Nat.mul_le_mul_right _ hk
    have e2 : n * sz ≤ c * sz := Nat.mul_le_mul_right _ h4
    have e3 : (n - k) * sz = n * sz - k * sz := Nat.sub_mul _ _ _
    have e4 : (c - k) * sz = c * sz - k * sz := Nat.sub_mul _ _ _
    by_cases hc : c = k
    · obtain rfl : k = n := by omega
      have e5 : cs.drop (k * sz) = [] := by rw [← h.1]; exact List.drop_length
      subst hc
      simp only [sliced, if_true, Nat.sub_self]
      exact ⟨⟨by rw [e5]; simp, .inr ⟨g, off, 0, cur, rfl, h2, h3, Nat.le_refl _, by omega, by rw [maxLen_eq]; omega, by rw [e5]; simp⟩⟩, rfl⟩
    · have ea : (⟨g, off, none⟩ : Addr).add (k * sz) = ⟨g, off + k * sz, none⟩ := by unfold Addr.add; split <;> simp_all
      simp only [sliced, if_neg hc, Option.map_some, ea]
      refine ⟨⟨by rw [List.length_drop, h.1, e3], .inr ⟨g, off + k * sz, c - k, cur, rfl, h2, h3, by omega, by rw [e4]; omega, by omega, ?_⟩⟩, rfl⟩
      rw [← h7, List.drop_take, e3, List.drop_drop]

/-- The rule inside a region whose order is open. -/
theorem step_append {P : Program} {ops : Array Oper} {dst : Option Tmp} {s x : Operand} {t tx tt : TypeId} {pos : String} {af : Array Edge} {a : Act} {w : World} {K : Act → World → Prop} {Q : Exit → Act → World → Prop} {F : Prop}
    {base : Nat} {E : TypeId} {i : TypeInfo} {z : Value} {sz bytes : Nat} {v vx : Value} {n m : Nat} {cs news : List Value}
    (hv : a.eval s = v) (hx : a.eval x = vx) (ht : P.underlying t = some (.slice E)) (hi : P.info? E = some i) (hz : i.zero = some z) (hsize : i.size = sz) (hby : i.bytes = bytes) (hzs : z.cells.size = sz)
    (hown : Own w base E sz v n cs) (hs : Src P sz tx vx m news w) (hlen : n + m ≤ 140737488355328) (hbytes : (n + m) * bytes ≤ 140737488355328) (hbase : base ≤ w.heap.size)
    (h : ∀ v' w', Own w' base E sz v' (n + m) (cs ++ news) → But (fun k => blockOf v = some k) w w' → (∀ k, blockOf v' = some k → blockOf v = some k ∨ w.heap.size ≤ k) → (0 < n + m → v' ≠ .slice none 0 0) → K (a.put dst v') w') :
    if Region.wanted (⟨dst, .call { callee := .builtin .append, args := #[s, x], argTypes := #[t, tx] }, tt, pos, af, none⟩ : Oper) (yielded ops a.tmps) = true then
      Oper.wp P ⟨dst, .call { callee := .builtin .append, args := #[s, x], argTypes := #[t, tx] }, tt, pos, af, none⟩ a w K Q else F := by
  have hw : Region.wanted (⟨dst, .call { callee := .builtin .append, args := #[s, x], argTypes := #[t, tx] }, tt, pos, af, none⟩ : Oper) (yielded ops a.tmps) = true := rfl
  rw [if_pos hw]
  obtain ⟨v', w', hr, h1, h2, h3, h4⟩ := run_append (P := P) w base t tx tt E i z sz bytes ht hi hz hsize hby hzs v n cs hown vx m news hs hlen hbytes hbase
  unfold Oper.wp execOp
  simp only [resolve, invoke, builtin, Sem.run_bind, Sem.run_pure, Result.andThen_ok, List.map_toArray, List.map_cons, List.map_nil, hv, hx, hr]
  exact h v' w' h1 h2 h3 h4
/-- A slice that was just made of k cells. -/
theorem Own.made {w : World} {E : TypeId} {sz n cap : Nat} {g : Nat} {cs : List Value} (hr : Row w g E cs) (hn : n ≤ cap) (hc : cs.length = cap * sz) (hm : cap ≤ 140737488355328) (base : Nat) (hb : base ≤ g) : Own w base E sz (.slice (some ⟨g, 0, none⟩) n cap) n (cs.take (n * sz)) := by
  refine ⟨by rw [List.length_take, hc]; exact Nat.min_eq_left (Nat.mul_le_mul_right _ hn), .inr ⟨g, 0, cap, cs, rfl, hb, hr, hn, by omega, by rw [maxLen_eq]; omega, by simp⟩⟩

/-! ### Bytes -/
def bcells (xs : List UInt8) : List Value := xs.map fun b => Value.int .u8 (b.toNat : Int)
theorem bcells_length (xs : List UInt8) : (bcells xs).length = xs.length := by simp [bcells]
theorem bcells_append (xs ys : List UInt8) : bcells (xs ++ ys) = bcells xs ++ bcells ys := by simp [bcells]
theorem bcells_one (xs : List UInt8) : ∀ v ∈ bcells xs, v.oneCell' = true := by simp [bcells, Value.oneCell']
theorem bcells_get {xs : List UInt8} {j : Nat} {v : Value} (h : (bcells xs)[j]? = some v) : j < xs.length ∧ v = .int .u8 ((xs.getD j 0).toNat : Int) := by
  simp only [bcells, List.getElem?_map, Option.map_eq_some_iff] at h
  obtain ⟨b, h1, rfl⟩ := h
  exact ⟨(List.getElem?_eq_some_iff.1 h1).1, by simp [List.getD_eq_getElem?_getD, h1]⟩
theorem bcells_at {xs : List UInt8} {j : Nat} (h : j < xs.length) : (bcells xs)[j]? = some (.int .u8 ((xs.getD j 0).toNat : Int)) := by
  simp [bcells, List.getD_eq_getElem?_getD, h]
/-- A slice that reads as these bytes; its cells satisfy p (where they lie). -/
def RdB (w : World) (v : Value) (xs : List UInt8) : Prop :=
  ∃ A c, v = .slice A xs.length c ∧ (0 < xs.length → ∃ g off, A = some ⟨g, off, none⟩ ∧ ∀ j, j < xs.length → w.cell? ⟨g, off + j, none⟩ = some (.int .u8 ((xs.getD j 0).toNat : Int)))
theorem RdB.keep {w w' : World} {v : Value} {xs : List UInt8} (h : RdB w v xs) {S : Nat → Prop} (hb : But S w w') (hn : ∀ g, blockOf v = some g → ¬ S g) : RdB w' v xs := by
  obtain ⟨A, c, rfl, h1⟩ := h
  refine ⟨A, c, rfl, fun hp => ?_⟩
  obtain ⟨g, off, rfl, h2⟩ := h1 hp
  exact ⟨g, off, rfl, fun j hj => hb.cell (h2 j hj) (hn g rfl)⟩
theorem RdB.below {w w' : World} {v : Value} {xs : List UInt8} (h : RdB w v xs) (hb : Below w.heap.size w w') : RdB w' v xs := h.keep (But.of_below (S := fun _ => False) hb) (fun _ _ hf => hf)
theorem RdB.drewN {w : World} {v : Value} {xs : List UInt8} (h : RdB w v xs) (k : Nat) : RdB (w.drewN k) v xs := h
theorem RdB.lt {w : World} {v : Value} {xs : List UInt8} (h : RdB w v xs) (hp : 0 < xs.length) : ∀ g, blockOf v = some g → g < w.heap.size := by
  obtain ⟨A, c, rfl, h1⟩ := h
  obtain ⟨g, off, rfl, h2⟩ := h1 hp
  intro g' hg
  obtain rfl : g = g' := by simpa [blockOf] using hg
  exact block_lt_of_cell (h2 0 hp)
theorem Own.rdB {w : World} {base : Nat} {E : TypeId} {v : Value} {n : Nat} {xs : List UInt8} (h : Own w base E 1 v n (bcells xs)) : RdB w v xs ∧ n = xs.length := by
  have hn : xs.length = n := by have := h.1; rw [bcells_length] at this; omega
  subst hn
  obtain ⟨A, c, rfl⟩ := h.slice
  refine ⟨⟨A, c, rfl, fun hp => ?_⟩, rfl⟩
  obtain ⟨g, off, rfl, _, h2⟩ := h.cell hp
  exact ⟨g, off, rfl, fun j hj => (h2 j _ (bcells_at hj)).1⟩
theorem RdB.src {P : Program} {w : World} {v : Value} {xs : List UInt8} (h : RdB w v xs) {tx e' : TypeId} (hk : P.underlying tx = some (.slice e')) : Src P 1 tx v xs.length (bcells xs) w := by
  obtain ⟨A, c, rfl, h1⟩ := h
  rcases Nat.eq_zero_or_pos xs.length with h0 | hp
  · obtain rfl : xs = [] := List.eq_nil_of_length_eq_zero h0
    cases A with
    | none => exact Src.ofNil (P := P) w hk c
    | some ad => exact Src.ofSlice (P := P) w hk ad 0 c [] (by simp) (by simp) (by simp)
  · obtain ⟨g, off, rfl, h2⟩ := h1 hp
    refine Src.ofSlice (P := P) w hk ⟨g, off, none⟩ xs.length c (bcells xs) (by rw [bcells_length]; omega) (fun j u hu => ?_) (bcells_one xs)
    have hadd : (⟨g, off, none⟩ : Addr).add j = ⟨g, off + j, none⟩ := by unfold Addr.add; split <;> simp_all
    obtain ⟨hj, rfl⟩ := bcells_get hu
    rw [hadd]; exact h2 j hj
theorem RdB.made (w : World) (T : TypeId) (xs : List UInt8) (hx : xs.length ≤ 140737488355328) : RdB (w.alloc (.cells (bcells xs).toArray T)) (.slice (some ⟨w.heap.size, 0, none⟩) xs.length xs.length) xs := by
  have h1 := Own.made (n := xs.length) (cap := xs.length) (sz := 1) (Row.newAt (w := w) T (bcells xs) rfl) (Nat.le_refl _) (by rw [bcells_length, Nat.mul_one]) hx 0 (Nat.zero_le _)
  have h2 : (bcells xs).take (xs.length * 1) = bcells xs := by rw [Nat.mul_one, ← bcells_length]; exact List.take_length
  rw [h2] at h1
  exact h1.rdB.1
/-- copy into a block that is known whole; the source's cells are known: all of them fit. -/
theorem run_copyB {P : Program} (w : World) (dT sT ty E T : TypeId) (g o dLen dCap : Nat) (A : Option Addr) (m c : Nat) (cur news : List Value)
    (hu : P.underlying dT = some (.slice E)) (hs : (P.info? E).map (·.size) = some 1) (hr : Row w g T cur) (hml : m ≤ dLen) (hfit : o + m ≤ cur.length) (hl : news.length = m)
    (hsrc : 0 < m → ∃ g' off, A = some ⟨g', off, none⟩ ∧ ∀ j v, news[j]? = some v → w.cell? ⟨g', off + j, none⟩ = some v) (h1 : ∀ v ∈ news, v.oneCell' = true) :
    ∃ w', (Builtin.copy_ #[dT, sT] ty #[.slice (some ⟨g, o, none⟩) dLen dCap, .slice A m c]).run P w = .ok (goInt m) w' ∧ Row w' g T (cur.take o ++ news ++ cur.drop (o + m)) ∧ Only g w w' := by
  rcases Nat.eq_zero_or_pos m with rfl | hm
  · have h0 : news = [] := List.eq_nil_of_length_eq_zero hl
    subst h0
    refine ⟨w, run_copy_none w dT sT ty E _ _ _ _ _ _ hu hs (Nat.zero_min _), ?_, ⟨rfl, rfl, rfl, rfl, fun _ _ => rfl⟩⟩
    simpa using hr
  · obtain ⟨g', off, rfl, hc⟩ := hsrc hm
    have hset := setCells_row (w := w) (B := g) (T := T) o news 0 w cur hr (by omega)
    simp only [Nat.add_zero] at hset
    have h2 := run_copy_cells (P := P) w dT sT ty E g o dLen dCap ⟨g', off, none⟩ m c news hu hs (by rw [hl]; exact (Nat.min_eq_left hml).symm) (fun j v hj => by
      have hadd : (⟨g', off, none⟩ : Addr).add j = ⟨g', off + j, none⟩ := by unfold Addr.add; split <;> simp_all
      rw [hadd]; exact hc j v hj) (fun j hj => by rw [hr.cell (List.getElem?_eq_getElem (by omega))]; rfl) (fun j _ => hr.frozen _) h1
    rw [hl] at h2
    have h3 := hset.1
    rw [hl] at h3
    exact ⟨_, h2, h3, hset.2⟩
theorem wpL_copy {P : Program} {ops : Array Oper} {rest : List Oper} {dst : Option Tmp} {d s : Operand} {t tx tt : TypeId} {pos : String} {af : Array Edge} {a : Act} {w : World} {Q : Exit → Act → World → Prop}
    {E T : TypeId} {g o dLen dCap m c : Nat} {A : Option Addr} {cur news : List Value}
    (hd : a.eval d = .slice (some ⟨g, o, none⟩) dLen dCap) (hx : a.eval s = .slice A m c) (hu : P.underlying t = some (.slice E)) (hs : (P.info? E).map (·.size) = some 1) (hr : Row w g T cur) (hml : m ≤ dLen) (hfit : o + m ≤ cur.length) (hl : news.length = m)
    (hsrc : 0 < m → ∃ g' off, A = some ⟨g', off, none⟩ ∧ ∀ j v, news[j]? = some v → w.cell? ⟨g', off + j, none⟩ = some v) (h1 : ∀ v ∈ news, v.oneCell' = true)
    (h : ∀ w', Row w' g T (cur.take o ++ news ++ cur.drop (o + m)) → Only g w w' → wpList P ops Q rest (a.put dst (goInt m)) w') :
    wpList P ops Q (⟨dst, .call { callee := .builtin .copy, args := #[d, s], argTypes := #[t, tx] }, tt, pos, af, none⟩ :: rest) a w :=
  wpList_plain rfl fun _ hK => by
    obtain ⟨w', hr', h2, h3⟩ := run_copyB (P := P) w t tx tt E T g o dLen dCap A m c cur news hu hs hr hml hfit hl hsrc h1
    unfold Oper.wp execOp
    simp only [resolve, invoke, builtin, Sem.run_bind, Sem.run_pure, Result.andThen_ok, List.map_toArray, List.map_cons, List.map_nil, hd, hx, hr']
    exact hK _ _ (h w' h2 h3)
theorem RdB.cells {w : World} {A : Option Addr} {c m : Nat} {xs : List UInt8} (h : RdB w (.slice A m c) xs) : m = xs.length ∧ (0 < m → ∃ g' off, A = some ⟨g', off, none⟩ ∧ ∀ j v, (bcells xs)[j]? = some v → w.cell? ⟨g', off + j, none⟩ = some v) := by
  obtain ⟨A', c', he, h1⟩ := h
  injection he with e1 e2 e3
  subst e1 e2 e3
  refine ⟨rfl, fun hp => ?_⟩
  obtain ⟨g, off, rfl, h2⟩ := h1 hp
  refine ⟨g, off, rfl, fun j v hj => ?_⟩
  obtain ⟨hj1, rfl⟩ := bcells_get hj
  exact h2 j hj1
end Go.Proofs.YtojffibjjicddaaDoor
