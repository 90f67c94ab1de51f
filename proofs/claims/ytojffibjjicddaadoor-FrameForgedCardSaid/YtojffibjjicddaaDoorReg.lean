/- A region that draws its order: a head of operations that are quiet in a class of worlds, and a tail each of whose operations waits for all that stand ahead of it. One walk serves every order. -/
import Derived.Deep.Quiet
import Derived.Deep.QuietTactic
import Derived.BigQuiet
import Derived.WalkKit
import Derived.Lib.QuietBelow
namespace Go.Proofs.YtojffibjjicddaaDoor
section
variable {P : Program} {ops : Array Oper} {C : World → Prop}

def dep (ops : Array Oper) : Nat → Nat → Nat → Bool
  | 0, _, _ => false
  | f + 1, i, j => (ops[i]?).any fun o => o.after.any fun e => Region.binds .any e && (e.on == j || (decide (j < e.on) && dep ops f e.on j))
def apartB (ops : Array Oper) (i j : Nat) : Bool := match ops[i]?, ops[j]? with
  | some x, some y => x.apart ops y
  | _, _ => false
/-- The look at a region: edges lead back; of two operations of the head the later one waits for the earlier one, or they are apart; each one of the tail waits for all ahead. -/
def chkTail (ops : Array Oper) (n : Nat) : Bool :=
  Region.noSelect ops && decide (n ≤ ops.size) &&
  (List.range ops.size).all fun i =>
    (ops[i]?).any (fun o => o.after.all fun e => !Region.binds .any e || decide (e.on < i)) &&
    (List.range i).all fun j => (decide (i < n) && apartB ops j i) || dep ops 40 i j

def qW (P : Program) (ops : Array Oper) (C : World → Prop) (K : Act → Prop) : List Nat → Act → Prop
  | [], a => K a
  | i :: l, a => qOp P ops C i (qW P ops C K l) a

theorem chk_parts {n : Nat} (h : chkTail ops n = true) : Region.noSelect ops = true ∧ n ≤ ops.size ∧
    ∀ i, i < ops.size → (∃ o, ops[i]? = some o ∧ ∀ e ∈ o.after, Region.binds .any e = true → e.on < i) ∧ ∀ j, j < i → (i < n ∧ apartB ops j i = true) ∨ dep ops 40 i j = true := by
  unfold chkTail at h
  simp only [Bool.and_eq_true, decide_eq_true_eq, List.all_eq_true, List.mem_range, Bool.or_eq_true] at h
  refine ⟨h.1.1, h.1.2, fun i hi => ⟨?_, (h.2 i hi).2⟩⟩
  have h1 := (h.2 i hi).1
  cases ho : ops[i]? with
  | none => rw [ho] at h1; cases h1
  | some o =>
    rw [ho] at h1
    refine ⟨o, rfl, fun e he hb => ?_⟩
    simp only [Option.any_some, Array.all_eq_true_iff_forall_mem, Bool.or_eq_true, Bool.not_eq_true', decide_eq_true_eq] at h1
    rcases h1 e he with h2 | h2
    · rw [h2] at hb; cases hb
    · exact h2

theorem qW_bring (hsel : ∀ (j : Nat) (o : Oper) cs b, ops[j]? = some o → o.op ≠ .select cs b) (K : Act → Prop) (post : List Nat) (i : Nat) (oi : Oper) (hi : ops[i]? = some oi) :
    ∀ (pre : List Nat) (a : Act), (∀ x ∈ pre, apartB ops x i = true) → qW P ops C K (pre ++ i :: post) a → qOp P ops C i (qW P ops C K (pre ++ post)) a
  | [], _, _, h => h
  | x :: pre, a, hap, h => by
    have hx := hap x (by simp)
    unfold apartB at hx
    cases hox : ops[x]? with
    | none => rw [hox] at hx; cases hx
    | some ox =>
      rw [hox, hi] at hx
      simp only at hx
      obtain ⟨v, hy, hK⟩ := yieldsIn_of_qOp hox h
      have h1 := qW_bring hsel K post i oi hi pre (a.put ox.dst v) (fun y hy => hap y (by simp [hy])) hK
      have h2 := qOp_put (P := P) (C := C) hi hx (fun cs b => hsel x ox cs b hox) (fun cs b => hsel i oi cs b hi) hy h1
      exact qOp_mono (fun a' h3 => h3.1.qOp hox h3.2) h2

/-- What is not listed is what is to come. -/
structure Inv (ops : Array Oper) (listed : Array Bool) (l : List Nat) : Prop where
  size : listed.size = ops.size
  mem : ∀ i, listed.getD i true = false ↔ i ∈ l
  closed : ∀ i o, ops[i]? = some o → i ∉ l → ∀ e ∈ o.after, Region.binds .any e = true → e.on ∉ l

theorem Inv.done {listed : Array Bool} {l : List Nat} (h : Inv ops listed l) {i : Nat} (hi : i < ops.size) (hl : i ∉ l) : listed.getD i false = true := by
  have h1 : ¬ listed.getD i true = false := fun e => hl ((h.mem i).1 e)
  have hlt : i < listed.size := by rw [h.size]; exact hi
  simp [hlt] at h1 ⊢
  exact h1
theorem Inv.lt {listed : Array Bool} {l : List Nat} (h : Inv ops listed l) {i : Nat} (hl : i ∈ l) : i < ops.size := by
  have h1 := (h.mem i).2 hl
  rcases Nat.lt_or_ge i listed.size with h2 | h2
  · rw [← h.size]; exact h2
  · simp [Array.getElem?_eq_none h2] at h1
theorem Inv.set {listed : Array Bool} {pre post : List Nat} {i : Nat} (h : Inv ops listed (pre ++ i :: post)) (hnd : (pre ++ i :: post).Nodup) (hr : i ∈ Region.ready .any ops listed) : Inv ops (listed.setIfInBounds i true) (pre ++ post) := by
  have hi : i < listed.size := by rw [h.size]; exact h.lt (by simp)
  refine ⟨by simp [h.size], fun j => ?_, fun j o ho hj e he hb hm => ?_⟩
  rotate_left
  · have hm' : e.on ∈ pre ++ i :: post := by
      rcases List.mem_append.1 hm with h1 | h1
      · simp [h1]
      · simp [h1]
    by_cases hji : j = i
    · subst hji
      obtain ⟨_, o', ho', hall⟩ := mem_ready.1 hr
      rw [ho] at ho'
      obtain rfl := Option.some.inj ho'
      have h1 := hall e he hb
      have h2 := (h.mem e.on).2 hm'
      have hlt := h.lt hm'
      rw [← h.size] at hlt
      simp [hlt] at h1 h2
      rw [h1] at h2
      cases h2
    · refine h.closed j o ho (fun hh => hj ?_) e he hb hm'
      rcases List.mem_append.1 hh with h1 | h1
      · simp [h1]
      · rcases List.mem_cons.1 h1 with h2 | h2
        · exact absurd h2 hji
        · simp [h2]
  by_cases hj : i = j
  · subst hj
    have hn : i ∉ pre ++ post := by
      intro hm
      obtain ⟨_, h2, h3⟩ := List.nodup_append.1 hnd
      rcases List.mem_append.1 hm with h4 | h4
      · exact h3 i h4 i (by simp) rfl
      · exact (List.nodup_cons.1 h2).1 h4
    have h5 : (listed.setIfInBounds i true).getD i true = true := by simp [hi]
    rw [h5]
    exact ⟨fun e => (by cases e), fun e => absurd e hn⟩
  · rw [getD_set_ne true hj, h.mem j]
    simp only [List.mem_append, List.mem_cons]
    constructor
    · rintro (h1 | rfl | h1)
      · exact .inl h1
      · exact absurd rfl hj
      · exact .inr h1
    · rintro (h1 | h1)
      · exact .inl h1
      · exact .inr (.inr h1)

theorem dep_edge {f i j : Nat} (hd : dep ops (f + 1) i j = true) : ∃ o e, ops[i]? = some o ∧ e ∈ o.after ∧ Region.binds .any e = true ∧ (e.on = j ∨ dep ops f e.on j = true) := by
  unfold dep at hd
  cases ho : ops[i]? with
  | none => rw [ho] at hd; cases hd
  | some o =>
    rw [ho] at hd
    simp only [Option.any_some, Array.any_eq_true] at hd
    obtain ⟨p, hp, hb⟩ := hd
    simp only [Bool.and_eq_true, Bool.or_eq_true, beq_iff_eq] at hb
    exact ⟨o, _, rfl, Array.getElem_mem hp, hb.1, hb.2.imp id And.right⟩
theorem dep_unlisted {listed : Array Bool} {l : List Nat} (h : Inv ops listed l) {j : Nat} (hj : j ∈ l) : ∀ (f i : Nat), dep ops f i j = true → i ∈ l
  | 0, i, hd => by cases hd
  | f + 1, i, hd => by
    obtain ⟨o, e, ho, he, hb, h1⟩ := dep_edge hd
    have h2 : e.on ∈ l := by
      rcases h1 with rfl | h1
      · exact hj
      · exact dep_unlisted h hj f e.on h1
    exact Decidable.byContradiction fun hi => h.closed i o ho hi e he hb h2
theorem not_ready {listed : Array Bool} {l : List Nat} (h : Inv ops listed l) {i j : Nat} (hd : dep ops 40 i j = true) (hj : j ∈ l) (hr : i ∈ Region.ready .any ops listed) : False := by
  obtain ⟨_, o, ho, hall⟩ := mem_ready.1 hr
  obtain ⟨o', e, ho', he, hb, h1⟩ := dep_edge hd
  rw [ho] at ho'
  obtain rfl := Option.some.inj ho'
  have hm : e.on ∈ l := by
    rcases h1 with rfl | h1
    · exact hj
    · exact dep_unlisted h hj 39 e.on h1
  have h1 := hall e he hb
  have h2 := (h.mem e.on).2 hm
  have hlt := h.lt hm
  rw [← h.size] at hlt
  simp [hlt] at h1 h2
  rw [h1] at h2
  cases h2

theorem first_ready {listed : Array Bool} {i : Nat} {l : List Nat} (h : Inv ops listed (i :: l)) (hs : (i :: l).Pairwise (· < ·)) {n : Nat} (hchk : chkTail ops n = true) : i ∈ Region.ready .any ops listed := by
  have hi := h.lt (i := i) (by simp)
  obtain ⟨⟨o, ho, hall⟩, _⟩ := (chk_parts hchk).2.2 i hi
  refine mem_ready.2 ⟨(h.mem i).2 (by simp), o, ho, fun e he hb => ?_⟩
  have hlt := hall e he hb
  refine h.done (by omega) fun hm => ?_
  rcases List.mem_cons.1 hm with h1 | h1
  · omega
  · have := (List.pairwise_cons.1 hs).1 _ h1; omega

theorem wpAny_tail {n : Nat} {Q : Exit → Act → World → Prop} (hchk : chkTail ops n = true) : ∀ (m k : Nat) (listed : Array Bool) (a : Act) (w : World), n ≤ k → k + m = ops.size → Inv ops listed (List.range' k m) →
    wpOps P ops Q (List.range' k m) a w → wpAny P .any ops Q m listed a w
  | 0, k, listed, a, w, _, _, inv, h => by
    refine ⟨?_, h⟩
    apply List.eq_nil_iff_forall_not_mem.2
    intro i hi
    have := (inv.mem i).1 (mem_ready.1 hi).1
    simp at this
  | m + 1, k, listed, a, w, hk, hm, inv, h => by
    rw [List.range'_succ] at h inv
    have hs : (k :: List.range' (k + 1) m).Pairwise (· < ·) := by rw [← List.range'_succ]; exact List.pairwise_lt_range'
    have hr := first_ready inv hs hchk
    refine ⟨fun h0 => (by rw [h0] at hr; cases hr), fun i hi => ?_⟩
    have hmem := (inv.mem i).1 (mem_ready.1 hi).1
    by_cases hik : i = k
    · subst hik
      rw [wpOps_cons] at h
      refine wpOp_mono (fun a' w' h' => wpAny_tail hchk m (i + 1) _ a' w' (by omega) (by omega) ?_ h') h
      have := Inv.set (pre := []) inv (by rw [List.nil_append]; exact hs.imp fun h => Nat.ne_of_lt h) hi
      simpa using this
    · exfalso
      have hlt : k < i := by
        rcases List.mem_cons.1 hmem with h1 | h1
        · exact absurd h1 hik
        · exact (List.pairwise_cons.1 hs).1 _ h1
      rcases (((chk_parts hchk).2.2 i (inv.lt hmem)).2 k hlt) with h1 | h1
      · omega
      · exact not_ready inv h1 (by simp) hi

theorem wpAny_head {n : Nat} {Q : Exit → Act → World → Prop} (hchk : chkTail ops n = true) : ∀ (m : Nat) (pend : List Nat) (listed : Array Bool) (a : Act) (w : World), pend.length = m → pend.Pairwise (· < ·) → (∀ i ∈ pend, i < n) →
    Inv ops listed (pend ++ List.range' n (ops.size - n)) → C w → qW P ops C (fun a' => ∀ w', C w' → wpOps P ops Q (List.range' n (ops.size - n)) a' w') pend a → wpAny P .any ops Q (m + (ops.size - n)) listed a w
  | 0, pend, listed, a, w, hm, _, _, inv, hC, h => by
    obtain rfl := List.eq_nil_of_length_eq_zero hm
    have hn := (chk_parts hchk).2.1
    rw [Nat.zero_add]
    exact wpAny_tail hchk (ops.size - n) n listed a w (Nat.le_refl _) (by omega) (by simpa using inv) (h w hC)
  | m + 1, pend, listed, a, w, hm, hs, hlt, inv, hC, h => by
    cases pend with
    | nil => cases hm
    | cons p pend =>
      have hsall : (p :: pend ++ List.range' n (ops.size - n)).Pairwise (· < ·) := by
        refine List.pairwise_append.2 ⟨hs, List.pairwise_lt_range', fun x hx y hy => ?_⟩
        have := hlt x hx
        have := (List.mem_range'_1.1 hy).1
        omega
      have hnd : (p :: pend ++ List.range' n (ops.size - n)).Nodup := hsall.imp fun h => Nat.ne_of_lt h
      have hr := first_ready inv hsall hchk
      rw [show m + 1 + (ops.size - n) = (m + (ops.size - n)) + 1 by omega]
      refine ⟨fun h0 => (by rw [h0] at hr; cases hr), fun i hi => ?_⟩
      have hmem := (inv.mem i).1 (mem_ready.1 hi).1
      rcases List.mem_append.1 hmem with hip | hit
      · obtain ⟨pre, post, hpp⟩ := List.append_of_mem hip
        obtain ⟨⟨oi, hoi, _⟩, hap⟩ := (chk_parts hchk).2.2 i (inv.lt hmem)
        have hs' := hs
        rw [hpp] at hs'
        have hpre : ∀ x ∈ pre, x < i := fun x hx => (List.pairwise_append.1 hs').2.2 x hx i (by simp)
        have hpa : ∀ x ∈ pre, apartB ops x i = true := fun x hx => by
          rcases hap x (hpre x hx) with h1 | h1
          · exact h1.2
          · exact (not_ready inv h1 (by rw [hpp]; simp [hx]) hi).elim
        rw [hpp] at h hm hlt
        have h1 := qW_bring (Region.noSelect_spec (chk_parts hchk).1) _ post i oi hoi pre a hpa h
        refine wpOp_of_qOp (P := P) (C := C) (Q' := Q) hC (fun a' w' hC' h2 => ?_) h1
        refine wpAny_head hchk m (pre ++ post) _ a' w' (by simp at hm ⊢; omega) ?_ (fun x hx => hlt x (by simp at hx ⊢; rcases hx with h | h <;> simp [h])) ?_ hC' h2
        · exact hs'.sublist (by simp)
        · rw [hpp] at inv hnd
          have := Inv.set (pre := pre) (post := post ++ List.range' n (ops.size - n)) (i := i) (by simpa using inv) (by simpa using hnd) hi
          simpa using this
      · exfalso
        have hni := (List.mem_range'_1.1 hit).1
        have hpn := hlt p (by simp)
        rcases (((chk_parts hchk).2.2 i (inv.lt hmem)).2 p (by omega)) with h1 | h1
        · omega
        · exact not_ready inv h1 (by simp) hi

theorem qW_of_wpQuiet {K : Act → Prop} : ∀ (l : List Oper) (k : Nat) (a : Act), (∀ j, j < l.length → l[j]? = ops[k + j]?) → wpQuiet P ops C K l a → qW P ops C K (List.range' k l.length) a
  | [], _, _, _, h => h
  | o :: l, k, a, hl, h => by
    have h0 : ops[k]? = some o := by simpa using (hl 0 (by simp)).symm
    rw [List.length_cons, List.range'_succ]
    show qOp P ops C k (qW P ops C K (List.range' (k + 1) l.length)) a
    have hst : qOp P ops C k (wpQuiet P ops C K l) a := by unfold qOp; simp only [h0]; exact h
    exact qOp_mono (fun a' h' => qW_of_wpQuiet l (k + 1) a' (fun j hj => by have := hl (j + 1) (by simp; omega); simpa [Nat.add_assoc, Nat.add_comm 1 j] using this) h') hst

/-- **The rule.** -/
theorem wp_region_qt {id : Nat} {Q : Exit → Act → World → Prop} {a : Act} {w : World} {l : List Oper} (n : Nat) (hm : P.follows .mixedOrders = true) (hB : chkTail l.toArray n = true) (hC : C { w with drawn := w.drawn + 1 })
    (h : wpQuiet P l.toArray C (fun a' => ∀ w', C w' → wpList P l.toArray Q (l.drop n) a' w') (l.take n) a) : (Code.region id l.toArray true).wp P Q a w := by
  have hn := (chk_parts hB).2.1
  have hn' : n ≤ l.length := by simpa using hn
  refine wp_region_any hm ?_
  have htl : (l.take n).length = n := by simp; omega
  have hq := qW_of_wpQuiet (P := P) (C := C) (ops := l.toArray) (l.take n) 0 a (fun j hj => by rw [htl] at hj; simp [hj]) h
  rw [htl] at hq
  have e1 : wpOps P l.toArray Q (List.range' n (l.toArray.size - n)) = wpList P l.toArray Q (l.drop n) := by
    have := wpOps_eq_wpList (P := P) (ops := l.toArray) (Q := Q) (l.drop n) n (fun j => by simp [List.getElem?_drop])
    rw [← this]
    simp
  rw [← e1] at hq
  have inv0 : Inv l.toArray (Array.replicate l.toArray.size false) (List.range' 0 n ++ List.range' n (l.toArray.size - n)) := by
    have hmem : ∀ i, i ∈ List.range' 0 n ++ List.range' n (l.toArray.size - n) ↔ i < l.length := fun i => by
      simp only [List.mem_append, List.mem_range'_1, List.size_toArray]; omega
    refine ⟨by simp, fun i => ?_, fun i o ho hi => absurd ((hmem i).2 (by have := (Array.getElem?_eq_some_iff.1 ho).1; simpa using this)) hi⟩
    rw [hmem]
    by_cases hi : i < l.length
    · simp [hi]
    · simp [hi]
  have := wpAny_head (P := P) (C := C) (Q := Q) hB n (List.range' 0 n) _ a _ (by simp) List.pairwise_lt_range' (fun i hi => by have := List.mem_range'_1.1 hi; omega) inv0 hC hq
  rw [show n + (l.toArray.size - n) = l.toArray.size by omega] at this
  exact this

/-- At the class 'w after some draws'. -/
theorem wp_region_qtd {id : Nat} {Q : Exit → Act → World → Prop} {a : Act} {w : World} {l : List Oper} (n : Nat) (hm : P.follows .mixedOrders = true) (hB : chkTail l.toArray n = true)
    (h : wpQuiet P l.toArray (fun w' => ∃ n, w' = w.drewN n) (fun a' => ∀ w', (∃ n, w' = w.drewN n) → wpList P l.toArray Q (l.drop n) a' w') (l.take n) a) : (Code.region id l.toArray true).wp P Q a w :=
  wp_region_qt (C := fun w' => ∃ n, w' = w.drewN n) n hm hB ⟨1, rfl⟩ h
/-! ### The same, the operations taken in an order that is given -/
def pick (l : List Oper) (ix : List Nat) : List Oper := ix.map fun i => l.getD i default
def topo (ops : Array Oper) : List Nat → List Nat → Bool
  | _, [] => true
  | seen, i :: rest => (ops[i]?).any (fun o => o.after.all fun e => !Region.binds .any e || seen.contains e.on) && topo ops (i :: seen) rest
def okHead (ops : Array Oper) : List Nat → List Nat → Bool
  | _, [] => true
  | seen, i :: rest => seen.all (fun j => apartB ops j i || dep ops 40 i j) && okHead ops (i :: seen) rest
def okTail (ops : Array Oper) : List Nat → List Nat → Bool
  | _, [] => true
  | seen, i :: rest => seen.all (fun j => dep ops 40 i j) && okTail ops (i :: seen) rest
def chkOrd (ops : Array Oper) (hd tl : List Nat) : Bool :=
  Region.noSelect ops && decide ((hd ++ tl).length = ops.size) && decide ((hd ++ tl).Nodup) && (hd ++ tl).all (fun i => decide (i < ops.size)) && topo ops [] (hd ++ tl) && okHead ops [] hd && okTail ops hd tl && (List.range ops.size).all fun i => (hd ++ tl).contains i

theorem topo_spec : ∀ (l seen : List Nat), topo ops seen l = true → ∀ pre i post, l = pre ++ i :: post → ∃ o, ops[i]? = some o ∧ ∀ e ∈ o.after, Region.binds .any e = true → e.on ∈ seen ∨ e.on ∈ pre
  | [], _, _, pre, i, post, hl => by cases pre <;> cases hl
  | x :: l, seen, h, pre, i, post, hl => by
    simp only [topo, Bool.and_eq_true] at h
    cases pre with
    | nil =>
      simp only [List.nil_append, List.cons.injEq] at hl
      obtain ⟨rfl, rfl⟩ := hl
      cases ho : ops[x]? with
      | none => rw [ho] at h; cases h.1
      | some o =>
        rw [ho] at h
        refine ⟨o, rfl, fun e he hb => .inl ?_⟩
        have h1 := h.1
        simp only [Option.any_some, Array.all_eq_true_iff_forall_mem, Bool.or_eq_true, Bool.not_eq_true'] at h1
        rcases h1 e he with h2 | h2
        · rw [h2] at hb; cases hb
        · simpa using h2
    | cons p pre =>
      simp only [List.cons_append, List.cons.injEq] at hl
      obtain ⟨rfl, hl⟩ := hl
      obtain ⟨o, ho, hall⟩ := topo_spec l (x :: seen) h.2 pre i post hl
      refine ⟨o, ho, fun e he hb => ?_⟩
      rcases hall e he hb with h1 | h1
      · rcases List.mem_cons.1 h1 with h2 | h2
        · exact .inr (by simp [h2])
        · exact .inl h2
      · exact .inr (by simp [h1])
theorem okHead_spec : ∀ (l seen : List Nat), okHead ops seen l = true → (∀ j ∈ seen, ∀ i ∈ l, apartB ops j i = true ∨ dep ops 40 i j = true) ∧ l.Pairwise (fun j i => apartB ops j i = true ∨ dep ops 40 i j = true)
  | [], _, _ => ⟨fun _ _ _ h => (by cases h), .nil⟩
  | x :: l, seen, h => by
    simp only [okHead, Bool.and_eq_true, List.all_eq_true, Bool.or_eq_true] at h
    obtain ⟨h1, h2⟩ := okHead_spec l (x :: seen) h.2
    refine ⟨fun j hj i hi => ?_, .cons (fun i hi => h1 x (by simp) i hi) h2⟩
    rcases List.mem_cons.1 hi with rfl | hi
    · exact h.1 j hj
    · exact h1 j (by simp [hj]) i hi
theorem okTail_spec : ∀ (l seen : List Nat), okTail ops seen l = true → (∀ j ∈ seen, ∀ i ∈ l, dep ops 40 i j = true) ∧ l.Pairwise (fun j i => dep ops 40 i j = true)
  | [], _, _ => ⟨fun _ _ _ h => (by cases h), .nil⟩
  | x :: l, seen, h => by
    simp only [okTail, Bool.and_eq_true, List.all_eq_true] at h
    obtain ⟨h1, h2⟩ := okTail_spec l (x :: seen) h.2
    refine ⟨fun j hj i hi => ?_, .cons (fun i hi => h1 x (by simp) i hi) h2⟩
    rcases List.mem_cons.1 hi with rfl | hi
    · exact h.1 j hj
    · exact h1 j (by simp [hj]) i hi

/-- What each operation waits for stands ahead of it in l, or is done. -/
def Topo (ops : Array Oper) (l : List Nat) : Prop := ∀ pre i post, l = pre ++ i :: post → ∃ o, ops[i]? = some o ∧ ∀ e ∈ o.after, Region.binds .any e = true → e.on ∉ i :: post ∧ e.on < ops.size
theorem Topo.drop {pre post : List Nat} {i : Nat} (h : Topo ops (pre ++ i :: post)) : Topo ops (pre ++ post) := by
  intro p x q hl
  rcases List.append_eq_append_iff.1 hl with ⟨as, h1, h2⟩ | ⟨as, h1, h2⟩
  · cases as with
    | nil =>
      simp only [List.append_nil, List.nil_append] at h1 h2
      subst h1
      obtain ⟨o, ho, hall⟩ := h (p ++ [i]) x q (by rw [← h2]; simp)
      exact ⟨o, ho, hall⟩
    | cons a as =>
      obtain ⟨o, ho, hall⟩ := h (pre ++ i :: a :: as) x q (by rw [h2]; simp)
      exact ⟨o, ho, hall⟩
  · cases as with
    | nil =>
      simp only [List.append_nil, List.nil_append] at h1 h2
      obtain ⟨o, ho, hall⟩ := h (pre ++ [i]) x q (by rw [← h2]; simp)
      exact ⟨o, ho, hall⟩
    | cons a as =>
      simp only [List.cons_append, List.cons.injEq] at h2
      obtain ⟨rfl, rfl⟩ := h2
      obtain ⟨o, ho, hall⟩ := h p x (as ++ i :: post) (by rw [h1]; simp)
      refine ⟨o, ho, fun e he hb => ⟨fun hm => (hall e he hb).1 ?_, (hall e he hb).2⟩⟩
      simp only [List.mem_cons, List.mem_append] at hm ⊢
      rcases hm with h1 | h1 | h1
      · exact .inl h1
      · exact .inr (.inl h1)
      · exact .inr (.inr (.inr h1))
theorem Topo.first_ready {listed : Array Bool} {i : Nat} {l : List Nat} (h : Inv ops listed (i :: l)) (ht : Topo ops (i :: l)) : i ∈ Region.ready .any ops listed := by
  obtain ⟨o, ho, hall⟩ := ht [] i l rfl
  exact mem_ready.2 ⟨(h.mem i).2 (by simp), o, ho, fun e he hb => h.done (hall e he hb).2 (hall e he hb).1⟩

theorem wpAny_tailO {Q : Exit → Act → World → Prop} : ∀ (tl : List Nat) (listed : Array Bool) (a : Act) (w : World), Topo ops tl → tl.Nodup → tl.Pairwise (fun j i => dep ops 40 i j = true) → Inv ops listed tl →
    wpOps P ops Q tl a w → wpAny P .any ops Q tl.length listed a w
  | [], listed, a, w, _, _, _, inv, h => by
    refine ⟨?_, h⟩
    apply List.eq_nil_iff_forall_not_mem.2
    intro i hi
    have := (inv.mem i).1 (mem_ready.1 hi).1
    simp at this
  | k :: tl, listed, a, w, ht, hn, hp, inv, h => by
    have hr := Topo.first_ready inv ht
    refine ⟨fun h0 => (by rw [h0] at hr; cases hr), fun i hi => ?_⟩
    have hmem := (inv.mem i).1 (mem_ready.1 hi).1
    rcases List.mem_cons.1 hmem with rfl | hm
    · rw [wpOps_cons] at h
      refine wpOp_mono (fun a' w' h' => wpAny_tailO tl _ a' w' (Topo.drop (pre := []) ht) (List.nodup_cons.1 hn).2 (List.pairwise_cons.1 hp).2 ?_ h') h
      exact Inv.set (pre := []) inv hn hi
    · exact (not_ready inv ((List.pairwise_cons.1 hp).1 i hm) (by simp) hi).elim

theorem wpAny_headO {Q : Exit → Act → World → Prop} (hsel : ∀ (j : Nat) (o : Oper) cs b, ops[j]? = some o → o.op ≠ .select cs b) (tl : List Nat) (hpt : tl.Pairwise (fun j i => dep ops 40 i j = true)) : ∀ (m : Nat) (pend : List Nat) (listed : Array Bool) (a : Act) (w : World), pend.length = m → Topo ops (pend ++ tl) → (pend ++ tl).Nodup →
    pend.Pairwise (fun j i => apartB ops j i = true ∨ dep ops 40 i j = true) → (∀ j ∈ pend, ∀ i ∈ tl, dep ops 40 i j = true) →
    Inv ops listed (pend ++ tl) → C w → qW P ops C (fun a' => ∀ w', C w' → wpOps P ops Q tl a' w') pend a → wpAny P .any ops Q (m + tl.length) listed a w
  | 0, pend, listed, a, w, hm, ht, hn, _, _, inv, hC, h => by
    obtain rfl := List.eq_nil_of_length_eq_zero hm
    rw [Nat.zero_add]
    exact wpAny_tailO tl listed a w ht hn hpt inv (h w hC)
  | m + 1, pend, listed, a, w, hm, ht, hn, hp, hjt, inv, hC, h => by
    cases pend with
    | nil => cases hm
    | cons p pend =>
      have hr := Topo.first_ready (l := pend ++ tl) inv ht
      rw [show m + 1 + tl.length = (m + tl.length) + 1 by omega]
      refine ⟨fun h0 => (by rw [h0] at hr; cases hr), fun i hi => ?_⟩
      have hmem := (inv.mem i).1 (mem_ready.1 hi).1
      rcases List.mem_append.1 hmem with hip | hit
      · obtain ⟨pre, post, hpp⟩ := List.append_of_mem hip
        rw [hpp] at h hm ht hn hp hjt inv
        have hreg : pre ++ i :: post ++ tl = pre ++ i :: (post ++ tl) := by simp
        obtain ⟨oi, hoi, _⟩ := ht pre i (post ++ tl) hreg
        have hpa : ∀ x ∈ pre, apartB ops x i = true := fun x hx => by
          rcases (List.pairwise_append.1 hp).2.2 x hx i (by simp) with h1 | h1
          · exact h1
          · exact (not_ready inv h1 (by simp [hx]) hi).elim
        have h1 := qW_bring hsel _ post i oi hoi pre a hpa h
        rw [hreg] at ht hn inv
        refine wpOp_of_qOp (P := P) (C := C) (Q' := Q) hC (fun a' w' hC' h2 => ?_) h1
        refine wpAny_headO hsel tl hpt m (pre ++ post) _ a' w' (by simp at hm ⊢; omega) ?_ ?_ ?_ ?_ ?_ hC' h2
        · rw [List.append_assoc]; exact Topo.drop ht
        · rw [List.append_assoc]; exact hn.sublist (by simp)
        · exact hp.sublist (by simp)
        · exact fun j hj k hk => hjt j (by simp at hj ⊢; rcases hj with h | h <;> simp [h]) k hk
        · rw [List.append_assoc]; exact Inv.set inv hn hi
      · exact (not_ready inv (hjt p (by simp) i hit) (by simp) hi).elim

theorem qW_of_pick {K : Act → Prop} (l : List Oper) : ∀ (ix : List Nat) (a : Act), (∀ i ∈ ix, i < l.length) → wpQuiet P l.toArray C K (pick l ix) a → qW P l.toArray C K ix a
  | [], _, _, h => h
  | i :: ix, a, hl, h => by
    have hi := hl i (by simp)
    have h0 : l.toArray[i]? = some (l.getD i default) := by simp [hi, List.getD_eq_getElem?_getD]
    show qOp P l.toArray C i (qW P l.toArray C K ix) a
    have hst : qOp P l.toArray C i (wpQuiet P l.toArray C K (pick l ix)) a := by unfold qOp; simp only [h0]; exact h
    exact qOp_mono (fun a' h' => qW_of_pick l ix a' (fun j hj => hl j (by simp [hj])) h') hst
theorem wpOps_of_pick {Q : Exit → Act → World → Prop} (l : List Oper) : ∀ (ix : List Nat), (∀ i ∈ ix, i < l.length) → wpOps P l.toArray Q ix = wpList P l.toArray Q (pick l ix)
  | [], _ => rfl
  | i :: ix, hl => by
    have hi := hl i (by simp)
    have h0 : l.toArray[i]? = some (l.getD i default) := by simp [hi, List.getD_eq_getElem?_getD]
    funext a w
    rw [wpOps_cons, wpOps_of_pick l ix (fun j hj => hl j (by simp [hj]))]
    unfold wpOp
    simp only [h0]
    rfl
/-- **The rule**, the head and the tail being given by their numbers. -/
theorem wp_region_ord {id : Nat} {Q : Exit → Act → World → Prop} {a : Act} {w : World} {l : List Oper} (hd tl : List Nat) (hm : P.follows .mixedOrders = true) (hB : chkOrd l.toArray hd tl = true) (hC : C { w with drawn := w.drawn + 1 })
    (h : wpQuiet P l.toArray C (fun a' => ∀ w', C w' → wpList P l.toArray Q (pick l tl) a' w') (pick l hd) a) : (Code.region id l.toArray true).wp P Q a w := by
  simp only [chkOrd, Bool.and_eq_true, decide_eq_true_eq, List.all_eq_true] at hB
  obtain ⟨⟨⟨⟨⟨⟨⟨h1, h2⟩, h3⟩, h4⟩, h5⟩, h6⟩, h7⟩, h8⟩ := hB
  have h4' : ∀ i ∈ hd ++ tl, i < l.length := fun i hi => by simpa using h4 i hi
  refine wp_region_any hm ?_
  have hq := qW_of_pick (P := P) (C := C) l hd a (fun i hi => h4' i (by simp [hi])) h
  rw [← wpOps_of_pick l tl (fun i hi => h4' i (by simp [hi]))] at hq
  have hall : ∀ i, i < l.length → i ∈ hd ++ tl := by
    intro i hi
    simpa using h8 i (by simpa using hi)
  have ht : Topo l.toArray (hd ++ tl) := by
    intro pre i post hl
    obtain ⟨o, ho, hal⟩ := topo_spec _ [] h5 pre i post hl
    refine ⟨o, ho, fun e he hb => ?_⟩
    have hin : e.on ∈ pre := (hal e he hb).resolve_left (by simp)
    refine ⟨fun hm2 => ?_, by have := h4' e.on (by rw [hl]; simp [hin]); simpa using this⟩
    rw [hl] at h3
    exact (List.nodup_append.1 h3).2.2 _ hin _ hm2 rfl
  have inv0 : Inv l.toArray (Array.replicate l.toArray.size false) (hd ++ tl) := by
    refine ⟨by simp, fun i => ?_, fun i o ho hi => absurd (hall i (by have := (Array.getElem?_eq_some_iff.1 ho).1; simpa using this)) hi⟩
    by_cases hi : i < l.length
    · simp only [hall i hi, iff_true]; simp [hi]
    · have : i ∉ hd ++ tl := fun hm2 => hi (h4' i hm2)
      simp only [this, iff_false]; simp [hi]
  have := wpAny_headO (P := P) (C := C) (Q := Q) (Region.noSelect_spec h1) tl (okTail_spec tl hd h7).2 hd.length hd _ a _ rfl ht h3 (okHead_spec hd [] h6).2 (okTail_spec tl hd h7).1 inv0 hC hq
  rw [List.length_append] at h2
  rw [h2] at this
  exact this

/-- At the class 'w after some draws'. -/
theorem wp_region_ordd {id : Nat} {Q : Exit → Act → World → Prop} {a : Act} {w : World} {l : List Oper} (hd tl : List Nat) (hm : P.follows .mixedOrders = true) (hB : chkOrd l.toArray hd tl = true)
    (h : wpQuiet P l.toArray (fun w' => ∃ n, w' = w.drewN n) (fun a' => ∀ w', (∃ n, w' = w.drewN n) → wpList P l.toArray Q (pick l tl) a' w') (pick l hd) a) : (Code.region id l.toArray true).wp P Q a w :=
  wp_region_ord (C := fun w' => ∃ n, w' = w.drewN n) hd tl hm hB ⟨1, rfl⟩ h
/-- At the class 'what was there is there, blocks may have been laid'. -/
theorem wp_region_qtb {id : Nat} {Q : Exit → Act → World → Prop} {a : Act} {w : World} {l : List Oper} (n : Nat) (hm : P.follows .mixedOrders = true) (hB : chkTail l.toArray n = true)
    (h : wpQuiet P l.toArray (fun w' => ∃ p : Regrown, w' = Go.Sort.grow (redrawn w p.d) p.os) (fun a' => ∀ w', (∃ p : Regrown, w' = Go.Sort.grow (redrawn w p.d) p.os) → wpList P l.toArray Q (l.drop n) a' w') (l.take n) a) : (Code.region id l.toArray true).wp P Q a w :=
  wp_region_qt (C := fun w' => ∃ p : Regrown, w' = Go.Sort.grow (redrawn w p.d) p.os) n hm hB ⟨⟨w.drawn + 1, #[]⟩, by rw [Go.Sort.grow_empty]; rfl⟩ h
end
end Go.Proofs.YtojffibjjicddaaDoor
