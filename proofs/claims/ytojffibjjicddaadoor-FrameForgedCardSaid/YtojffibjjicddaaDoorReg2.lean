/- A region that draws its order, once more: beside what the first text on such regions allows, a mere move may come as late as it likes, if no operation of the tail waits for it. -/
import Derived.Test.YtojffibjjicddaaDoorReg
namespace Go.Proofs.YtojffibjjicddaaDoor
section
variable {P : Program} {ops : Array Oper} {C : World → Prop}
def mvO (o : Oper) : Bool := match o.op with | .move _ => true | _ => false
def mvB (ops : Array Oper) (i : Nat) : Bool := match ops[i]? with | some o => mvO o | none => false
def mvV (ops : Array Oper) (o : Oper) (a : Act) : Value := if Region.wanted o (yielded ops a.tmps) = true then (match o.op with | .move x => a.eval x | _ => undef) else undef
def mv (ops : Array Oper) (i : Nat) (a : Act) : Act := match ops[i]? with | some o => a.put o.dst (mvV ops o a) | none => a
def mvs (ops : Array Oper) : List Nat → Act → Act
  | [], a => a
  | i :: l, a => mvs ops l (mv ops i a)
theorem mvO_op {o : Oper} (h : mvO o = true) : ∃ x, o.op = .move x := by
  unfold mvO at h
  split at h
  · exact ⟨_, by assumption⟩
  · cases h
theorem mvO_sel {o : Oper} (h : mvO o = true) : ∀ cs b, o.op ≠ .select cs b := by
  obtain ⟨x, hx⟩ := mvO_op h
  intro cs b e
  rw [hx] at e
  cases e
theorem mv_run {o : Oper} (a : Act) {x : Operand} (h : o.op = .move x) (w : World) : (execOp a.eval o).run P w = .ok (.value (a.eval x)) w := by
  unfold execOp
  simp only [h]
  rfl
theorem mv_yields {o : Oper} (h : mvO o = true) (a : Act) : Yields P ops o (mvV ops o a) a := by
  obtain ⟨x, hx⟩ := mvO_op h
  unfold Yields mvV
  by_cases hw : Region.wanted o (yielded ops a.tmps) = true
  · rw [if_pos hw, hx]
    exact .inl ⟨hw, mv_run a hx⟩
  · rw [if_neg hw]
    exact .inr ⟨by simpa using hw, rfl⟩
theorem yields_mv {o : Oper} (h : mvO o = true) {a : Act} {v : Value} (hy : Yields P ops o v a) : v = mvV ops o a := by
  obtain ⟨x, hx⟩ := mvO_op h
  unfold mvV
  rcases hy with ⟨hw, hv⟩ | ⟨hw, rfl⟩
  · rw [if_pos hw, hx]
    have h1 := hv default
    rw [mv_run a hx] at h1
    injection h1 with h1 _
    injection h1 with h1
    exact h1.symm
  · rw [if_neg (by rw [hw]; decide)]
theorem mv_of_qOp {i : Nat} {o : Oper} {a : Act} {K : Act → Prop} (hi : ops[i]? = some o) (hm : mvO o = true) (w : World) (hC : C w) (h : qOp P ops C i K a) : K (mv ops i a) := by
  obtain ⟨x, hx⟩ := mvO_op hm
  obtain ⟨v, hy, hK⟩ := yieldsIn_of_qOp hi h
  have hv : v = mvV ops o a := by
    unfold mvV
    rcases hy with ⟨hw, hv⟩ | ⟨hw, rfl⟩
    · rw [if_pos hw, hx]
      have h1 := hv w hC
      unfold Oper.quietAt at h1
      rw [mv_run a hx] at h1
      exact h1.2.symm
    · rw [if_neg (by rw [hw]; decide)]
  unfold mv
  rw [hi]
  rw [hv] at hK
  exact hK
theorem mvV_put {o : Oper} (h : mvO o = true) (a : Act) (d : Option Tmp) (v : Value) (hd : ∀ t, d = some t → t ∉ o.looksAt ops) : mvV ops o (a.put d v) = mvV ops o a :=
  (yields_mv (P := (default : Program)) h ((mv_yields (P := (default : Program)) h a).of_same (execOp_put o (mvO_sel h) a d v hd) (wanted_put o a d v hd))).symm
theorem mv_comm {x i : Nat} (hx : mvB ops x = true) (hi : mvB ops i = true) (hap : apartB ops x i = true) (a : Act) : mv ops i (mv ops x a) = mv ops x (mv ops i a) := by
  unfold mvB at hx hi
  unfold apartB at hap
  cases hox : ops[x]? with
  | none => rw [hox] at hx; cases hx
  | some ox =>
    cases hoi : ops[i]? with
    | none => rw [hoi] at hi; cases hi
    | some oi =>
      rw [hox] at hx
      rw [hoi] at hi
      rw [hox, hoi] at hap
      simp only at hx hi hap
      obtain ⟨h1, h2, h3⟩ := Oper.apart_spec hap
      unfold mv
      simp only [hox, hoi]
      rw [mvV_put hi a _ _ h1, mvV_put hx a _ _ h3, Act.put_comm a _ _ h2]
theorem mvs_bring (post : List Nat) (i : Nat) (hi : mvB ops i = true) : ∀ (pre : List Nat) (a : Act), (∀ x ∈ pre, mvB ops x = true ∧ apartB ops x i = true) → mvs ops (pre ++ i :: post) a = mvs ops (pre ++ post) (mv ops i a)
  | [], _, _ => rfl
  | x :: pre, a, h => by
    show mvs ops (pre ++ i :: post) (mv ops x a) = mvs ops (pre ++ post) (mv ops x (mv ops i a))
    rw [mvs_bring post i hi pre (mv ops x a) (fun y hy => h y (by simp [hy])), mv_comm (h x (by simp)).1 hi (h x (by simp)).2]
theorem mvs_append (l m : List Nat) (a : Act) : mvs ops (l ++ m) a = mvs ops m (mvs ops l a) := by
  induction l generalizing a with
  | nil => rfl
  | cons x l ih => exact ih _
/-- An operation past moves that are apart from it. -/
theorem wpOp_past {Q : Exit → Act → World → Prop} (hQ : ∀ c (a : Act) d v w, Q (.panic c) (a.put d v) w → Q (.panic c) a w) {k : Nat} {o : Oper} (hk : ops[k]? = some o) (hsk : ∀ cs b, o.op ≠ .select cs b) {K : Act → World → Prop} {w : World} :
    ∀ (pend : List Nat) (a : Act), (∀ p ∈ pend, mvB ops p = true ∧ apartB ops p k = true) → wpOp P ops Q k K (mvs ops pend a) w → wpOp P ops Q k (fun a' w' => K (mvs ops pend a') w') a w
  | [], _, _, h => h
  | p :: pend, a, hp, h => by
    have h1 := wpOp_past hQ hk hsk pend (mv ops p a) (fun x hx => hp x (by simp [hx])) h
    obtain ⟨hm, hap⟩ := hp p (by simp)
    unfold mvB at hm
    unfold apartB at hap
    cases hop : ops[p]? with
    | none => rw [hop] at hm; cases hm
    | some op =>
      rw [hop] at hm
      rw [hop, hk] at hap
      simp only at hm hap
      have e1 : mv ops p a = a.put op.dst (mvV ops op a) := by unfold mv; rw [hop]
      rw [e1] at h1
      refine wpOp_mono (fun a' w' h2 => ?_) (wpOp_put hk hap (mvO_sel hm) hsk (fun c a w => hQ c a _ _ w) (mv_yields hm a) h1)
      obtain ⟨h3, h4⟩ := h2
      have h5 := yields_mv hm h3
      show K (mvs ops pend (mv ops p a')) w'
      have e2 : mv ops p a' = a'.put op.dst (mvV ops op a') := by unfold mv; rw [hop]
      rw [e2, ← h5]
      exact h4
theorem mem_split {i : Nat} {l : List Nat} (h : i ∈ l) : ∃ pre post, l = pre ++ i :: post := List.append_of_mem h
/-- Moves are left, and a tail. -/
theorem wpAny_mix {Q : Exit → Act → World → Prop} (hQ : ∀ c (a : Act) d v w, Q (.panic c) (a.put d v) w → Q (.panic c) a w) (hsel : ∀ (j : Nat) (o : Oper) cs b, ops[j]? = some o → o.op ≠ .select cs b) : ∀ (n : Nat) (pend tl : List Nat) (listed : Array Bool) (a : Act) (w : World), pend.length + tl.length = n → Topo ops (pend ++ tl) → (pend ++ tl).Nodup →
    (∀ p ∈ pend, mvB ops p = true) → pend.Pairwise (fun j i => apartB ops j i = true ∨ dep ops 40 i j = true) → tl.Pairwise (fun j i => dep ops 40 i j = true) → (∀ j ∈ pend, ∀ i ∈ tl, dep ops 40 i j = true ∨ apartB ops j i = true) →
    Inv ops listed (pend ++ tl) → wpOps P ops Q tl (mvs ops pend a) w → wpAny P .any ops Q n listed a w
  | 0, pend, tl, listed, a, w, hn, _, _, _, _, _, _, inv, h => by
    obtain rfl := List.eq_nil_of_length_eq_zero (show pend.length = 0 by omega)
    obtain rfl := List.eq_nil_of_length_eq_zero (show tl.length = 0 by omega)
    refine ⟨?_, h⟩
    apply List.eq_nil_iff_forall_not_mem.2
    intro i hi
    have := (inv.mem i).1 (mem_ready.1 hi).1
    simp at this
  | n + 1, pend, tl, listed, a, w, hn, ht, hnd, hmv, hp, hpt, hjt, inv, h => by
    have hr : Region.ready .any ops listed ≠ [] := by
      intro h0
      cases hl : pend ++ tl with
      | nil =>
        have h9 := congrArg List.length hl
        rw [List.length_append, List.length_nil] at h9
        omega
      | cons x l =>
        rw [hl] at ht inv
        have := Topo.first_ready inv ht
        rw [h0] at this; cases this
    refine ⟨fun h0 => absurd h0 hr, fun i hi => ?_⟩
    have hmem := (inv.mem i).1 (mem_ready.1 hi).1
    rcases List.mem_append.1 hmem with hip | hit
    · obtain ⟨pre, post, hpp⟩ := List.append_of_mem hip
      rw [hpp] at h hn ht hnd hp hjt inv hmv
      have hreg : pre ++ i :: post ++ tl = pre ++ i :: (post ++ tl) := by simp
      obtain ⟨oi, hoi, _⟩ := ht pre i (post ++ tl) hreg
      have hpa : ∀ x ∈ pre, mvB ops x = true ∧ apartB ops x i = true := fun x hx => by
        refine ⟨hmv x (by simp [hx]), ?_⟩
        rcases (List.pairwise_append.1 hp).2.2 x hx i (by simp) with h1 | h1
        · exact h1
        · exact (not_ready inv h1 (by simp [hx]) hi).elim
      have hmi := hmv i (by simp)
      rw [mvs_bring post i hmi pre a hpa] at h
      rw [hreg] at ht hnd inv
      have hmo : mvO oi = true := by unfold mvB at hmi; rw [hoi] at hmi; exact hmi
      have e1 : mv ops i a = a.put oi.dst (mvV ops oi a) := by unfold mv; rw [hoi]
      rw [e1] at h
      refine (mv_yields (P := P) (ops := ops) hmo a).wpOp hoi ?_
      refine wpAny_mix hQ hsel n (pre ++ post) tl _ _ w (by simp only [List.length_append, List.length_cons] at hn ⊢; omega) ?_ ?_ (fun p hp2 => hmv p (by simp at hp2 ⊢; rcases hp2 with h | h <;> simp [h])) ?_ hpt ?_ ?_ h
      · rw [List.append_assoc]; exact Topo.drop ht
      · rw [List.append_assoc]; exact hnd.sublist (by simp)
      · exact hp.sublist (by simp)
      · exact fun j hj k hk => hjt j (by simp at hj ⊢; rcases hj with h | h <;> simp [h]) k hk
      · rw [List.append_assoc]; exact Inv.set inv hnd hi
    · cases tl with
      | nil => cases hit
      | cons k tl =>
        have hik : i = k := by
          rcases List.mem_cons.1 hit with rfl | hm
          · rfl
          · exact (not_ready inv ((List.pairwise_cons.1 hpt).1 i hm) (by simp) hi).elim
        subst hik
        have hpast : ∀ p ∈ pend, mvB ops p = true ∧ apartB ops p i = true := fun p hp2 => by
          refine ⟨hmv p hp2, ?_⟩
          rcases hjt p hp2 i (by simp) with h1 | h1
          · exact (not_ready inv h1 (by simp [hp2]) hi).elim
          · exact h1
        obtain ⟨oi, hoi, _⟩ := ht pend i tl rfl
        rw [wpOps_cons] at h
        refine wpOp_mono (fun a' w' h2 => ?_) (wpOp_past hQ hoi (fun cs b => hsel i oi cs b hoi) pend a hpast h)
        refine wpAny_mix hQ hsel n pend tl _ a' w' (by rw [List.length_cons] at hn; omega) (Topo.drop ht) (hnd.sublist (by simp)) hmv hp (List.pairwise_cons.1 hpt).2 (fun j hj m hm => hjt j hj m (by simp [hm])) (Inv.set inv hnd hi) h2
theorem qW_mvs {K : Act → Prop} (w : World) (hC : C w) : ∀ (pend : List Nat) (a : Act), (∀ p ∈ pend, mvB ops p = true) → qW P ops C K pend a → K (mvs ops pend a)
  | [], _, _, h => h
  | p :: pend, a, hm, h => by
    have h1 := hm p (by simp)
    unfold mvB at h1
    cases hop : ops[p]? with
    | none => rw [hop] at h1; cases h1
    | some op =>
      rw [hop] at h1
      exact qW_mvs w hC pend _ (fun x hx => hm x (by simp [hx])) (mv_of_qOp hop h1 w hC h)
theorem wpAny_headM {Q : Exit → Act → World → Prop} (hQ : ∀ c (a : Act) d v w, Q (.panic c) (a.put d v) w → Q (.panic c) a w) (hsel : ∀ (j : Nat) (o : Oper) cs b, ops[j]? = some o → o.op ≠ .select cs b) (tl : List Nat) (hpt : tl.Pairwise (fun j i => dep ops 40 i j = true)) : ∀ (m : Nat) (pend : List Nat) (listed : Array Bool) (a : Act) (w : World), pend.length = m → Topo ops (pend ++ tl) → (pend ++ tl).Nodup →
    pend.Pairwise (fun j i => apartB ops j i = true ∨ dep ops 40 i j = true) → (∀ j ∈ pend, ∀ i ∈ tl, dep ops 40 i j = true ∨ (mvB ops j = true ∧ apartB ops j i = true)) →
    Inv ops listed (pend ++ tl) → C w → qW P ops C (fun a' => ∀ w', C w' → wpOps P ops Q tl a' w') pend a → wpAny P .any ops Q (m + tl.length) listed a w
  | m, pend, listed, a, w, hm, ht, hn, hp, hjt, inv, hC, h => by
    by_cases hall : ∀ p ∈ pend, mvB ops p = true
    · exact wpAny_mix hQ hsel _ pend tl listed a w (by rw [hm]) ht hn hall hp hpt (fun j hj i hi => (hjt j hj i hi).imp id And.right) inv (qW_mvs w hC pend a hall h w hC)
    · have hex : ∃ p, p ∈ pend ∧ mvB ops p = false := by
        apply Decidable.byContradiction
        intro hne
        apply hall
        intro p hp2
        cases hb : mvB ops p with
        | true => rfl
        | false => exact (hne ⟨p, hp2, hb⟩).elim
      obtain ⟨p0, hp0, hb0⟩ := hex
      match m, pend, hm, hp0 with
      | 0, pend, hm, hp0 => rw [List.eq_nil_of_length_eq_zero hm] at hp0; cases hp0
      | m + 1, p :: pend, hm, hp0 =>
        have hr := Topo.first_ready (l := pend ++ tl) inv ht
        rw [show m + 1 + tl.length = (m + tl.length) + 1 by omega]
        refine ⟨fun h0 => (by rw [h0] at hr; cases hr), fun i hi => ?_⟩
        have hmem := (inv.mem i).1 (mem_ready.1 hi).1
        rcases List.mem_append.1 hmem with hip | hit
        · obtain ⟨pre, post, hpp⟩ := List.append_of_mem hip
          rw [hpp] at h hm ht hn hp hjt inv
          have hreg : pre ++ i :: post ++ tl = pre ++ i :: (post ++ tl) := by simp
          obtain ⟨oi, hoi, _⟩ := ht pre i (post ++ tl) hreg
          have hpa : ∀ x ∈ pre, apartB ops x i = true := fun x hx => by
            rcases (List.pairwise_append.1 hp).2.2 x hx i (by simp) with h1 | h1
            · exact h1
            · exact (not_ready inv h1 (by simp [hx]) hi).elim
          have h1 := qW_bring hsel _ post i oi hoi pre a hpa h
          rw [hreg] at ht hn inv
          refine wpOp_of_qOp (P := P) (C := C) (Q' := Q) hC (fun a' w' hC' h2 => ?_) h1
          refine wpAny_headM hQ hsel tl hpt m (pre ++ post) _ a' w' (by simp at hm ⊢; omega) ?_ ?_ ?_ ?_ ?_ hC' h2
          · rw [List.append_assoc]; exact Topo.drop ht
          · rw [List.append_assoc]; exact hn.sublist (by simp)
          · exact hp.sublist (by simp)
          · exact fun j hj k hk => hjt j (by simp at hj ⊢; rcases hj with h | h <;> simp [h]) k hk
          · rw [List.append_assoc]; exact Inv.set inv hn hi
        · rcases hjt p0 hp0 i hit with h1 | h1
          · exact (not_ready inv h1 (by simp only [List.mem_append]; exact .inl hp0) hi).elim
          · rw [hb0] at h1; cases h1.1
def okTailM (ops : Array Oper) (hd : List Nat) : List Nat → List Nat → Bool
  | _, [] => true
  | seen, i :: rest => hd.all (fun j => dep ops 40 i j || (mvB ops j && apartB ops j i)) && seen.all (fun j => dep ops 40 i j) && okTailM ops hd (i :: seen) rest
def chkOrdM (ops : Array Oper) (hd tl : List Nat) : Bool :=
  Region.noSelect ops && decide ((hd ++ tl).length = ops.size) && decide ((hd ++ tl).Nodup) && (hd ++ tl).all (fun i => decide (i < ops.size)) && topo ops [] (hd ++ tl) && okHead ops [] hd && okTailM ops hd [] tl && (List.range ops.size).all fun i => (hd ++ tl).contains i
theorem okTailM_spec (hd : List Nat) : ∀ (l seen : List Nat), okTailM ops hd seen l = true → (∀ j ∈ hd, ∀ i ∈ l, dep ops 40 i j = true ∨ (mvB ops j = true ∧ apartB ops j i = true)) ∧ (∀ j ∈ seen, ∀ i ∈ l, dep ops 40 i j = true) ∧ l.Pairwise (fun j i => dep ops 40 i j = true)
  | [], _, _ => ⟨fun _ _ _ h => (by cases h), fun _ _ _ h => (by cases h), .nil⟩
  | x :: l, seen, h => by
    simp only [okTailM, Bool.and_eq_true, List.all_eq_true, Bool.or_eq_true] at h
    obtain ⟨h1, h2, h3⟩ := okTailM_spec hd l (x :: seen) h.2
    refine ⟨fun j hj i hi => ?_, fun j hj i hi => ?_, .cons (fun i hi => h2 x (by simp) i hi) h3⟩
    · rcases List.mem_cons.1 hi with rfl | hi
      · exact h.1.1 j hj
      · exact h1 j hj i hi
    · rcases List.mem_cons.1 hi with rfl | hi
      · exact h.1.2 j hj
      · exact h2 j (by simp [hj]) i hi
/-- **The rule.** -/
theorem wp_region_ordm {id : Nat} {Q : Exit → Act → World → Prop} {a : Act} {w : World} {l : List Oper} (hQ : ∀ c (a : Act) d v w, Q (.panic c) (a.put d v) w → Q (.panic c) a w) (hd tl : List Nat) (hm : P.follows .mixedOrders = true) (hB : chkOrdM l.toArray hd tl = true) (hC : C { w with drawn := w.drawn + 1 })
    (h : wpQuiet P l.toArray C (fun a' => ∀ w', C w' → wpList P l.toArray Q (pick l tl) a' w') (pick l hd) a) : (Code.region id l.toArray true).wp P Q a w := by
  simp only [chkOrdM, Bool.and_eq_true, decide_eq_true_eq, List.all_eq_true] at hB
  obtain ⟨⟨⟨⟨⟨⟨⟨h1, h2⟩, h3⟩, h4⟩, h5⟩, h6⟩, h7⟩, h8⟩ := hB
  have h4' : ∀ i ∈ hd ++ tl, i < l.length := fun i hi => by simpa using h4 i hi
  refine wp_region_any hm ?_
  have hq := qW_of_pick (P := P) (C := C) l hd a (fun i hi => h4' i (by simp [hi])) h
  rw [← wpOps_of_pick l tl (fun i hi => h4' i (by simp [hi]))] at hq
  have hall : ∀ i, i < l.length → i ∈ hd ++ tl := by
    intro i hi
    simpa using h8 i (by simpa using hi)
  have ht : Topo l.toArray (hd ++ tl) := by
    intro pre i post hl
    obtain ⟨o, ho, hal⟩ := topo_spec _ [] h5 pre i post hl
    refine ⟨o, ho, fun e he hb => ?_⟩
    have hin : e.on ∈ pre := (hal e he hb).resolve_left (by simp)
    refine ⟨fun hm2 => ?_, by have := h4' e.on (by rw [hl]; simp [hin]); simpa using this⟩
    rw [hl] at h3
    exact (List.nodup_append.1 h3).2.2 _ hin _ hm2 rfl
  have inv0 : Inv l.toArray (Array.replicate l.toArray.size false) (hd ++ tl) := by
    refine ⟨by simp, fun i => ?_, fun i o ho hi => absurd (hall i (by have := (Array.getElem?_eq_some_iff.1 ho).1; simpa using this)) hi⟩
    by_cases hi : i < l.length
    · simp only [hall i hi, iff_true]; simp [hi]
    · have : i ∉ hd ++ tl := fun hm2 => hi (h4' i hm2)
      simp only [this, iff_false]; simp [hi]
  have hs := okTailM_spec hd tl [] h7
  have := wpAny_headM (P := P) (C := C) (Q := Q) hQ (Region.noSelect_spec h1) tl hs.2.2 hd.length hd _ a _ rfl ht h3 (okHead_spec hd [] h6).2 hs.1 inv0 hC hq
  rw [List.length_append] at h2
  rw [h2] at this
  exact this
/-- At the class 'w after some draws'. -/
theorem wp_region_ordmd {id : Nat} {Q : Exit → Act → World → Prop} {a : Act} {w : World} {l : List Oper} (hQ : ∀ c (a : Act) d v w, Q (.panic c) (a.put d v) w → Q (.panic c) a w) (hd tl : List Nat) (hm : P.follows .mixedOrders = true) (hB : chkOrdM l.toArray hd tl = true)
    (h : wpQuiet P l.toArray (fun w' => ∃ n, w' = w.drewN n) (fun a' => ∀ w', (∃ n, w' = w.drewN n) → wpList P l.toArray Q (pick l tl) a' w') (pick l hd) a) : (Code.region id l.toArray true).wp P Q a w :=
  wp_region_ordm (C := fun w' => ∃ n, w' = w.drewN n) hQ hd tl hm hB ⟨1, rfl⟩ h
end
end Go.Proofs.YtojffibjjicddaaDoor
