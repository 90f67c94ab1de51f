/- A region that draws its order, a third time: every operation of the head is a mere move, an operator or a slicing; it may come as late as it likes, if no operation of the tail waits for it. -/
import Derived.Test.YtojffibjjicddaaDoorReg2
namespace Go.Proofs.YtojffibjjicddaaDoor
section
variable {P : Program} {ops : Array Oper}
def plO (o : Oper) : Bool := match o.op with | .move _ => true | .binOp .. => true | .slice .. => true | _ => false
def plB (ops : Array Oper) (i : Nat) : Bool := match ops[i]? with | some o => plO o | none => false

abbrev anyW : World → Prop := fun _ => True
theorem value_of_bind (m : Sem Value) {w w' : World} {n : Next} (hr : (do let u ← m; pure (Next.value u) : Sem Next).run P w = .ok n w') : ∃ u, n = .value u := by
  rw [Sem.run_bind] at hr
  cases h : m.run P w with
  | ok u w1 =>
    rw [h] at hr
    injection hr with h1 _
    exact ⟨u, h1.symm⟩
  | halt c w1 => rw [h] at hr; cases hr
theorem pl_value {o : Oper} (h : plO o = true) (ρ : Operand → Value) (w w' : World) (n : Next) (hr : (execOp ρ o).run P w = .ok n w') : ∃ u, n = .value u := by
  unfold plO at h
  unfold execOp at hr
  split at h
  · rename_i x hx
    simp only [hx] at hr
    injection hr with h1 _
    exact ⟨_, h1.symm⟩
  · rename_i hx
    simp only [hx] at hr
    exact value_of_bind _ hr
  · rename_i hx
    simp only [hx] at hr
    exact value_of_bind _ hr
  · cases h
theorem yields_pl {o : Oper} (h : plO o = true) {a : Act} {v : Value} (hy : YieldsIn P ops anyW o v a) : Yields P ops o v a := by
  rcases hy with ⟨hw, hv⟩ | h1
  · refine .inl ⟨hw, fun w => ?_⟩
    have h1 := hv w trivial
    unfold Oper.quietAt at h1
    generalize hr : (execOp a.eval o).run P w = r at h1
    cases r with
    | halt c w' => cases h1
    | ok n w' =>
      obtain ⟨u, rfl⟩ := pl_value h _ _ _ _ hr
      obtain ⟨rfl, rfl⟩ := h1
      rfl
  · exact .inr h1
theorem in_of_yields {C : World → Prop} {o : Oper} {a : Act} {v : Value} (hy : Yields P ops o v a) : YieldsIn P ops C o v a := by
  rcases hy with ⟨hw, hv⟩ | h1
  · refine .inl ⟨hw, fun w _ => ?_⟩
    unfold Oper.quietAt
    rw [hv w]
    exact ⟨rfl, rfl⟩
  · exact .inr h1
theorem wpOp_pastQ {Q : Exit → Act → World → Prop} (hQ : ∀ c (a : Act) d v w, Q (.panic c) (a.put d v) w → Q (.panic c) a w) (hsel : ∀ (j : Nat) (o : Oper) cs b, ops[j]? = some o → o.op ≠ .select cs b) {k : Nat} {o : Oper} (hk : ops[k]? = some o) {K : Act → World → Prop} {w : World} :
    ∀ (pend : List Nat) (a : Act), (∀ p ∈ pend, plB ops p = true ∧ apartB ops p k = true) → qW P ops anyW (fun a' => wpOp P ops Q k K a' w) pend a → wpOp P ops Q k (fun a' w' => qW P ops anyW (fun a'' => K a'' w') pend a') a w
  | [], _, _, h => h
  | p :: pend, a, hp, h => by
    obtain ⟨hm, hap⟩ := hp p (by simp)
    unfold plB at hm
    unfold apartB at hap
    cases hop : ops[p]? with
    | none => rw [hop] at hm; cases hm
    | some op =>
      rw [hop] at hm
      rw [hop, hk] at hap
      simp only at hm hap
      obtain ⟨v, hy, h1⟩ := yieldsIn_of_qOp hop h
      have h2 := wpOp_pastQ hQ hsel hk pend (a.put op.dst v) (fun x hx => hp x (by simp [hx])) h1
      refine wpOp_mono (fun a' w' h3 => ?_) (wpOp_put hk hap (fun cs b => hsel p op cs b hop) (fun cs b => hsel k o cs b hk) (fun c a w => hQ c a _ _ w) (yields_pl hm hy) h2)
      exact (in_of_yields h3.1).qOp hop h3.2
theorem wpAny_headP {Q : Exit → Act → World → Prop} (hQ : ∀ c (a : Act) d v w, Q (.panic c) (a.put d v) w → Q (.panic c) a w) (hsel : ∀ (j : Nat) (o : Oper) cs b, ops[j]? = some o → o.op ≠ .select cs b) : ∀ (n : Nat) (pend tl : List Nat) (listed : Array Bool) (a : Act) (w : World), pend.length + tl.length = n → Topo ops (pend ++ tl) → (pend ++ tl).Nodup →
    pend.Pairwise (fun j i => apartB ops j i = true ∨ dep ops 40 i j = true) → tl.Pairwise (fun j i => dep ops 40 i j = true) → (∀ j ∈ pend, plB ops j = true) → (∀ j ∈ pend, ∀ i ∈ tl, dep ops 40 i j = true ∨ apartB ops j i = true) →
    Inv ops listed (pend ++ tl) → qW P ops anyW (fun a' => wpOps P ops Q tl a' w) pend a → wpAny P .any ops Q n listed a w
  | 0, pend, tl, listed, a, w, hn, ht, hnd, hp, hpt, hmv, hjt, inv, h => by
    obtain rfl := List.eq_nil_of_length_eq_zero (show pend.length = 0 by omega)
    obtain rfl := List.eq_nil_of_length_eq_zero (show tl.length = 0 by omega)
    refine ⟨?_, h⟩
    apply List.eq_nil_iff_forall_not_mem.2
    intro i hi
    have := (inv.mem i).1 (mem_ready.1 hi).1
    simp at this
  | n + 1, pend, tl, listed, a, w, hn, ht, hnd, hp, hpt, hmv, hjt, inv, h => by
    have hr : Region.ready .any ops listed ≠ [] := by
      intro h0
      cases hl : pend ++ tl with
      | nil =>
        have h9 := congrArg List.length hl
        rw [List.length_append, List.length_nil] at h9
        omega
      | cons x l =>
        rw [hl] at ht inv
        have := Topo.first_ready inv ht
        rw [h0] at this; cases this
    refine ⟨fun h0 => absurd h0 hr, fun i hi => ?_⟩
    have hmem := (inv.mem i).1 (mem_ready.1 hi).1
    rcases List.mem_append.1 hmem with hip | hit
    · obtain ⟨pre, post, hpp⟩ := List.append_of_mem hip
      rw [hpp] at h hn ht hnd hp hjt inv hmv
      have hreg : pre ++ i :: post ++ tl = pre ++ i :: (post ++ tl) := by simp
      obtain ⟨oi, hoi, _⟩ := ht pre i (post ++ tl) hreg
      have hpa : ∀ x ∈ pre, apartB ops x i = true := fun x hx => by
        rcases (List.pairwise_append.1 hp).2.2 x hx i (by simp) with h1 | h1
        · exact h1
        · exact (not_ready inv h1 (by simp [hx]) hi).elim
      have h1 := qW_bring hsel _ post i oi hoi pre a hpa h
      rw [hreg] at ht hnd inv
      obtain ⟨v, hy, h2⟩ := yieldsIn_of_qOp hoi h1
      have hmo : plO oi = true := by have := hmv i (by simp); unfold plB at this; rw [hoi] at this; exact this
      refine (yields_pl hmo hy).wpOp hoi ?_
      refine wpAny_headP hQ hsel n (pre ++ post) tl _ _ w (by simp only [List.length_append, List.length_cons] at hn ⊢; omega) ?_ ?_ ?_ hpt (fun p hp2 => hmv p (by simp at hp2 ⊢; rcases hp2 with h | h <;> simp [h])) ?_ ?_ h2
      · rw [List.append_assoc]; exact Topo.drop ht
      · rw [List.append_assoc]; exact hnd.sublist (by simp)
      · exact hp.sublist (by simp)
      · exact fun j hj k hk => hjt j (by simp at hj ⊢; rcases hj with h | h <;> simp [h]) k hk
      · rw [List.append_assoc]; exact Inv.set inv hnd hi
    · cases tl with
      | nil => cases hit
      | cons k tl =>
        have hik : i = k := by
          rcases List.mem_cons.1 hit with rfl | hm
          · rfl
          · exact (not_ready inv ((List.pairwise_cons.1 hpt).1 i hm) (by simp) hi).elim
        subst hik
        have hpast : ∀ p ∈ pend, plB ops p = true ∧ apartB ops p i = true := fun p hp2 => by
          refine ⟨hmv p hp2, ?_⟩
          rcases hjt p hp2 i (by simp) with h1 | h1
          · exact (not_ready inv h1 (by simp [hp2]) hi).elim
          · exact h1
        obtain ⟨oi, hoi, _⟩ := ht pend i tl rfl
        have e1 : (fun a' => wpOps P ops Q (i :: tl) a' w) = fun a' => wpOp P ops Q i (wpOps P ops Q tl) a' w := by
          funext a'
          rw [wpOps_cons]
        rw [e1] at h
        refine wpOp_mono (fun a' w' h2 => ?_) (wpOp_pastQ hQ hsel hoi pend a hpast h)
        refine wpAny_headP hQ hsel n pend tl _ a' w' (by rw [List.length_cons] at hn; omega) (Topo.drop ht) (hnd.sublist (by simp)) hp (List.pairwise_cons.1 hpt).2 hmv (fun j hj m hm => hjt j hj m (by simp [hm])) (Inv.set inv hnd hi) h2
def okTailP (ops : Array Oper) (hd : List Nat) : List Nat → List Nat → Bool
  | _, [] => true
  | seen, i :: rest => hd.all (fun j => dep ops 40 i j || apartB ops j i) && seen.all (fun j => dep ops 40 i j) && okTailP ops hd (i :: seen) rest
def chkOrdP (ops : Array Oper) (hd tl : List Nat) : Bool :=
  Region.noSelect ops && decide ((hd ++ tl).length = ops.size) && decide ((hd ++ tl).Nodup) && (hd ++ tl).all (fun i => decide (i < ops.size)) && topo ops [] (hd ++ tl) && okHead ops [] hd && okTailP ops hd [] tl && ((List.range ops.size).all fun i => (hd ++ tl).contains i) && hd.all (plB ops)
theorem okTailP_spec (hd : List Nat) : ∀ (l seen : List Nat), okTailP ops hd seen l = true → (∀ j ∈ hd, ∀ i ∈ l, dep ops 40 i j = true ∨ apartB ops j i = true) ∧ (∀ j ∈ seen, ∀ i ∈ l, dep ops 40 i j = true) ∧ l.Pairwise (fun j i => dep ops 40 i j = true)
  | [], _, _ => ⟨fun _ _ _ h => (by cases h), fun _ _ _ h => (by cases h), .nil⟩
  | x :: l, seen, h => by
    simp only [okTailP, Bool.and_eq_true, List.all_eq_true, Bool.or_eq_true] at h
    obtain ⟨h1, h2, h3⟩ := okTailP_spec hd l (x :: seen) h.2
    refine ⟨fun j hj i hi => ?_, fun j hj i hi => ?_, .cons (fun i hi => h2 x (by simp) i hi) h3⟩
    · rcases List.mem_cons.1 hi with rfl | hi
      · exact h.1.1 j hj
      · exact h1 j hj i hi
    · rcases List.mem_cons.1 hi with rfl | hi
      · exact h.1.2 j hj
      · exact h2 j (by simp [hj]) i hi
/-- **The rule.** -/
theorem wp_region_ordp {id : Nat} {Q : Exit → Act → World → Prop} {a : Act} {w : World} {l : List Oper} (hQ : ∀ c (a : Act) d v w, Q (.panic c) (a.put d v) w → Q (.panic c) a w) (hd tl : List Nat) (hm : P.follows .mixedOrders = true) (hB : chkOrdP l.toArray hd tl = true)
    (h : wpQuiet P l.toArray (fun _ => True) (fun a' => wpList P l.toArray Q (pick l tl) a' (w.drewN 1)) (pick l hd) a) : (Code.region id l.toArray true).wp P Q a w := by
  simp only [chkOrdP, Bool.and_eq_true, decide_eq_true_eq, List.all_eq_true] at hB
  obtain ⟨⟨⟨⟨⟨⟨⟨⟨h1, h2⟩, h3⟩, h4⟩, h5⟩, h6⟩, h7⟩, h8⟩, h10⟩ := hB
  have h4' : ∀ i ∈ hd ++ tl, i < l.length := fun i hi => by simpa using h4 i hi
  refine wp_region_any hm ?_
  have hq := qW_of_pick (P := P) (C := anyW) l hd a (fun i hi => h4' i (by simp [hi])) h
  rw [← wpOps_of_pick l tl (fun i hi => h4' i (by simp [hi]))] at hq
  have hall : ∀ i, i < l.length → i ∈ hd ++ tl := by
    intro i hi
    simpa using h8 i (by simpa using hi)
  have ht : Topo l.toArray (hd ++ tl) := by
    intro pre i post hl
    obtain ⟨o, ho, hal⟩ := topo_spec _ [] h5 pre i post hl
    refine ⟨o, ho, fun e he hb => ?_⟩
    have hin : e.on ∈ pre := (hal e he hb).resolve_left (by simp)
    refine ⟨fun hm2 => ?_, by have := h4' e.on (by rw [hl]; simp [hin]); simpa using this⟩
    rw [hl] at h3
    exact (List.nodup_append.1 h3).2.2 _ hin _ hm2 rfl
  have inv0 : Inv l.toArray (Array.replicate l.toArray.size false) (hd ++ tl) := by
    refine ⟨by simp, fun i => ?_, fun i o ho hi => absurd (hall i (by have := (Array.getElem?_eq_some_iff.1 ho).1; simpa using this)) hi⟩
    by_cases hi : i < l.length
    · simp only [hall i hi, iff_true]; simp [hi]
    · have : i ∉ hd ++ tl := fun hm2 => hi (h4' i hm2)
      simp only [this, iff_false]; simp [hi]
  have hs := okTailP_spec hd tl [] h7
  have := wpAny_headP (P := P) (Q := Q) hQ (Region.noSelect_spec h1) (hd.length + tl.length) hd tl _ a _ rfl ht h3 (okHead_spec hd [] h6).2 hs.2.2 h10 hs.1 inv0 hq
  rw [List.length_append] at h2
  rw [h2] at this
  exact this
end
end Go.Proofs.YtojffibjjicddaaDoor
