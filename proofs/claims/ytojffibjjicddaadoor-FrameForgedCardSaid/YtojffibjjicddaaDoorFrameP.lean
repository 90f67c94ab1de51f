/- Plain laws of frames: opened is what was sealed. -/
import Derived.Test.YtojffibjjicddaaDoorFrame3
namespace Go.Proofs.YtojffibjjicddaaDoor
theorem be8_get (s : Nat) (hs : s < 18446744073709551616) : be8N (be8 s) = s := by
  simp only [be8N, be8, List.foldl_cons, List.foldl_nil, UInt8.toNat_ofNat', Nat.shiftRight_eq_div_pow]
  omega
theorem be8_of {l : List UInt8} (h : l.length = 8) : be8 (be8N l) = l := by
  match l, h with
  | [a, b, c, d, e, f, g, i], _ =>
    have ha := a.toNat_lt
    have hb := b.toNat_lt
    have hc := c.toNat_lt
    have hd := d.toNat_lt
    have he := e.toNat_lt
    have hf := f.toNat_lt
    have hg := g.toNat_lt
    have hi := i.toNat_lt
    simp only [be8N, be8, List.foldl_cons, List.foldl_nil, Nat.shiftRight_eq_div_pow]
    simp only [List.cons.injEq, and_true]
    refine ⟨?_, ?_, ?_, ?_, ?_, ?_, ?_, ?_⟩ <;> (apply UInt8.toNat_inj.1; rw [UInt8.toNat_ofNat']; omega)
theorem headP_length (d s : Nat) (body : List UInt8) : (headP d s body).length = 10 + body.length := by
  unfold headP; simp [be8_length]; omega
theorem sealP_length (key : List UInt8) (d s : Nat) (body : List UInt8) : (sealP key d s body).length = body.length + 26 := by
  unfold sealP; rw [List.length_append, headP_length, tag_length]; omega
theorem sealP_text (key : List UInt8) (d s : Nat) (body : List UInt8) : (sealP key d s body).take ((sealP key d s body).length - 16) = headP d s body := by
  rw [sealP_length]
  unfold sealP
  rw [List.take_append_of_le_length (by rw [headP_length]; omega)]
  exact List.take_of_length_le (by rw [headP_length]; omega)
theorem sealP_tag (key : List UInt8) (d s : Nat) (body : List UInt8) : (sealP key d s body).drop ((sealP key d s body).length - 16) = tag key (headP d s body) := by
  rw [sealP_length]
  unfold sealP
  exact List.drop_left' (by rw [headP_length]; omega)
theorem sealP_two (key : List UInt8) (d s : Nat) (body : List UInt8) : (sealP key d s body).getD 0 0 = 1 ∧ (sealP key d s body).getD 1 0 = UInt8.ofNat d := ⟨rfl, rfl⟩
theorem sealP_num (key : List UInt8) (d s : Nat) (body : List UInt8) (hs : s < 18446744073709551616) : be8N (((sealP key d s body).drop 2).take 8) = s := by
  have : ((sealP key d s body).drop 2).take 8 = be8 s := rfl
  rw [this, be8_get s hs]
theorem headP_body (d s : Nat) (body : List UInt8) : (headP d s body).drop 10 = body := rfl
theorem openP_other {key key' : List UInt8} {d s : Nat} {body : List UInt8} (dir : Int) (hb : body.length ≤ 486) (h : tag key' (headP d s body) ≠ tag key (headP d s body)) : openP key' dir (sealP key d s body) = .error 11 := by
  unfold openP
  rw [if_neg (by rw [sealP_length]; omega), if_neg (by rw [sealP_length]; omega), sealP_text, sealP_tag, if_pos h]
theorem openP_side {key : List UInt8} {d s : Nat} {body : List UInt8} (dir : Int) (hb : body.length ≤ 486) (hd : d ≤ 1) (h : (d : Int) ≠ dir) : openP key dir (sealP key d s body) = .error 13 := by
  unfold openP
  rw [if_neg (by rw [sealP_length]; omega), if_neg (by rw [sealP_length]; omega), sealP_text, sealP_tag, if_neg (fun h => h rfl), if_pos]
  refine .inr ?_
  rw [(sealP_two key d s body).2, UInt8.toNat_ofNat']
  omega
theorem openP_seal {key : List UInt8} {d s : Nat} {body : List UInt8} (hb : body.length ≤ 486) (hd : d ≤ 1) (h1 : 1 ≤ s) (h2 : s ≤ 4611686018427387904) : openP key d (sealP key d s body) = .ok (s, body) := by
  unfold openP
  rw [if_neg (by rw [sealP_length]; omega), if_neg (by rw [sealP_length]; omega), sealP_text, sealP_tag, if_neg (fun h => h rfl), if_neg, sealP_num key d s body (by omega), if_neg, headP_body]
  · unfold sidedP
    rcases (show d = 0 ∨ d = 1 by omega) with rfl | rfl <;> simp <;> omega
  · rw [(sealP_two key d s body).1, (sealP_two key d s body).2, UInt8.toNat_ofNat']
    rintro (h | h)
    · exact h rfl
    · omega
theorem headP_of {b : List UInt8} (h1 : 26 ≤ b.length) (h6 : b.getD 0 0 = 1) : b.take (b.length - 16) = headP (b.getD 1 0).toNat (be8N ((b.drop 2).take 8)) ((b.take (b.length - 16)).drop 10) := by
  unfold headP
  rw [be8_of (by rw [List.length_take, List.length_drop]; omega)]
  match b, h1, h6 with
  | x :: y :: b, h1, h6 =>
    have h1' := h1
    rw [List.length_cons, List.length_cons] at h1'
    have e2 : (x :: y :: b).length - 16 = (b.length - 16) + 1 + 1 := by
      rw [List.length_cons, List.length_cons]
      omega
    rw [e2, List.take_succ_cons, List.take_succ_cons]
    have e3 : x = 1 := h6
    have e4 : UInt8.ofNat y.toNat = y := UInt8.toNat_inj.1 (by rw [UInt8.toNat_ofNat']; have := y.toNat_lt; omega)
    show x :: y :: b.take (b.length - 16) = 1 :: UInt8.ofNat y.toNat :: (b.take 8 ++ (b.take (b.length - 16)).drop 8)
    rw [e3, e4]
    have e5 : (b.take (b.length - 16)).take 8 = b.take 8 := by rw [List.take_take]; congr 1; omega
    rw [← e5, List.take_append_drop]
/-- What is opened stood so. -/
theorem openP_ok {key : List UInt8} {dir : Int} {b : List UInt8} {s : Nat} {body : List UInt8} (h : openP key dir b = .ok (s, body)) :
    ∃ d : Nat, dir = d ∧ d ≤ 1 ∧ 1 ≤ s ∧ s ≤ 4611686018427387904 ∧ body.length ≤ 486 ∧ b = sealP key d s body := by
  unfold openP at h
  by_cases h1 : b.length < 26
  · rw [if_pos h1] at h; cases h
  rw [if_neg h1] at h
  by_cases h2 : 512 < b.length
  · rw [if_pos h2] at h; cases h
  rw [if_neg h2] at h
  by_cases h3 : tag key (b.take (b.length - 16)) ≠ b.drop (b.length - 16)
  · rw [if_pos h3] at h; cases h
  rw [if_neg h3] at h
  have h3' : tag key (b.take (b.length - 16)) = b.drop (b.length - 16) := Decidable.byContradiction h3
  by_cases h4 : b.getD 0 0 ≠ 1 ∨ ((b.getD 1 0).toNat : Int) ≠ dir
  · rw [if_pos h4] at h; cases h
  rw [if_neg h4] at h
  by_cases h5 : be8N ((b.drop 2).take 8) < 1 ∨ 4611686018427387904 < be8N ((b.drop 2).take 8) ∨ sidedP dir = false
  · rw [if_pos h5] at h; cases h
  rw [if_neg h5] at h
  injection h with h
  injection h with hs hb
  have h6 : b.getD 0 0 = 1 := Decidable.byContradiction fun e => h4 (.inl e)
  have h7 : ((b.getD 1 0).toNat : Int) = dir := Decidable.byContradiction fun e => h4 (.inr e)
  have h8 : sidedP dir = true := by
    cases hq : sidedP dir
    · exact absurd (.inr (.inr hq)) h5
    · rfl
  refine ⟨(b.getD 1 0).toNat, h7.symm, ?_, by omega, by omega, ?_, ?_⟩
  · unfold sidedP at h8; simp at h8; omega
  · rw [← hb, List.length_drop, List.length_take]; omega
  · have e0 : b = b.take (b.length - 16) ++ tag key (b.take (b.length - 16)) := by rw [h3', List.take_append_drop]
    have e1 := headP_of (by omega) h6
    rw [hs, hb] at e1
    rw [e1] at e0
    exact e0
/-- Two that may be. -/
theorem headP_inj {d s d' s' : Nat} {body body' : List UInt8} (hd : d ≤ 1) (hd' : d' ≤ 1) (hs : s ≤ 4611686018427387904) (hs' : s' ≤ 4611686018427387904) (h : headP d s body = headP d' s' body') : d = d' ∧ s = s' ∧ body = body' := by
  unfold headP at h
  injection h with _ h
  injection h with h1 h
  obtain ⟨h2, h3⟩ := List.append_inj h rfl
  refine ⟨?_, ?_, h3⟩
  · have := congrArg UInt8.toNat h1
    rw [UInt8.toNat_ofNat', UInt8.toNat_ofNat'] at this
    omega
  · have := congrArg be8N h2
    rwa [be8_get s (by omega), be8_get s' (by omega)] at this
theorem sealP_inj {key : List UInt8} {d s d' s' : Nat} {body body' : List UInt8} (hd : d ≤ 1) (hd' : d' ≤ 1) (hs : s ≤ 4611686018427387904) (hs' : s' ≤ 4611686018427387904) :
    sealP key d s body = sealP key d' s' body' ↔ d = d' ∧ s = s' ∧ body = body' := by
  constructor
  · intro h
    have hl := congrArg List.length h
    rw [sealP_length, sealP_length] at hl
    unfold sealP at h
    obtain ⟨h1, _⟩ := List.append_inj h (by rw [headP_length, headP_length]; omega)
    exact headP_inj hd hd' hs hs' h1
  · rintro ⟨rfl, rfl, rfl⟩; rfl
end Go.Proofs.YtojffibjjicddaaDoor
