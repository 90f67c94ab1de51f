/- The guard awake of the statements of layer 19 answers true, in every world that holds the listed variable. -/
import Derived.Test.YtojffibjjicddaaDoorSame2
import Derived.Test.YtojffibjjicddaaDoorFrameP
import Derived.Test.YtojffibjjicddaaDoorCode
import Derived.Lib.SmallJoins
namespace Go.Proofs.YtojffibjjicddaaDoor
open Go.RowKit
theorem SealAns.ok {e : Ending} {w w' : World} {key body : List UInt8} {dir seq : Int} (h : SealAns e w w' key body dir seq) (h1 : sidedP dir = true) (h2 : numberedP seq = true) (h3 : body.length ≤ 486) :
    ∃ A c, e = .returned (.tuple #[.slice A (body.length + 26) c, .nilIface]) ∧ Own w' w.heap.size 5 1 (.slice A (body.length + 26) c) (body.length + 26) (bcells (sealP key dir.toNat seq.toNat body)) ∧ RdB w' (.slice A (body.length + 26) c) (sealP key dir.toNat seq.toNat body) ∧ body.length + 26 ≤ c ∧ c ≤ 9223372036854775807 := by
  unfold SealAns at h
  rw [h1, h2, if_pos (show (true && true) = true from rfl), if_neg (by omega)] at h
  obtain ⟨r, he, ho⟩ := h
  obtain ⟨A, c, rfl⟩ := ho.slice
  exact ⟨A, c, he, ho, ho.rdB.1, ho.le.1, ho.le.2⟩
theorem SealAns.bad {e : Ending} {w w' : World} {key body : List UInt8} {dir seq : Int} (h : SealAns e w w' key body dir seq) (h1 : ¬ (sidedP dir = true ∧ numberedP seq = true ∧ body.length ≤ 486)) :
    ∃ n, e = .returned (.tuple #[.slice none 0 0, errV n]) := by
  unfold SealAns at h
  split at h
  · rename_i h2
    simp only [Bool.and_eq_true] at h2
    rw [if_pos (Nat.lt_of_not_le fun h4 => h1 ⟨h2.1, h2.2, h4⟩)] at h
    exact ⟨6, h⟩
  · exact ⟨1, h⟩
theorem OpenAns.ok {e : Ending} {w w' : World} {key b : List UInt8} {dir : Int} {s : Nat} {body : List UInt8} (h : OpenAns e w w' key dir b) (ho : openP key dir b = .ok (s, body)) :
    ∃ A c, e = .returned (.tuple #[.agg #[.int .i64 dir, .int .i64 (s : Int), .slice A body.length c], .nilIface]) ∧ Own w' w.heap.size 5 1 (.slice A body.length c) body.length (bcells body) ∧ RdB w' (.slice A body.length c) body := by
  unfold OpenAns at h
  rw [ho] at h
  obtain ⟨r, he, ho⟩ := h
  obtain ⟨A, c, rfl⟩ := ho.slice
  exact ⟨A, c, he, ho, ho.rdB.1⟩
theorem OpenAns.bad {e : Ending} {w w' : World} {key b : List UInt8} {dir : Int} {n : Int} (h : OpenAns e w w' key dir b) (ho : openP key dir b = .error n) :
    e = .returned (.tuple #[.agg #[.int .i64 0, .int .i64 0, .slice none 0 0], errV n]) := by
  unfold OpenAns at h
  rw [ho] at h
  exact h
theorem rdB_nil (w : World) : RdB w (.slice none 0 0) [] := ⟨none, 0, rfl, fun h => absurd h (by decide)⟩
theorem rdB_one (w : World) (c : UInt8) (n : Int) (h : n = (c.toNat : Int)) : RdB (w.alloc (.cells #[.int .u8 n] 5 (1, 2))) (.slice (some ⟨w.heap.size, 0, none⟩) 1 1) [c] := by
  subst h
  refine ⟨_, 1, rfl, fun _ => ⟨w.heap.size, 0, rfl, fun j hj => ?_⟩⟩
  obtain rfl : j = 0 := by simpa using hj
  exact Go.Joins.cell_alloc_mark_at w _ _ _ _ _ rfl
theorem tag_kl : tag [108] (headP 0 1 []) ≠ tag [107] (headP 0 1 []) := by decide +kernel
theorem awake_p : openP [107] 0 (sealP [107] 0 1 []) = .ok (1, []) ∧ openP [108] 0 (sealP [107] 0 1 []) = .error 11 ∧ openP [107] 1 (sealP [107] 0 1 []) = .error 13 :=
  ⟨openP_seal (by decide) (by decide) (by decide) (by decide), openP_other 0 (by decide) tag_kl, openP_side 1 (by decide) (by decide) (by decide)⟩
theorem kb_one (w : World) (o : Obj) (n c : Nat) : ∀ b, blockOf (.slice (some ⟨w.heap.size, 0, none⟩) n c) = some b → b < (w.alloc o).heap.size := by
  intro b hb
  obtain rfl : w.heap.size = b := Option.some.inj hb
  simp
set_option maxRecDepth 100000 in
theorem seal19 (w : World) (kv : Value) (hk : RdB w kv [107]) (hkb : ∀ b, blockOf kv = some b → b < w.heap.size) :
    Calls Tryd.prog 11 #[kv, .agg #[.int .i64 0, .int .i64 1, .slice none 0 0]] w fun e w' => ∃ A c, e = .returned (.tuple #[.slice A 26 c, .nilIface]) ∧ RdB w' (.slice A 26 c) (sealP [107] 0 1 []) ∧ (∀ b, blockOf (.slice A 26 c) = some b → b < w'.heap.size) ∧ (26 ≤ c ∧ c ≤ 9223372036854775807) ∧ Below w.heap.size w w' := by
  refine (seal_any w kv [107] hk hkb (by decide) 0 1 _ [] (rdB_nil _) (by decide)).mono ?_
  rintro e w1 ⟨ha1, hb1⟩
  obtain ⟨A, c, he, ho1, hr1, hc1⟩ := ha1.ok (by decide) (by decide) (by decide)
  exact ⟨A, c, he, hr1, fun b hb => (ho1.lt b hb).2, hc1, hb1⟩
theorem open19 (w : World) (kv : Value) (key : UInt8) (dir : Int) (A : Option Addr) (c : Nat) (hk : RdB w kv [key]) (hkb : ∀ b, blockOf kv = some b → b < w.heap.size) (hb : RdB w (.slice A 26 c) (sealP [107] 0 1 [])) (hbb : ∀ b, blockOf (.slice A 26 c) = some b → b < w.heap.size) (hc : 26 ≤ c ∧ c ≤ 9223372036854775807) :
    Calls Tryd.prog 12 #[kv, .int .i64 dir, .slice A 26 c] w fun e w' => OpenAns e w w' [key] dir (sealP [107] 0 1 []) ∧ Below w.heap.size w w' :=
  open_any w kv [key] hk hkb (by simp) dir _ _ hb hbb (by rw [sealP_length]; decide) (fun _ _ _ h => by injection h with h1 h2 h3; subst h2 h3; exact hc)
set_option maxRecDepth 100000 in
theorem open19_ok (w : World) (kv : Value) (A : Option Addr) (c : Nat) (hk : RdB w kv [107]) (hkb : ∀ b, blockOf kv = some b → b < w.heap.size) (hb : RdB w (.slice A 26 c) (sealP [107] 0 1 [])) (hbb : ∀ b, blockOf (.slice A 26 c) = some b → b < w.heap.size) (hc : 26 ≤ c ∧ c ≤ 9223372036854775807) :
    Calls Tryd.prog 12 #[kv, .int .i64 0, .slice A 26 c] w fun e w' => ∃ A c, e = .returned (.tuple #[.agg #[.int .i64 0, .int .i64 1, .slice A 0 c], .nilIface]) ∧ Below w.heap.size w w' := by
  refine (open19 w kv 107 0 A c hk hkb hb hbb hc).mono ?_
  rintro e w1 ⟨ha1, hb1⟩
  obtain ⟨A', c', he, _, _⟩ := ha1.ok awake_p.1
  exact ⟨A', c', he, hb1⟩
set_option maxRecDepth 100000 in
theorem open19_tag (w : World) (kv : Value) (A : Option Addr) (c : Nat) (hk : RdB w kv [108]) (hkb : ∀ b, blockOf kv = some b → b < w.heap.size) (hb : RdB w (.slice A 26 c) (sealP [107] 0 1 [])) (hbb : ∀ b, blockOf (.slice A 26 c) = some b → b < w.heap.size) (hc : 26 ≤ c ∧ c ≤ 9223372036854775807) :
    Calls Tryd.prog 12 #[kv, .int .i64 0, .slice A 26 c] w fun e w' => e = .returned (.tuple #[.agg #[.int .i64 0, .int .i64 0, .slice none 0 0], .iface 61 (.int .i64 11)]) ∧ Below w.heap.size w w' := by
  refine (open19 w kv 108 0 A c hk hkb hb hbb hc).mono ?_
  rintro e w1 ⟨ha1, hb1⟩
  exact ⟨ha1.bad awake_p.2.1, hb1⟩
set_option maxRecDepth 100000 in
theorem open19_side (w : World) (kv : Value) (A : Option Addr) (c : Nat) (hk : RdB w kv [107]) (hkb : ∀ b, blockOf kv = some b → b < w.heap.size) (hb : RdB w (.slice A 26 c) (sealP [107] 0 1 [])) (hbb : ∀ b, blockOf (.slice A 26 c) = some b → b < w.heap.size) (hc : 26 ≤ c ∧ c ≤ 9223372036854775807) :
    Calls Tryd.prog 12 #[kv, .int .i64 1, .slice A 26 c] w fun e w' => e = .returned (.tuple #[.agg #[.int .i64 0, .int .i64 0, .slice none 0 0], .iface 61 (.int .i64 13)]) ∧ Below w.heap.size w w' := by
  refine (open19 w kv 107 1 A c hk hkb hb hbb hc).mono ?_
  rintro e w1 ⟨ha1, hb1⟩
  exact ⟨ha1.bad awake_p.2.2, hb1⟩
set_option maxRecDepth 100000 in
set_option maxHeartbeats 2000000 in
theorem awake19_any (w : World) (hg : Handle w) : Calls Tryd.prog 10 #[] w fun e w' => e = .returned (.bool true) ∧ Below w.heap.size w w' := by
  have HG := veil hg
  clear hg
  have kc := fun (w : World) (C : Array Value) (n c : Nat) => Lib.run_convert_bytes_const (P := Tryd.prog) w 22 5 C n c Tryd.underlying22 Tryd.underlying5
  go_enter Tryd.func10, Tryd.ntmps10
  go_upto_region 2 with (first
    | (go_at_call 11
       go_must (
        with_reducible refine (seal19 _ _ (rdB_one w 107 107 rfl) (kb_one w _ 1 1)).mono ?_
        rintro e w1 ⟨A, c, rfl, hr1, hg1, hc1, hb1⟩
        have CX := veil hc1
        have Rw1 := veil hr1
        have Gw1 := veil hg1
        have Bw1 := veil (((Below.refl w.heap.size w).alloc (Nat.le_refl _) (.cells #[.int .u8 107] 5 (1, 2))).trans (hb1.mono (by simp)))
        clear hb1 hg1 hr1 hc1)))
  go_upto_region 3 with (first
    | (go_at_call 12
       go_must (
        with_reducible refine (open19_ok _ _ _ _ (rdB_one w1 107 107 rfl) (kb_one w1 _ 1 1) (Rw1.out.below ((Below.refl _ _).alloc (Nat.le_refl _) _)) (fun b hb => by have := Gw1.out b hb; simp; omega) CX.out).mono ?_
        rintro e v2 ⟨A2, c2, rfl, hb2⟩
        have HB2 := veil (((Below.refl w1.heap.size w1).alloc (Nat.le_refl _) (.cells #[.int .u8 107] 5 (1, 2))).trans (hb2.mono (by simp)))
        clear hb2)))
  generalize hw2 : v2.alloc _ = w2
  have HV2 := veil (show Below w1.heap.size w1 w2 by rw [← hw2]; exact HB2.out.alloc HB2.out.size _)
  have Bw2 := veil (below_step Bw1.out Bw1.out.size HV2.out)
  have Rw2 := veil (Rw1.out.below HV2.out)
  have Gw2 := veil (show ∀ b, blockOf (.slice A 26 c) = some b → b < w2.heap.size from fun b hb => Nat.lt_of_lt_of_le (Gw1.out b hb) HV2.out.size)
  have Qw2 := veil (show Row w2 v2.heap.size 24 [.int .i64 0, .int .i64 1, .slice A2 0 c2] by rw [← hw2]; exact Row.newAt _ _ rfl)
  clear hw2
  go_upto_region 4 with (first
    | (go_at_call 12
       go_must (
        with_reducible refine (open19_tag _ _ _ _ (rdB_one w2 108 108 rfl) (kb_one w2 _ 1 1) (Rw2.out.below ((Below.refl _ _).alloc (Nat.le_refl _) _)) (fun b hb => by have := Gw2.out b hb; simp; omega) CX.out).mono ?_
        rintro e v3 ⟨rfl, hb3⟩
        have HB3 := veil (((Below.refl w2.heap.size w2).alloc (Nat.le_refl _) (.cells #[.int .u8 108] 5 (1, 2))).trans (hb3.mono (by simp)))
        clear hb3)))
  generalize hw3 : v3.alloc _ = w3
  have HV3 := veil (show Below w2.heap.size w2 w3 by rw [← hw3]; exact HB3.out.alloc HB3.out.size _)
  have Bw3 := veil (below_step Bw2.out Bw2.out.size HV3.out)
  have Rw3 := veil (Rw2.out.below HV3.out)
  have Gw3 := veil (show ∀ b, blockOf (.slice A 26 c) = some b → b < w3.heap.size from fun b hb => Nat.lt_of_lt_of_le (Gw2.out b hb) HV3.out.size)
  have Qw3 := veil (Qw2.out.below HV3.out)
  clear hw3
  go_upto_region 5 with (first
    | (go_at_call 12
       go_must (
        with_reducible refine (open19_side _ _ _ _ (rdB_one w3 107 107 rfl) (kb_one w3 _ 1 1) (Rw3.out.below ((Below.refl _ _).alloc (Nat.le_refl _) _)) (fun b hb => by have := Gw3.out b hb; simp; omega) CX.out).mono ?_
        rintro e v4 ⟨rfl, hb4⟩
        have HB4 := veil (((Below.refl w3.heap.size w3).alloc (Nat.le_refl _) (.cells #[.int .u8 107] 5 (1, 2))).trans (hb4.mono (by simp)))
        clear hb4)))
  generalize hw4 : v4.alloc _ = w4
  have HV4 := veil (show Below w3.heap.size w3 w4 by rw [← hw4]; exact HB4.out.alloc HB4.out.size _)
  have Bw4 := veil (below_step Bw3.out Bw3.out.size HV4.out)
  have Rw4 := veil (Rw3.out.below HV4.out)
  have Gw4 := veil (show ∀ b, blockOf (.slice A 26 c) = some b → b < w4.heap.size from fun b hb => Nat.lt_of_lt_of_le (Gw3.out b hb) HV4.out.size)
  have Qw4 := veil (Qw3.out.below HV4.out)
  clear hw4
  have q1 := Qw4.out.cell (i := 1) rfl
  have HH := veil (HG.out.below Bw4.out)
  go_wp2_with (first
    | (go_at_call 14
       go_must (
        first
        | (with_reducible refine (code_errno _ 11 HH.out).mono ?_
           rintro e w5 ⟨rfl, hb5⟩
           have B5 := veil hb5
           clear hb5)
        | (with_reducible refine (code_errno w5 13 (HH.out.below B5.out)).mono ?_
           rintro e w6 ⟨rfl, hb6⟩
           have B6 := veil hb6
           clear hb6))))
  go_ret
  exact ⟨rfl, below_step (below_step Bw4.out Bw4.out.size B5.out) (Nat.le_trans Bw4.out.size B5.out.size) B6.out⟩
end Go.Proofs.YtojffibjjicddaaDoor
