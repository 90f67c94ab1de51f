/- The law FrameKeeps answers true for every argument, in every world that holds the listed variable. -/
import Derived.Test.YtojffibjjicddaaDoorFrameBack
import Derived.Test.YtojffibjjicddaaDoorOwn3
namespace Go.Proofs.YtojffibjjicddaaDoor
open Go.RowKit
structure Ctx2 (w wc : World) (kv bv : Value) (key body : List UInt8) : Prop where
  bw : Below w.heap.size w wc
  k : Bs wc kv key
  f : Bs wc bv body
  h : Handle wc
theorem Ctx2.step {w wc wd : World} {kv bv : Value} {key body : List UInt8} (h : Ctx2 w wc kv bv key body) (hb : Below wc.heap.size wc wd) : Ctx2 w wd kv bv key body :=
  ⟨below_step h.bw h.bw.size hb, h.k.below hb, h.f.below hb, h.h.below hb⟩
theorem Bs.keep {w w' : World} {v : Value} {xs : List UInt8} (h : Bs w v xs) {S : Nat → Prop} (hb : But S w w') (hn : ∀ g, blockOf v = some g → ¬ S g) : Bs w' v xs :=
  ⟨h.rd.keep hb hn, fun b hv => Nat.lt_of_lt_of_le (h.lt b hv) hb.size, h.cap⟩
set_option maxRecDepth 100000 in
set_option maxHeartbeats 4000000 in
theorem frameKeeps_any (w : World) (hg : Handle w) (kv bv : Value) (key body : List UInt8) (hk : Bs w kv key) (hf : Bs w bv body) (hkl : key.length ≤ 9223372036854775807) (hfl : body.length ≤ 9223372036854775807) :
    Calls Tryd.prog 5 #[kv, bv] w fun e w' => e = .returned (.bool true) ∧ Below w.heap.size w w' := by
  obtain ⟨A, c, rfl, hc⟩ := hf.slice
  obtain ⟨K, kc, rfl, hkc⟩ := hk.slice
  generalize hn : body.length = n at hf hfl
  generalize hkn : key.length = kn at hk hkl
  have LT0 := veil hf.lt
  have C0 := veil (show Ctx2 w w _ _ key body from ⟨Below.refl _ _, hk, hf, hg⟩)
  have HN := veil hn
  have HKN := veil hkn
  obtain ⟨i5, hi5, hz5, hs5, hb5⟩ := info_u8
  have I5 := veil (And.intro hi5 (And.intro hz5 (And.intro hs5 hb5)))
  clear hn hkn hk hf hg hc hkc hi5 hz5 hs5 hb5
  go_enter Tryd.func5, Tryd.ntmps5
  by_cases hk2 : 200 < kn
  · go_upto_region 2 with (first
      | (go_at_call 10
         go_must (
          with_reducible refine (awake19_any _ C0.out.h).mono ?_
          rintro e w1 ⟨rfl, hb⟩
          have C1 := veil (C0.out.step hb)
          clear hb)))
    go_wp2_with (first
      | (go_at_call 10
         go_must (
          with_reducible refine (awake19_any _ C1.out.h).mono ?_
          rintro e w2 ⟨rfl, hb⟩
          have C2 := veil (C1.out.step hb)
          clear hb)))
    go_ret
    exact ⟨rfl, C2.out.bw⟩
  · by_cases hf2 : 400 < n
    · go_upto_region 2 with (first
        | (go_at_call 10
           go_must (
            with_reducible refine (awake19_any _ C0.out.h).mono ?_
            rintro e w1 ⟨rfl, hb⟩
            have C1 := veil (C0.out.step hb)
            clear hb)))
      go_wp2_with (first
        | (go_at_call 10
           go_must (
            with_reducible refine (awake19_any _ C1.out.h).mono ?_
            rintro e w2 ⟨rfl, hb⟩
            have C2 := veil (C1.out.step hb)
            clear hb)))
      go_ret
      exact ⟨rfl, C2.out.bw⟩
    · go_upto_region 3 with (first
        | (go_at_call 10
           go_must (
            with_reducible refine (awake19_any _ C0.out.h).mono ?_
            rintro e w1 ⟨rfl, hb⟩
            have C1 := veil (C0.out.step hb)
            clear hb)))
      go_upto_region 4 with (first
        | (at_builtin
           with_reducible apply wpL_append (m := body.length) (news := bcells body) (base := w1.heap.size)
           go_must (
            · rfl
            · rfl
            · exact Tryd.underlying22
            · exact I5.out.1
            · exact I5.out.2.1
            · exact I5.out.2.2.1
            · exact I5.out.2.2.2
            · rfl
            · exact Own.made (cs := []) (Row.newAt (w := w1) 5 [] rfl) (Nat.le_refl 0) rfl (Nat.zero_le _) w1.heap.size (Nat.le_refl _)
            · exact (C1.out.f.alloc _).rd.src Tryd.underlying22
            · rw [HN.out]; omega
            · rw [HN.out]; omega
            · simp
            intro v2 w2 ho2 hbu2 hbk2 _
            rw [Nat.zero_add, HN.out] at ho2
            replace ho2 : Own w2 w1.heap.size 5 1 v2 n (bcells body) := ho2
            obtain ⟨A2, c2, rfl⟩ := ho2.slice
            have C2 := veil (C1.out.step ((((But.refl (fun _ => False) w1).alloc _).own hbu2 (fun i hi => .inr (by have h7 := Option.some.inj (show some w1.heap.size = some i from hi); omega))).below (fun _ _ hf => hf)))
            have BO2 := veil ho2.bs
            clear ho2 hbu2 hbk2)))
      have HOK : SealOk 1 7 body.length := ⟨by decide, by decide, by rw [HN.out]; omega⟩
      have HS := seal_ok w2 _ key C2.out.k (by rw [HKN.out]; omega) 1 7 _ body BO2.out HOK
      rw [HN.out, show (1 : Int).toNat = 1 from rfl, show (7 : Int).toNat = 7 from rfl] at HS
      have HS := veil HS
      have HP := veil (show openP key 1 (sealP key 1 7 body) = .ok (7, body) from openP_seal (d := 1) (by rw [HN.out]; omega) (by decide) (by decide) (by decide))
      have HXL := veil (show (sealP key 1 7 body).length ≤ 1048576 by rw [sealP_length, HN.out]; omega)
      clear HOK
      go_upto_region 5 with (first
        | (go_at_call 11
           go_must (
            with_reducible refine HS.out.mono ?_
            rintro e w3 ⟨A3, c3, rfl, hb3, _, ho3, hb⟩
            have C3 := veil (C2.out.step hb)
            have BO3 := veil (BO2.out.below hb)
            have BX3 := veil hb3
            have O3 := veil ho3
            have b23 := Nat.le_trans C2.out.bw.size (Nat.le_refl _)
            clear hb hb3 ho3)))
      have HSM := same_any w3 _ _ body body BO3.out.rd C3.out.f.rd (by rw [HN.out]; omega) (by rw [HN.out]; omega)
      rw [decide_eq_true (show body = body from rfl)] at HSM
      have HSM := veil HSM
      go_upto_region 6 with (first
        | (go_at_call 15
           go_must (
            with_reducible refine HSM.out.mono ?_
            rintro e w4 ⟨rfl, nq, rfl⟩)))
      have C4 := veil (show Ctx2 w (w3.drewN nq) _ _ key body from ⟨below_drewN C3.out.bw nq, C3.out.k.drewN nq, C3.out.f.drewN nq, C3.out.h⟩)
      have BX4 := veil (BX3.out.drewN nq)
      have O4 := veil (O3.out.drewN nq)
      have h34 : (w3.drewN nq).heap.size = w3.heap.size := rfl
      generalize w3.drewN nq = w4 at C4 BX4 O4 h34 ⊢
      have H34 := veil h34
      clear h34 C3 BX3 O3 BO3
      go_upto_region 7 with (first
        | (go_at_call 12
           go_must (
            with_reducible refine (open_ok w4 _ key C4.out.k (by rw [HKN.out]; omega) 1 _ _ BX4.out HXL.out 7 body HP.out).mono ?_
            rintro e w5 ⟨A5, c5, rfl, hb2, hnew, hb⟩
            rw [HN.out] at hb2 hnew
            rw [HN.out]
            have C5 := veil (C4.out.step hb)
            have O5 := veil (O4.out.below hb)
            have BF5 := veil hb2
            have NW5 := veil hnew
            have LT4 := veil BX4.out.lt
            have b45 := hb.size
            clear hb hb2 hnew)))
      generalize hw6 : w5.alloc _ = w6
      have hb6 : Below w5.heap.size w5 w6 := by rw [← hw6]; exact (Below.refl _ _).alloc (Nat.le_refl _) _
      have C6 := veil (C5.out.step hb6)
      have O6 := veil (O5.out.below hb6)
      have BF6 := veil (BF5.out.below hb6)
      have R6 := veil (show Row w6 w5.heap.size 24 [.int .i64 1, .int .i64 7, .slice A5 n c5] by rw [← hw6]; exact Row.newAt _ _ rfl)
      clear hw6 hb6 O5 BF5 C5 O4 C4 BX4
      obtain ⟨g, o, hgo, hgb, _⟩ := O6.out.cell (by omega)
      subst hgo
      have hg4 : g < w4.heap.size := LT4.out g rfl
      have hg2 : w.heap.size ≤ g := Nat.le_trans C2.out.bw.size hgb
      have HNE1 := veil (show ∀ b, blockOf (.slice A n c) = some b → ¬ b = g from fun b hb e => by have := LT0.out b hb; omega)
      have HNE2 := veil (show ∀ b, blockOf (.slice A5 n c5) = some b → ¬ b = g from fun b hb e => by have := NW5.out b hb; omega)
      have HNE3 := veil (show ¬ w5.heap.size = g by omega)
      clear LT4 NW5
      go_wp2
      go_loopw [11] (fun i wr => ∃ (k : Nat) (ys : List UInt8), k ≤ n + 26 ∧ i = .int .i64 k ∧ Own wr w2.heap.size 5 1 (.slice (some ⟨g, o, none⟩) (n + 26) c3) (n + 26) (bcells ys) ∧ But (fun b => b = g) w6 wr) (fun i _ => n + 26 - (intOf i).toNat)
      case atStart => exact ⟨0, _, by omega, rfl, O6.out, But.refl _ _⟩
      case round =>
        obtain ⟨k, ys, hkn2, rfl, ho, hbu⟩ := hrel
        have HO := veil ho
        have HBU := veil hbu
        clear hbu O6
        by_cases hlt : k < n + 26
        · have hyl := ho.rdB.2
          have hset := ho.set hlt (.int .u8 (((ys.getD k 0) ^^^ 255 : UInt8).toNat : Int))
          obtain ⟨_, _, he, _, hcell⟩ := ho.cell (by omega)
          have HSET := veil (And.intro hset.1 hset.2.1)
          injection he with he
          injection he with he1 he2
          subst he1 he2
          have c1 := (hcell k _ (bcells_at (by omega))).1
          have f1 := hset.2.2.2.1
          have hx : (((ys.getD k 0) ^^^ 255 : UInt8).toNat : Int) = bits .xor .u8 ((ys.getD k 0).toNat : Int) 255 := by
            rw [UInt8.toNat_xor]
            exact (xor_u8 (ys.getD k 0).toNat 255 (ys.getD k 0).toNat_lt (by decide)).symm
          have HX := veil hx
          have hys : (bcells ys).set k (.int .u8 (((ys.getD k 0) ^^^ 255 : UInt8).toNat : Int)) = bcells (ys.set k ((ys.getD k 0) ^^^ 255)) := by
            unfold bcells; rw [List.map_set]
          have HYS := veil hys
          clear ho hset hcell hx hys hyl
          have ly := (ys.getD k 0).toNat_lt
          go_wp2
          go_roundw
          case rel =>
            refine ⟨k + 1, ys.set k ((ys.getD k 0) ^^^ 255), by omega, by go_num, ?_, ?_⟩
            · have h8 := HSET.out.1
              rw [HYS.out, HX.out] at h8
              exact h8
            · have h8 := HBU.out.trans HSET.out.2
              rw [HX.out] at h8
              exact h8
          case measure => simp [intOf]; omega
        · obtain rfl : k = n + 26 := by omega
          have B7 := veil ((((But.of_below (S := fun _ => False) C6.out.bw)).own HBU.out (fun i hi => .inr (by rw [hi]; exact hg2))).below (fun _ _ hf => hf))
          have HSM := same_any wr _ _ body body (BF6.out.rd.keep HBU.out HNE2.out) (C6.out.f.rd.keep HBU.out HNE1.out) (by rw [HN.out]; omega) (by rw [HN.out]; omega)
          rw [decide_eq_true (show body = body from rfl)] at HSM
          have HSM := veil HSM
          have r2 := (HBU.out.row R6.out HNE3.out).cell (i := 2) rfl
          clear ho
          go_wp2_with (first
            | (go_at_call 15
               go_must (
                with_reducible refine HSM.out.mono ?_
                rintro e w8 ⟨rfl, nq8, rfl⟩)))
          go_ret
          exact ⟨rfl, below_drewN B7.out nq8⟩
end Go.Proofs.YtojffibjjicddaaDoor
