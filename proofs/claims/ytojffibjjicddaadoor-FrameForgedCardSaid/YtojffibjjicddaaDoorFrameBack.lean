/- The law FrameBack answers true for every argument, in every world that holds the listed variable. -/
import Derived.Test.YtojffibjjicddaaDoorFrameC
namespace Go.Proofs.YtojffibjjicddaaDoor
open Go.RowKit
structure Ctx3 (w wc : World) (fr : List Value) (kv xv bv : Value) (key b body : List UInt8) : Prop where
  r : Row wc w.heap.size 24 fr
  bw : Below w.heap.size w wc
  k : Bs wc kv key
  x : Bs wc xv b
  f : Bs wc bv body
  h : Handle wc
theorem Ctx3.step {w wc wd : World} {fr : List Value} {kv xv bv : Value} {key b body : List UInt8} (h : Ctx3 w wc fr kv xv bv key b body) (hb : Below wc.heap.size wc wd) : Ctx3 w wd fr kv xv bv key b body :=
  ⟨h.r.below hb, below_step h.bw h.bw.size hb, h.k.below hb, h.x.below hb, h.f.below hb, h.h.below hb⟩
theorem sided_other {d : Int} (h : sidedP d = true) : ∃ n : Nat, d = n ∧ n ≤ 1 := by
  unfold sidedP at h; simp at h; exact ⟨d.toNat, by omega, by omega⟩
theorem sealOk_nat {dir seq : Int} {n : Nat} (h : SealOk dir seq n) : ∃ d s : Nat, dir = d ∧ seq = s ∧ d ≤ 1 ∧ 1 ≤ s ∧ s ≤ 4611686018427387904 ∧ n ≤ 486 := by
  obtain ⟨h1, h2, h3⟩ := h
  obtain ⟨d, rfl, hd⟩ := sided_other h1
  unfold numberedP at h2
  simp at h2
  exact ⟨d, seq.toNat, rfl, by omega, hd, by omega, by omega, h3⟩
theorem sealOk_mk {d s n : Nat} (h1 : d ≤ 1) (h2 : 1 ≤ s) (h3 : s ≤ 4611686018427387904) (h4 : n ≤ 486) : SealOk d s n := by
  refine ⟨?_, ?_, h4⟩
  · unfold sidedP; rcases (show d = 0 ∨ d = 1 by omega) with rfl | rfl <;> rfl
  · unfold numberedP; simp; omega
set_option maxRecDepth 100000 in
set_option maxHeartbeats 4000000 in
theorem frameBack_any (w : World) (hg : Handle w) (kv bv xv : Value) (key body b : List UInt8) (dir seq d : Int) (hk : Bs w kv key) (hf : Bs w bv body) (hx : Bs w xv b) (hkl : key.length ≤ 9223372036854775807) (hfl : body.length ≤ 9223372036854775807) (hxl : b.length ≤ 9223372036854775807) :
    Calls Tryd.prog 3 #[kv, .agg #[.int .i64 dir, .int .i64 seq, bv], xv, .int .i64 d] w fun e w' => e = .returned (.bool true) ∧ Below w.heap.size w w' := by
  obtain ⟨A, c, rfl, hc⟩ := hf.slice
  obtain ⟨K, kc, rfl, hkc⟩ := hk.slice
  obtain ⟨X, xc, rfl, hxc⟩ := hx.slice
  generalize hn : body.length = n at hf hfl
  generalize hkn : key.length = kn at hk hkl
  generalize hxn : b.length = xn at hx hxl
  have C0 := veil (show Ctx3 w (w.alloc (.cells #[.int .i64 dir, .int .i64 seq, .slice A n c] 24)) [.int .i64 dir, .int .i64 seq, .slice A n c] _ _ _ key b body from ⟨Row.newAt _ _ rfl, (Below.refl _ _).alloc (Nat.le_refl _) _, hk.alloc _, hx.alloc _, hf.alloc _, hg.below ((Below.refl _ _).alloc (Nat.le_refl _) _)⟩)
  have HN := veil hn
  have HKN := veil hkn
  have HXN := veil hxn
  clear hn hkn hxn hk hf hx hg hc hkc hxc
  go_enter Tryd.func3, Tryd.ntmps3
  go_upto_region 1 with (fail)
  generalize w.alloc _ = w0 at C0 ⊢
  have q0 := C0.out.r.cell (i := 0) rfl
  have q1 := C0.out.r.cell (i := 1) rfl
  have q2 := C0.out.r.cell (i := 2) rfl
  by_cases hk2 : 200 < kn
  · skip
    go_upto_region 2 with (first
      | (go_at_call 10
         go_must (
          with_reducible refine (awake19_any _ C0.out.h).mono ?_
          rintro e w1 ⟨rfl, hb⟩
          have C1 := veil (C0.out.step hb)
          have q0 := C1.out.r.cell (i := 0) rfl
          have q1 := C1.out.r.cell (i := 1) rfl
          have q2 := C1.out.r.cell (i := 2) rfl
          clear hb)))
    go_wp2_with (first
      | (go_at_call 10
         go_must (
          with_reducible refine (awake19_any _ C1.out.h).mono ?_
          rintro e w2 ⟨rfl, hb⟩
          have C2 := veil (C1.out.step hb)
          have q0 := C2.out.r.cell (i := 0) rfl
          have q1 := C2.out.r.cell (i := 1) rfl
          have q2 := C2.out.r.cell (i := 2) rfl
          clear hb)))
    go_ret
    exact ⟨rfl, C2.out.bw⟩
  · by_cases hf2 : 1000 < n
    · skip
      go_upto_region 2 with (first
        | (go_at_call 10
           go_must (
            with_reducible refine (awake19_any _ C0.out.h).mono ?_
            rintro e w1 ⟨rfl, hb⟩
            have C1 := veil (C0.out.step hb)
            have q0 := C1.out.r.cell (i := 0) rfl
            have q1 := C1.out.r.cell (i := 1) rfl
            have q2 := C1.out.r.cell (i := 2) rfl
            clear hb)))
      go_wp2_with (first
        | (go_at_call 10
           go_must (
            with_reducible refine (awake19_any _ C1.out.h).mono ?_
            rintro e w2 ⟨rfl, hb⟩
            have C2 := veil (C1.out.step hb)
            have q0 := C2.out.r.cell (i := 0) rfl
            have q1 := C2.out.r.cell (i := 1) rfl
            have q2 := C2.out.r.cell (i := 2) rfl
            clear hb)))
      go_ret
      exact ⟨rfl, C2.out.bw⟩
    · by_cases hx2 : 1000 < xn
      · skip
        go_upto_region 2 with (first
          | (go_at_call 10
             go_must (
              with_reducible refine (awake19_any _ C0.out.h).mono ?_
              rintro e w1 ⟨rfl, hb⟩
              have C1 := veil (C0.out.step hb)
              have q0 := C1.out.r.cell (i := 0) rfl
              have q1 := C1.out.r.cell (i := 1) rfl
              have q2 := C1.out.r.cell (i := 2) rfl
              clear hb)))
        go_wp2_with (first
          | (go_at_call 10
             go_must (
              with_reducible refine (awake19_any _ C1.out.h).mono ?_
              rintro e w2 ⟨rfl, hb⟩
              have C2 := veil (C1.out.step hb)
              have q0 := C2.out.r.cell (i := 0) rfl
              have q1 := C2.out.r.cell (i := 1) rfl
              have q2 := C2.out.r.cell (i := 2) rfl
              clear hb)))
        go_ret
        exact ⟨rfl, C2.out.bw⟩
      · go_upto_region 3 with (first
          | (go_at_call 10
             go_must (
              with_reducible refine (awake19_any _ C0.out.h).mono ?_
              rintro e w1 ⟨rfl, hb⟩
              have C1 := veil (C0.out.step hb)
              have q0 := C1.out.r.cell (i := 0) rfl
              have q1 := C1.out.r.cell (i := 1) rfl
              have q2 := C1.out.r.cell (i := 2) rfl
              clear hb)))
        by_cases hA : SealOk dir seq n
        · obtain ⟨d', s', rfl, rfl, hd1, hs1, hs2, hn2⟩ := sealOk_nat hA
          have HS := seal_ok w1 _ key C1.out.k (by rw [HKN.out]; omega) _ _ _ body C1.out.f (by rw [HN.out]; exact hA)
          rw [HN.out, Int.toNat_natCast, Int.toNat_natCast] at HS
          have HS := veil HS
          have HP := veil (show openP key d' (sealP key d' s' body) = .ok (s', body) from openP_seal (by rw [HN.out]; exact hn2) hd1 hs1 hs2)
          have HP2 := veil (show openP key (1 - (d' : Int)) (sealP key d' s' body) = .error 13 from openP_side _ (by rw [HN.out]; exact hn2) hd1 (by omega))
          have HXL := veil (show (sealP key d' s' body).length ≤ 1048576 by rw [sealP_length, HN.out]; omega)
          clear hA
          go_upto_region 4 with (first
            | (go_at_call 11
               go_must (
                with_reducible refine HS.out.mono ?_
                rintro e w2 ⟨A1, c1, rfl, hb1, hnw1, _, hb⟩
                have C2 := veil (C1.out.step hb)
                have BX2 := veil hb1
                clear hb hb1 hnw1)))
          have q0 := C2.out.r.cell (i := 0) rfl
          go_upto_region 6 with (first
            | (go_at_call 12
               go_must (
                with_reducible refine (open_ok w2 _ key C2.out.k (by rw [HKN.out]; omega) _ _ _ BX2.out HXL.out s' body HP.out).mono ?_
                rintro e v3 ⟨A2, c2, rfl, hb2, _, hb⟩
                rw [HN.out] at hb2
                rw [HN.out]
                have HB := veil hb
                have BF2 := veil hb2
                clear hb hb2)))
          generalize hw3 : v3.alloc _ = w3
          have hb3 : Below v3.heap.size v3 w3 := by rw [← hw3]; exact (Below.refl _ _).alloc (Nat.le_refl _) _
          have hb23 := below_step HB.out HB.out.size hb3
          have C3 := veil (C2.out.step hb23)
          have BX3 := veil (BX2.out.below hb23)
          have BF3 := veil (BF2.out.below hb3)
          have R3 := veil (show Row w3 v3.heap.size 24 [.int .i64 (d' : Int), .int .i64 (s' : Int), .slice A2 n c2] by rw [← hw3]; exact Row.newAt _ _ rfl)
          clear hw3 hb3 hb23 HB BF2 BX2
          have q0 := C3.out.r.cell (i := 0) rfl
          go_upto_region 7 with (first
            | (go_at_call 12
               go_must (
                with_reducible refine (open_bad w3 _ key C3.out.k (by rw [HKN.out]; omega) _ _ _ BX3.out HXL.out 13 HP2.out).mono ?_
                rintro e v4 ⟨rfl, hb⟩
                have HB := veil hb
                clear hb)))
          generalize hw4 : v4.alloc _ = w4
          have hb4 : Below v4.heap.size v4 w4 := by rw [← hw4]; exact (Below.refl _ _).alloc (Nat.le_refl _) _
          have hb34 := below_step HB.out HB.out.size hb4
          have C4 := veil (C3.out.step hb34)
          have BF4 := veil (BF3.out.below hb34)
          have R4 := veil (R3.out.below hb34)
          clear hw4 hb4 hb34 HB BF3 R3 BX3
          have HSM := fsame_any w4 (d' : Int) (s' : Int) (d' : Int) (s' : Int) _ _ body body BF4.out.rd C4.out.f.rd (by rw [HN.out]; omega) (by rw [HN.out]; omega)
          rw [show sameF (d' : Int) (s' : Int) (d' : Int) (s' : Int) body body = true by simp [sameF]] at HSM
          have HSM := veil HSM
          have q0 := C4.out.r.cell (i := 0) rfl
          have q1 := C4.out.r.cell (i := 1) rfl
          have q2 := C4.out.r.cell (i := 2) rfl
          have p0 := R4.out.cell (i := 0) rfl
          have p1 := R4.out.cell (i := 1) rfl
          have p2 := R4.out.cell (i := 2) rfl
          go_upto_region 9 with (first
            | (go_at_call 13
               go_must (
                with_reducible refine HSM.out.mono ?_
                rintro e w5 ⟨rfl, hb⟩
                have C5 := veil (C4.out.step hb)
                have q2 := C5.out.r.cell (i := 2) rfl
                clear hb))
            | (go_at_call 14
               go_must (
                with_reducible refine (code_errno _ 13 C5.out.h).mono ?_
                rintro e w6 ⟨rfl, hb⟩
                have C6 := veil (C5.out.step hb)
                have q2 := C6.out.r.cell (i := 2) rfl
                clear hb)))
          rcases ho : openP key d b with ec | ⟨s2, body2⟩
          · have HP3 := veil ho
            clear ho
            go_upto_region 10 with (first
              | (go_at_call 12
                 go_must (
                  with_reducible refine (open_bad w6 _ key C6.out.k (by rw [HKN.out]; omega) _ _ _ C6.out.x (by rw [HXN.out]; omega) ec HP3.out).mono ?_
                  rintro e v7 ⟨rfl, hb⟩
                  have HB := veil hb
                  clear hb)))
            generalize hw7 : v7.alloc _ = w7
            have hb7 : Below v7.heap.size v7 w7 := by rw [← hw7]; exact (Below.refl _ _).alloc (Nat.le_refl _) _
            have C7 := veil (C6.out.step (below_step HB.out HB.out.size hb7))
            have R7 := veil (show Row w7 v7.heap.size 24 [.int .i64 0, .int .i64 0, .slice none 0 0] by rw [← hw7]; exact Row.newAt _ _ rfl)
            clear hw7 hb7 HB
            have HSM := fsame_any w7 0 0 0 0 _ _ [] [] (rdB_nil _) (rdB_nil _) (by decide) (by decide)
            rw [show sameF 0 0 0 0 [] [] = true by decide] at HSM
            have HSM := veil HSM
            have p0 := R7.out.cell (i := 0) rfl
            have p1 := R7.out.cell (i := 1) rfl
            have p2 := R7.out.cell (i := 2) rfl
            go_wp2_with (first
              | (go_at_call 13
                 go_must (
                  with_reducible refine HSM.out.mono ?_
                  rintro e w8 ⟨rfl, hb⟩
                  have C8 := veil (C7.out.step hb)
                  clear hb)))
            go_ret
            exact ⟨rfl, C8.out.bw⟩
          · obtain ⟨d2, hd2e, hd2, hs3, hs4, hbl2, hbq⟩ := openP_ok ho
            subst hd2e
            have HP3 := veil ho
            have HBQ := veil hbq
            have HBL2 := veil hbl2
            clear ho hbq hbl2
            go_upto_region 10 with (first
              | (go_at_call 12
                 go_must (
                  with_reducible refine (open_ok w6 _ key C6.out.k (by rw [HKN.out]; omega) _ _ _ C6.out.x (by rw [HXN.out]; omega) s2 body2 HP3.out).mono ?_
                  rintro e v7 ⟨A7, c7, rfl, hb2, _, hb⟩
                  have HB := veil hb
                  have BF6 := veil hb2
                  clear hb hb2)))
            generalize hw7 : v7.alloc _ = w7
            have hb7 : Below v7.heap.size v7 w7 := by rw [← hw7]; exact (Below.refl _ _).alloc (Nat.le_refl _) _
            have C7 := veil (C6.out.step (below_step HB.out HB.out.size hb7))
            have BF7 := veil (BF6.out.below hb7)
            have R7 := veil (show Row w7 v7.heap.size 24 [.int .i64 (d2 : Int), .int .i64 (s2 : Int), .slice A7 body2.length c7] by rw [← hw7]; exact Row.newAt _ _ rfl)
            clear hw7 hb7 HB BF6
            have HS := seal_ok w7 _ key C7.out.k (by rw [HKN.out]; omega) _ _ _ body2 BF7.out (sealOk_mk hd2 hs3 hs4 HBL2.out)
            rw [Int.toNat_natCast, Int.toNat_natCast, ← HBQ.out] at HS
            have HS := veil HS
            have p0 := R7.out.cell (i := 0) rfl
            have p1 := R7.out.cell (i := 1) rfl
            have p2 := R7.out.cell (i := 2) rfl
            go_upto_region 13 with (first
              | (go_at_call 11
                 go_must (
                  with_reducible refine HS.out.mono ?_
                  rintro e w8 ⟨A8, c8, rfl, hb1, _, _, hb⟩
                  have C8 := veil (C7.out.step hb)
                  have B8 := veil hb1
                  clear hb hb1)))
            have HSM := same_any w8 _ _ b b B8.out.rd C8.out.x.rd (by rw [HXN.out]; omega) (by rw [HXN.out]; omega)
            rw [decide_eq_true (show b = b from rfl)] at HSM
            have HSM := veil HSM
            go_wp2_with (first
              | (go_at_call 15
                 go_must (
                  with_reducible refine HSM.out.mono ?_
                  rintro e w9 ⟨rfl, nq, rfl⟩)))
            go_ret
            exact ⟨rfl, below_drewN C8.out.bw nq⟩

        · have HS := seal_bad w1 _ key C1.out.k (by rw [HKN.out]; omega) dir seq _ body C1.out.f (by rw [HN.out]; omega) (by rw [HN.out]; exact hA)
          have HS := veil HS
          clear hA
          go_upto_region 9 with (first
            | (go_at_call 11
               go_must (
                with_reducible refine HS.out.mono ?_
                rintro e w6 ⟨nn, rfl, hb⟩
                have C6 := veil (C1.out.step hb)
                clear hb)))
          rcases ho : openP key d b with ec | ⟨s2, body2⟩
          · have HP3 := veil ho
            clear ho
            go_upto_region 10 with (first
              | (go_at_call 12
                 go_must (
                  with_reducible refine (open_bad w6 _ key C6.out.k (by rw [HKN.out]; omega) _ _ _ C6.out.x (by rw [HXN.out]; omega) ec HP3.out).mono ?_
                  rintro e v7 ⟨rfl, hb⟩
                  have HB := veil hb
                  clear hb)))
            generalize hw7 : v7.alloc _ = w7
            have hb7 : Below v7.heap.size v7 w7 := by rw [← hw7]; exact (Below.refl _ _).alloc (Nat.le_refl _) _
            have C7 := veil (C6.out.step (below_step HB.out HB.out.size hb7))
            have R7 := veil (show Row w7 v7.heap.size 24 [.int .i64 0, .int .i64 0, .slice none 0 0] by rw [← hw7]; exact Row.newAt _ _ rfl)
            clear hw7 hb7 HB
            have HSM := fsame_any w7 0 0 0 0 _ _ [] [] (rdB_nil _) (rdB_nil _) (by decide) (by decide)
            rw [show sameF 0 0 0 0 [] [] = true by decide] at HSM
            have HSM := veil HSM
            have p0 := R7.out.cell (i := 0) rfl
            have p1 := R7.out.cell (i := 1) rfl
            have p2 := R7.out.cell (i := 2) rfl
            go_wp2_with (first
              | (go_at_call 13
                 go_must (
                  with_reducible refine HSM.out.mono ?_
                  rintro e w8 ⟨rfl, hb⟩
                  have C8 := veil (C7.out.step hb)
                  clear hb)))
            go_ret
            exact ⟨rfl, C8.out.bw⟩
          · obtain ⟨d2, hd2e, hd2, hs3, hs4, hbl2, hbq⟩ := openP_ok ho
            subst hd2e
            have HP3 := veil ho
            have HBQ := veil hbq
            have HBL2 := veil hbl2
            clear ho hbq hbl2
            go_upto_region 10 with (first
              | (go_at_call 12
                 go_must (
                  with_reducible refine (open_ok w6 _ key C6.out.k (by rw [HKN.out]; omega) _ _ _ C6.out.x (by rw [HXN.out]; omega) s2 body2 HP3.out).mono ?_
                  rintro e v7 ⟨A7, c7, rfl, hb2, _, hb⟩
                  have HB := veil hb
                  have BF6 := veil hb2
                  clear hb hb2)))
            generalize hw7 : v7.alloc _ = w7
            have hb7 : Below v7.heap.size v7 w7 := by rw [← hw7]; exact (Below.refl _ _).alloc (Nat.le_refl _) _
            have C7 := veil (C6.out.step (below_step HB.out HB.out.size hb7))
            have BF7 := veil (BF6.out.below hb7)
            have R7 := veil (show Row w7 v7.heap.size 24 [.int .i64 (d2 : Int), .int .i64 (s2 : Int), .slice A7 body2.length c7] by rw [← hw7]; exact Row.newAt _ _ rfl)
            clear hw7 hb7 HB BF6
            have HS := seal_ok w7 _ key C7.out.k (by rw [HKN.out]; omega) _ _ _ body2 BF7.out (sealOk_mk hd2 hs3 hs4 HBL2.out)
            rw [Int.toNat_natCast, Int.toNat_natCast, ← HBQ.out] at HS
            have HS := veil HS
            have p0 := R7.out.cell (i := 0) rfl
            have p1 := R7.out.cell (i := 1) rfl
            have p2 := R7.out.cell (i := 2) rfl
            go_upto_region 13 with (first
              | (go_at_call 11
                 go_must (
                  with_reducible refine HS.out.mono ?_
                  rintro e w8 ⟨A8, c8, rfl, hb1, _, _, hb⟩
                  have C8 := veil (C7.out.step hb)
                  have B8 := veil hb1
                  clear hb hb1)))
            have HSM := same_any w8 _ _ b b B8.out.rd C8.out.x.rd (by rw [HXN.out]; omega) (by rw [HXN.out]; omega)
            rw [decide_eq_true (show b = b from rfl)] at HSM
            have HSM := veil HSM
            go_wp2_with (first
              | (go_at_call 15
                 go_must (
                  with_reducible refine HSM.out.mono ?_
                  rintro e w9 ⟨rfl, nq, rfl⟩)))
            go_ret
            exact ⟨rfl, below_drewN C8.out.bw nq⟩
end Go.Proofs.YtojffibjjicddaaDoor
