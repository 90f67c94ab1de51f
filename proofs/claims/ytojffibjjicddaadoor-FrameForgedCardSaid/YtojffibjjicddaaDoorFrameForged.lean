/- The law FrameForged answers true for every argument, in every world that holds the listed variable. -/
import Derived.Test.YtojffibjjicddaaDoorFrameApart
import Derived.Test.YtojffibjjicddaaDoorR7
import Derived.Test.YtojffibjjicddaaDoorOwn3
namespace Go.Proofs.YtojffibjjicddaaDoor
open Go.RowKit
set_option linter.unusedVariables false
set_option linter.unusedSimpArgs false
theorem set_getD_self (l : List UInt8) (i : Nat) (h : i < l.length) : l.set i (l.getD i 0) = l := by
  apply List.ext_getElem (by simp)
  intro j h1 h2
  rw [List.getElem_set]
  split
  · rename_i e; subst e; simp [List.getD_eq_getElem?_getD, List.getElem?_eq_getElem h]
  · rfl
structure CtxF (w wc : World) (fr : List Value) (kv bv : Value) (key body : List UInt8) : Prop where
  r : Row wc w.heap.size 24 fr
  bw : Below w.heap.size w wc
  k : Bs wc kv key
  f : Bs wc bv body
  h : Handle wc
theorem CtxF.step {w wc wd : World} {fr : List Value} {kv bv : Value} {key body : List UInt8} (h : CtxF w wc fr kv bv key body) (hb : Below wc.heap.size wc wd) : CtxF w wd fr kv bv key body :=
  ⟨h.r.below hb, below_step h.bw h.bw.size hb, h.k.below hb, h.f.below hb, h.h.below hb⟩
theorem u8_nat (y : Int) (h0 : 0 ≤ y) (h1 : y < 256) : ∃ u : UInt8, y = (u.toNat : Int) := ⟨UInt8.ofNat y.toNat, by rw [UInt8.toNat_ofNat']; omega⟩
theorem u16_nat (y : Int) (h0 : 0 ≤ y) : ∃ u : Nat, y = (u : Int) := ⟨y.toNat, by omega⟩
set_option maxRecDepth 100000 in
set_option maxHeartbeats 4000000 in
theorem frameForged_nat (w : World) (hg : Handle w) (kv bv : Value) (key body : List UInt8) (dir seq : Int) (p : Nat) (yv : Int) (hp : p < 65536) (hy0 : 0 ≤ yv) (hy1 : yv < 256) (hk : Bs w kv key) (hf : Bs w bv body) (hkl : key.length ≤ 9223372036854775807) (hfl : body.length ≤ 9223372036854775807) :
    Calls Tryd.prog 4 #[kv, .agg #[.int .i64 dir, .int .i64 seq, bv], .int .u16 (p : Int), .int .u8 yv] w fun e w' => e = .returned (.bool true) ∧ Below w.heap.size w w' := by
  obtain ⟨A, c, rfl, hc⟩ := hf.slice
  obtain ⟨K, kc, rfl, hkc⟩ := hk.slice
  generalize hn : body.length = n at hf hfl
  generalize hkn : key.length = kn at hk hkl
  have C0 := veil (show CtxF w (w.alloc (.cells #[.int .i64 dir, .int .i64 seq, .slice A n c] 24)) [.int .i64 dir, .int .i64 seq, .slice A n c] _ _ key body from ⟨Row.newAt _ _ rfl, (Below.refl _ _).alloc (Nat.le_refl _) _, hk.alloc _, hf.alloc _, hg.below ((Below.refl _ _).alloc (Nat.le_refl _) _)⟩)
  have HN := veil hn
  have HKN := veil hkn
  clear hn hkn hk hf hg hc hkc
  go_enter Tryd.func4, Tryd.ntmps4
  go_upto_region 1 with (fail)
  generalize w.alloc _ = w0 at C0 ⊢
  have q0 := C0.out.r.cell (i := 0) rfl
  have q1 := C0.out.r.cell (i := 1) rfl
  have q2 := C0.out.r.cell (i := 2) rfl
  by_cases hk2 : 200 < kn
  · skip
    go_upto_region 2 with (first
      | (go_at_call 10
         go_must (
          with_reducible refine (awake19_any _ C0.out.h).mono ?_
          rintro e w1 ⟨rfl, hb⟩
          have C1 := veil (C0.out.step hb)
          have q0 := C1.out.r.cell (i := 0) rfl
          have q1 := C1.out.r.cell (i := 1) rfl
          have q2 := C1.out.r.cell (i := 2) rfl
          clear hb)))
    go_wp2_with (first
      | (go_at_call 10
         go_must (
          with_reducible refine (awake19_any _ C1.out.h).mono ?_
          rintro e w2 ⟨rfl, hb⟩
          have C2 := veil (C1.out.step hb)
          have q0 := C2.out.r.cell (i := 0) rfl
          have q1 := C2.out.r.cell (i := 1) rfl
          have q2 := C2.out.r.cell (i := 2) rfl
          clear hb)))
    go_ret
    exact ⟨rfl, C2.out.bw⟩
  · by_cases hf2 : 486 < n
    · skip
      go_upto_region 2 with (first
        | (go_at_call 10
           go_must (
            with_reducible refine (awake19_any _ C0.out.h).mono ?_
            rintro e w1 ⟨rfl, hb⟩
            have C1 := veil (C0.out.step hb)
            have q0 := C1.out.r.cell (i := 0) rfl
            have q1 := C1.out.r.cell (i := 1) rfl
            have q2 := C1.out.r.cell (i := 2) rfl
            clear hb)))
      go_wp2_with (first
        | (go_at_call 10
           go_must (
            with_reducible refine (awake19_any _ C1.out.h).mono ?_
            rintro e w2 ⟨rfl, hb⟩
            have C2 := veil (C1.out.step hb)
            have q0 := C2.out.r.cell (i := 0) rfl
            have q1 := C2.out.r.cell (i := 1) rfl
            have q2 := C2.out.r.cell (i := 2) rfl
            clear hb)))
      go_ret
      exact ⟨rfl, C2.out.bw⟩
    · have HW := fun w => wrong_any w dir seq A n c hfl
      by_cases hz : wrongP dir seq n = 0
      · have HOK := wrongP_ok hz
        rw [hz] at HW
        have HW := veil HW
        clear hz
        go_upto_region 3 with (first
          | (go_at_call 10
             go_must (
              with_reducible refine (awake19_any _ C0.out.h).mono ?_
              rintro e w1 ⟨rfl, hb⟩
              have C1 := veil (C0.out.step hb)
              have q0 := C1.out.r.cell (i := 0) rfl
              have q1 := C1.out.r.cell (i := 1) rfl
              have q2 := C1.out.r.cell (i := 2) rfl
              clear hb))
          | (go_at_call 16
             go_must (
              with_reducible refine (HW.out _).mono ?_
              rintro e w2 ⟨rfl, hb⟩
              have C2 := veil (C1.out.step hb)
              have q0 := C2.out.r.cell (i := 0) rfl
              have q1 := C2.out.r.cell (i := 1) rfl
              have q2 := C2.out.r.cell (i := 2) rfl
              clear hb)))
        have HS := sealR_any w2 _ _ key body dir seq C2.out.k C2.out.f (by rw [HKN.out]; omega) (by rw [HN.out]; exact HOK)
        rw [HN.out] at HS
        have HS := veil HS
        have HSL := veil (show (sealP key dir.toNat seq.toNat body).length = n + 26 by rw [sealP_length, HN.out])
        obtain ⟨d', s', hde, hse, hd1, hs1, hs2, hn2⟩ := sealOk_nat HOK
        have HPO := veil (show openP key dir (sealP key dir.toNat seq.toNat body) = .ok (s', body) by subst hde hse; rw [Int.toNat_natCast, Int.toNat_natCast]; exact openP_seal (by rw [HN.out]; exact hn2) hd1 hs1 hs2)
        clear hde hse HOK hd1 hs1 hs2 hn2
        generalize sealP key dir.toNat seq.toNat body = b0 at HS HSL HPO
        go_upto_region 4 with (first
          | (go_at_call 17
             go_must (
              with_reducible refine HS.out.mono ?_
              rintro e w3 ⟨A1, c1, rfl, ho, hb⟩
              have HB3 := veil hb
              have O3 := veil ho
              have q0 := (C2.out.r.below hb).cell (i := 0) rfl
              clear hb)))
        obtain ⟨i, hi⟩ : ∃ i, i = p % (n + 26) := ⟨_, rfl⟩
        have hin : i < n + 26 := by rw [hi]; exact Nat.mod_lt _ (by omega)
        have ht : ((p : Int)).tmod ((n : Int) + 26) = (i : Int) := by
          rw [hi, Int.tmod_eq_emod_of_nonneg (by omega), show ((n : Int) + 26) = ((n + 26 : Nat) : Int) by omega]
          exact (Int.natCast_emod p (n + 26)).symm
        have hle := O3.out.le
        obtain ⟨g, o, hgo, hgb, hcell⟩ := ho.cell (by omega)
        subst hgo
        have hc1 := (hcell i _ (bcells_at (by rw [HSL.out]; exact hin))).1
        obtain ⟨yb, rfl⟩ := u8_nat yv hy0 hy1
        generalize hx : b0.getD i 0 = x at hc1
        have lx := x.toNat_lt
        have HZ0 := veil (show yb = 0 → b0.set i (x ^^^ yb) = b0 from fun h => by
          rw [h, UInt8.xor_zero, ← hx]
          exact set_getD_self b0 i (by rw [HSL.out]; exact hin))
        have HBL := veil (show (b0.set i (x ^^^ yb)).length = n + 26 by rw [List.length_set]; exact HSL.out)
        have HGB := veil hgb
        have HI := veil hi
        clear hcell ho hx hgb hi
        refine wp_region_qtd 17 mixed (by kernel_rfl) ?_
        simp only [List.take_succ_cons, List.take_zero, List.drop_succ_cons, List.drop_zero]
        repeat (go_big_quiet_step (fail))
        refine wpQuiet_nil ?_
        intro _ hw'
        obtain ⟨nq, hw''⟩ := hw'
        subst hw''
        have HSET := (O3.out.drewN nq).set hin (.int .u8 (bits .xor .u8 (x.toNat : Int) (yb.toNat : Int)))
        have hfz := HSET.2.2.2.1
        have HOS := HSET.1
        rw [xor_byte x yb, show (bcells b0).set i (.int .u8 ((x ^^^ yb : UInt8).toNat : Int)) = bcells (b0.set i (x ^^^ yb)) by unfold bcells; rw [List.map_set], ← xor_byte x yb] at HOS
        have HOS := veil HOS
        have HBT := veil HSET.2.1
        clear HSET
        go_upto_region 5 with (fail)
        generalize hw4 : World.setCell _ _ _ = w4 at HOS HBT ⊢
        have C4 := veil (C2.out.step ((((But.of_below (S := fun _ => False) HB3.out).drewN nq).own HBT.out (fun k hk => .inr (by rw [hk]; exact HGB.out))).below (fun _ _ hf => hf)))
        have BX4 := veil HOS.out.bs
        have HZERO := veil (show yb = 0 → openP key dir (b0.set i (x ^^^ yb)) = .ok (s', body) from fun h => by rw [HZ0.out h]; exact HPO.out)
        have HXL := veil (show (b0.set i (x ^^^ yb)).length ≤ 1048576 by rw [HBL.out]; omega)
        generalize b0.set i (x ^^^ yb) = b at HZ0 HBL HOS BX4 HZERO HXL
        have HZERO := veil (show (yb.toNat : Int) = 0 → openP key dir b = .ok (s', body) from fun h => HZERO.out (UInt8.toNat_inj.1 (by show yb.toNat = 0; omega)))
        clear hw4 HOS HBT HB3 O3 hc1 hfz HZ0 HPO HSL HS HW
        generalize (yb.toNat : Int) = yv at *
        have q0 := C4.out.r.cell (i := 0) rfl
        rcases ho : openP key dir b with ec | ⟨s2, body2⟩
        · have HP := veil ho
          have hy0 : yv ≠ 0 := by
            rintro rfl
            have h7 := HZERO.out rfl
            rw [HP.out] at h7
            cases h7
          clear ho
          go_upto_region 6 with (first
            | (go_at_call 12
               go_must (
                with_reducible refine (open_bad w4 _ key C4.out.k (by rw [HKN.out]; omega) _ _ _ BX4.out HXL.out ec HP.out).mono ?_
                rintro e v5 ⟨rfl, hb⟩
                have HB := veil hb
                clear hb)))
          generalize hw5 : v5.alloc _ = w5
          have hb5 : Below v5.heap.size v5 w5 := by rw [← hw5]; exact (Below.refl _ _).alloc (Nat.le_refl _) _
          have hb45 := below_step HB.out HB.out.size hb5
          have C5 := veil (C4.out.step hb45)
          have BX5 := veil (BX4.out.below hb45)
          have R5 := veil (show Row w5 v5.heap.size 24 [.int .i64 0, .int .i64 0, .slice none 0 0] by rw [← hw5]; exact Row.newAt _ _ rfl)
          clear hw5 hb5 hb45 HB BX4
          have q0 := C5.out.r.cell (i := 0) rfl
          have q1 := C5.out.r.cell (i := 1) rfl
          have q2 := C5.out.r.cell (i := 2) rfl
          have HOP := openR_any w5 _ _ key b dir C5.out.k BX5.out (by rw [HKN.out]; omega) (by rw [HBL.out]; omega) (by rw [HBL.out]; omega)
          have HOP := veil HOP
          go_upto_region 7 with (first
            | (go_at_call 18
               go_must (
                with_reducible refine HOP.out.mono ?_
                unfold OpenR
                rw [HP.out]
                rintro e v6 ⟨rfl, hb⟩
                have HB := veil hb
                clear hb)))
          generalize hw7 : v6.alloc _ = w7
          have hb7 : Below v6.heap.size v6 w7 := by rw [← hw7]; exact (Below.refl _ _).alloc (Nat.le_refl _) _
          have hb67 := below_step HB.out HB.out.size hb7
          have C7 := veil (C5.out.step hb67)
          have R7 := veil (R5.out.below hb67)
          have S7 := veil (show Row w7 v6.heap.size 24 [.int .i64 0, .int .i64 0, .slice none 0 0] by rw [← hw7]; exact Row.newAt _ _ rfl)
          clear hw7 hb7 hb67 HB HOP
          have HSM := fsame_any w7 0 0 0 0 _ _ [] [] (rdB_nil _) (rdB_nil _) (by decide) (by decide)
          rw [show sameF 0 0 0 0 [] [] = true by decide] at HSM
          have HSM := veil HSM
          have p0 := R7.out.cell (i := 0) rfl
          have p1 := R7.out.cell (i := 1) rfl
          have p2 := R7.out.cell (i := 2) rfl
          have o0 := S7.out.cell (i := 0) rfl
          have o1 := S7.out.cell (i := 1) rfl
          have o2 := S7.out.cell (i := 2) rfl
          have hyb : (yv != 0) = true := bne_iff_ne.2 hy0
          clear hy0
          go_wp2_with (first
            | (go_at_call 13
               go_must (
                with_reducible refine HSM.out.mono ?_
                rintro e w8 ⟨rfl, hb⟩
                have C8 := veil (C7.out.step hb)
                clear hb))
            | (go_at_call 14
               go_must (
                with_reducible refine (code_errno _ ec C8.out.h).mono ?_
                rintro e w9 ⟨rfl, hb⟩
                have C9 := veil (C8.out.step hb)
                clear hb)))
          go_ret
          exact ⟨rfl, C9.out.bw⟩
        · obtain ⟨d2, hd2e, hd2, hs3, hs4, hbl2, hbq⟩ := openP_ok ho
          have HP := veil ho
          have HB2L := veil hbl2
          clear ho hbq HZERO hd2e
          go_upto_region 6 with (first
            | (go_at_call 12
               go_must (
                with_reducible refine (open_ok w4 _ key C4.out.k (by rw [HKN.out]; omega) _ _ _ BX4.out HXL.out s2 body2 HP.out).mono ?_
                rintro e v5 ⟨A5, c5, rfl, hb2, _, hb⟩
                have HB := veil hb
                have BF5 := veil hb2
                clear hb hb2)))
          generalize hw5 : v5.alloc _ = w5
          have hb5 : Below v5.heap.size v5 w5 := by rw [← hw5]; exact (Below.refl _ _).alloc (Nat.le_refl _) _
          have hb45 := below_step HB.out HB.out.size hb5
          have C5 := veil (C4.out.step hb45)
          have BX5 := veil (BX4.out.below hb45)
          have BG5 := veil (BF5.out.below hb5)
          have R5 := veil (show Row w5 v5.heap.size 24 [.int .i64 dir, .int .i64 (s2 : Int), .slice A5 body2.length c5] by rw [← hw5]; exact Row.newAt _ _ rfl)
          clear hw5 hb5 hb45 HB BX4 BF5
          have q0 := C5.out.r.cell (i := 0) rfl
          have q1 := C5.out.r.cell (i := 1) rfl
          have q2 := C5.out.r.cell (i := 2) rfl
          have HOP := openR_any w5 _ _ key b dir C5.out.k BX5.out (by rw [HKN.out]; omega) (by rw [HBL.out]; omega) (by rw [HBL.out]; omega)
          have HOP := veil HOP
          go_upto_region 7 with (first
            | (go_at_call 18
               go_must (
                with_reducible refine HOP.out.mono ?_
                unfold OpenR
                rw [HP.out]
                rintro e v6 ⟨⟨A6, c6, rfl, hb2⟩, hb⟩
                have HB := veil hb
                have BF6 := veil hb2
                clear hb hb2)))
          generalize hw7 : v6.alloc _ = w7
          have hb7 : Below v6.heap.size v6 w7 := by rw [← hw7]; exact (Below.refl _ _).alloc (Nat.le_refl _) _
          have hb67 := below_step HB.out HB.out.size hb7
          have C7 := veil (C5.out.step hb67)
          have R7 := veil (R5.out.below hb67)
          have BG7 := veil (BG5.out.below hb67)
          have BF7 := veil (BF6.out.below hb7)
          have S7 := veil (show Row w7 v6.heap.size 24 [.int .i64 dir, .int .i64 (s2 : Int), .slice A6 body2.length c6] by rw [← hw7]; exact Row.newAt _ _ rfl)
          clear hw7 hb7 hb67 HB HOP BG5 BF6
          have HSM := fsame_any w7 dir (s2 : Int) dir (s2 : Int) _ _ body2 body2 BG7.out.rd BF7.out.rd (by have := HB2L.out; omega) (by have := HB2L.out; omega)
          rw [show sameF dir (s2 : Int) dir (s2 : Int) body2 body2 = true by simp [sameF]] at HSM
          have HSM := veil HSM
          have p0 := R7.out.cell (i := 0) rfl
          have p1 := R7.out.cell (i := 1) rfl
          have p2 := R7.out.cell (i := 2) rfl
          have o0 := S7.out.cell (i := 0) rfl
          have o1 := S7.out.cell (i := 1) rfl
          have o2 := S7.out.cell (i := 2) rfl
          by_cases hy0 : yv = 0
          · subst hy0
            skip
            go_wp2_with (first
              | (go_at_call 13
                 go_must (
                  with_reducible refine HSM.out.mono ?_
                  rintro e w8 ⟨rfl, hb⟩
                  have C8 := veil (C7.out.step hb)
                  clear hb))
              | (go_at_call 14
                 go_must (
                  with_reducible refine (code_nil _).mono ?_
                  rintro e w9 ⟨rfl, hb⟩
                  have C9 := veil (C8.out.step hb)
                  clear hb)))
            go_ret
            exact ⟨rfl, C9.out.bw⟩
          · have hyb : (yv != 0) = true := bne_iff_ne.2 hy0
            clear hy0
            go_wp2_with (first
              | (go_at_call 13
                 go_must (
                  with_reducible refine HSM.out.mono ?_
                  rintro e w8 ⟨rfl, hb⟩
                  have C8 := veil (C7.out.step hb)
                  clear hb))
              | (go_at_call 14
                 go_must (
                  with_reducible refine (code_nil _).mono ?_
                  rintro e w9 ⟨rfl, hb⟩
                  have C9 := veil (C8.out.step hb)
                  clear hb)))
            go_ret
            exact ⟨rfl, C9.out.bw⟩
      · generalize wrongP dir seq n = m at hz HW
        have hz3 : (m != 0) = true := bne_iff_ne.2 hz
        have HW := veil HW
        clear hz
        go_upto_region 2 with (first
          | (go_at_call 10
             go_must (
              with_reducible refine (awake19_any _ C0.out.h).mono ?_
              rintro e w1 ⟨rfl, hb⟩
              have C1 := veil (C0.out.step hb)
              have q0 := C1.out.r.cell (i := 0) rfl
              have q1 := C1.out.r.cell (i := 1) rfl
              have q2 := C1.out.r.cell (i := 2) rfl
              clear hb))
          | (go_at_call 16
             go_must (
              with_reducible refine (HW.out _).mono ?_
              rintro e w2 ⟨rfl, hb⟩
              have C2 := veil (C1.out.step hb)
              have q0 := C2.out.r.cell (i := 0) rfl
              have q1 := C2.out.r.cell (i := 1) rfl
              have q2 := C2.out.r.cell (i := 2) rfl
              clear hb)))
        go_wp2_with (first
          | (go_at_call 10
             go_must (
              with_reducible refine (awake19_any _ C2.out.h).mono ?_
              rintro e w3 ⟨rfl, hb⟩
              have C3 := veil (C2.out.step hb)
              have q0 := C3.out.r.cell (i := 0) rfl
              have q1 := C3.out.r.cell (i := 1) rfl
              have q2 := C3.out.r.cell (i := 2) rfl
              clear hb)))
        go_ret
        exact ⟨rfl, C3.out.bw⟩
theorem wf_at {k : IntKind} {n : Int} (h : (Lit.int k n).wf = true) : k.min ≤ n ∧ n ≤ k.max := by
  unfold Lit.wf at h
  simpa using h
theorem frameForged_any (w : World) (hg : Handle w) (kv bv : Value) (key body : List UInt8) (dir seq p y : Int) (hk : Bs w kv key) (hf : Bs w bv body) (hkl : key.length ≤ 9223372036854775807) (hfl : body.length ≤ 9223372036854775807) (hp : (Lit.int .u16 p).wf = true) (hy : (Lit.int .u8 y).wf = true) :
    Calls Tryd.prog 4 #[kv, .agg #[.int .i64 dir, .int .i64 seq, bv], .int .u16 p, .int .u8 y] w fun e w' => e = .returned (.bool true) ∧ Below w.heap.size w w' := by
  obtain ⟨h1, h2⟩ := wf_at hp
  obtain ⟨h3, h4⟩ := wf_at hy
  change (0 : Int) ≤ p at h1
  change p ≤ 65535 at h2
  change (0 : Int) ≤ y at h3
  change y ≤ 255 at h4
  obtain ⟨p', rfl⟩ := u16_nat p h1
  exact frameForged_nat w hg kv bv key body dir seq p' y (by omega) h3 (by omega) hk hf hkl hfl
end Go.Proofs.YtojffibjjicddaaDoor
