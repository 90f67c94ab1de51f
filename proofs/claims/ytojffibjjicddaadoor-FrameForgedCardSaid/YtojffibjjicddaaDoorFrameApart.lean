/- The law FrameApart answers true for every argument, in every world that holds the listed variable. -/
import Derived.Test.YtojffibjjicddaaDoorFrameBack
import Derived.Test.YtojffibjjicddaaDoorReg
namespace Go.Proofs.YtojffibjjicddaaDoor
open Go.RowKit
structure Ctx4 (w wc : World) (fr fr2 : List Value) (kv bv gv : Value) (key body body2 : List UInt8) : Prop where
  r : Row wc w.heap.size 24 fr
  r2 : Row wc (w.heap.size + 1) 24 fr2
  bw : Below w.heap.size w wc
  k : Bs wc kv key
  f : Bs wc bv body
  g : Bs wc gv body2
  h : Handle wc
theorem Ctx4.step {w wc wd : World} {fr fr2 : List Value} {kv bv gv : Value} {key body body2 : List UInt8} (h : Ctx4 w wc fr fr2 kv bv gv key body body2) (hb : Below wc.heap.size wc wd) : Ctx4 w wd fr fr2 kv bv gv key body body2 :=
  ⟨h.r.below hb, h.r2.below hb, below_step h.bw h.bw.size hb, h.k.below hb, h.f.below hb, h.g.below hb, h.h.below hb⟩
theorem wrongP_ok {d s : Int} {n : Nat} (h : wrongP d s n = 0) : SealOk d s n := by
  unfold wrongP at h
  split at h
  · cases h
  · split at h
    · cases h
    · rename_i h1 h2
      refine ⟨?_, ?_, by omega⟩
      · unfold sidedP; have : d = 0 ∨ d = 1 := by omega
        rcases this with rfl | rfl <;> rfl
      · unfold numberedP; simp; omega
theorem bool_same (b : Bool) : (b == b) = true := by simp
set_option maxRecDepth 100000 in
set_option maxHeartbeats 4000000 in
theorem frameApart_any (w : World) (hg : Handle w) (kv bv gv : Value) (key body body2 : List UInt8) (dir seq dir2 seq2 : Int) (hk : Bs w kv key) (hf : Bs w bv body) (hx : Bs w gv body2) (hkl : key.length ≤ 9223372036854775807) :
    Calls Tryd.prog 6 #[kv, .agg #[.int .i64 dir, .int .i64 seq, bv], .agg #[.int .i64 dir2, .int .i64 seq2, gv]] w fun e w' => e = .returned (.bool true) ∧ Below w.heap.size w w' := by
  obtain ⟨A, c, rfl, hc⟩ := hf.slice
  obtain ⟨K, kc, rfl, hkc⟩ := hk.slice
  obtain ⟨X, xc, rfl, hxc⟩ := hx.slice
  generalize hn : body.length = n at hf hc
  generalize hkn : key.length = kn at hk hkl
  generalize hxn : body2.length = n2 at hx hxc
  have C0 := veil (show Ctx4 w ((w.alloc (.cells #[.int .i64 dir, .int .i64 seq, .slice A n c] 24)).alloc (.cells #[.int .i64 dir2, .int .i64 seq2, .slice X n2 xc] 24)) [.int .i64 dir, .int .i64 seq, .slice A n c] [.int .i64 dir2, .int .i64 seq2, .slice X n2 xc] _ _ _ key body body2 from ⟨(Row.newAt _ _ rfl).alloc _, Row.newAt _ _ (by simp), ((Below.refl _ _).alloc (Nat.le_refl _) _).alloc (by simp) _, (hk.alloc _).alloc _, (hf.alloc _).alloc _, (hx.alloc _).alloc _, (hg.below ((Below.refl _ _).alloc (Nat.le_refl _) _)).below ((Below.refl _ _).alloc (Nat.le_refl _) _)⟩)
  have HN := veil hn
  have HKN := veil hkn
  have HXN := veil hxn
  have HW1 := veil (fun w => wrong_any w dir seq A n c (by omega))
  have HW2 := veil (fun w => wrong_any w dir2 seq2 X n2 xc (by omega))
  clear hn hkn hxn hk hf hx hg hc hkc hxc
  go_enter Tryd.func6, Tryd.ntmps6
  go_upto_region 1 with (fail)
  generalize World.alloc _ _ = w0 at C0 ⊢
  have q0 := C0.out.r.cell (i := 0) rfl
  have q1 := C0.out.r.cell (i := 1) rfl
  have q2 := C0.out.r.cell (i := 2) rfl
  have p0 := C0.out.r2.cell (i := 0) rfl
  have p1 := C0.out.r2.cell (i := 1) rfl
  have p2 := C0.out.r2.cell (i := 2) rfl
  by_cases hk2 : 200 < kn
  · go_upto_region 2 with (first
      | (go_at_call 10
         go_must (
          with_reducible refine (awake19_any _ C0.out.h).mono ?_
          rintro e w1 ⟨rfl, hb⟩
          have C1 := veil (C0.out.step hb)
          have q0 := C1.out.r.cell (i := 0) rfl
          have q1 := C1.out.r.cell (i := 1) rfl
          have q2 := C1.out.r.cell (i := 2) rfl
          have p0 := C1.out.r2.cell (i := 0) rfl
          have p1 := C1.out.r2.cell (i := 1) rfl
          have p2 := C1.out.r2.cell (i := 2) rfl
          clear hb)))
    go_wp2_with (first
      | (go_at_call 10
         go_must (
          with_reducible refine (awake19_any _ C1.out.h).mono ?_
          rintro e w2 ⟨rfl, hb⟩
          have C2 := veil (C1.out.step hb)
          have q0 := C2.out.r.cell (i := 0) rfl
          have q1 := C2.out.r.cell (i := 1) rfl
          have q2 := C2.out.r.cell (i := 2) rfl
          have p0 := C2.out.r2.cell (i := 0) rfl
          have p1 := C2.out.r2.cell (i := 1) rfl
          have p2 := C2.out.r2.cell (i := 2) rfl
          clear hb)))
    go_ret
    exact ⟨rfl, C2.out.bw⟩
  · by_cases hz : wrongP dir seq n = 0
    · have HOK1 := veil (wrongP_ok hz)
      rw [hz] at HW1
      by_cases hz2 : wrongP dir2 seq2 n2 = 0
      · have HOK2 := veil (wrongP_ok hz2)
        rw [hz2] at HW2
        clear hz hz2
        go_upto_region 3 with (first
          | (go_at_call 10
             go_must (
              with_reducible refine (awake19_any _ C0.out.h).mono ?_
              rintro e w1 ⟨rfl, hb⟩
              have C1 := veil (C0.out.step hb)
              have q0 := C1.out.r.cell (i := 0) rfl
              have q1 := C1.out.r.cell (i := 1) rfl
              have q2 := C1.out.r.cell (i := 2) rfl
              have p0 := C1.out.r2.cell (i := 0) rfl
              have p1 := C1.out.r2.cell (i := 1) rfl
              have p2 := C1.out.r2.cell (i := 2) rfl
              clear hb))
          | (go_at_call 16
             go_must (
              first
              | (with_reducible refine (HW1.out _).mono ?_
                 rintro e w2 ⟨rfl, hb⟩
                 have C2 := veil (C1.out.step hb)
                 have q0 := C2.out.r.cell (i := 0) rfl
                 have q1 := C2.out.r.cell (i := 1) rfl
                 have q2 := C2.out.r.cell (i := 2) rfl
                 have p0 := C2.out.r2.cell (i := 0) rfl
                 have p1 := C2.out.r2.cell (i := 1) rfl
                 have p2 := C2.out.r2.cell (i := 2) rfl
                 clear hb)
              | (with_reducible refine (HW2.out _).mono ?_
                 rintro e w3 ⟨rfl, hb⟩
                 have C3 := veil (C2.out.step hb)
                 have q0 := C3.out.r.cell (i := 0) rfl
                 have q1 := C3.out.r.cell (i := 1) rfl
                 have q2 := C3.out.r.cell (i := 2) rfl
                 have p0 := C3.out.r2.cell (i := 0) rfl
                 have p1 := C3.out.r2.cell (i := 1) rfl
                 have p2 := C3.out.r2.cell (i := 2) rfl
                 clear hb))))
        obtain ⟨d1, s1, rfl, rfl, hd1, hs1, hs1', hn1⟩ := sealOk_nat HOK1.out
        obtain ⟨d2, s2, rfl, rfl, hd2, hs2, hs2', hn2⟩ := sealOk_nat HOK2.out
        have HBB := veil (show sameF (d1 : Int) (s1 : Int) (d2 : Int) (s2 : Int) body body2 = decide (sealP key d1 s1 body = sealP key d2 s2 body2) by
          unfold sameF
          refine decide_eq_decide.2 ?_
          rw [sealP_inj hd1 hd2 hs1' hs2']
          constructor
          · rintro ⟨h1, h2, h3⟩; exact ⟨by omega, by omega, h3⟩
          · rintro ⟨h1, h2, h3⟩; exact ⟨by omega, by omega, h3⟩)
        have HS1 := seal_ok w3 _ key C3.out.k (by rw [HKN.out]; omega) _ _ _ body C3.out.f (by rw [HN.out]; exact HOK1.out)
        rw [HN.out, Int.toNat_natCast, Int.toNat_natCast] at HS1
        have HS1 := veil HS1
        go_upto_region 4 with (first
          | (go_at_call 11
             go_must (
              with_reducible refine HS1.out.mono ?_
              rintro e w4 ⟨A4, c4, rfl, hb4, _, _, hb⟩
              have C4 := veil (C3.out.step hb)
              have BA4 := veil hb4
              have q0 := C4.out.r.cell (i := 0) rfl
              have q1 := C4.out.r.cell (i := 1) rfl
              have q2 := C4.out.r.cell (i := 2) rfl
              have p0 := C4.out.r2.cell (i := 0) rfl
              have p1 := C4.out.r2.cell (i := 1) rfl
              have p2 := C4.out.r2.cell (i := 2) rfl
              clear hb hb4)))
        have HS2 := seal_ok w4 _ key C4.out.k (by rw [HKN.out]; omega) _ _ _ body2 C4.out.g (by rw [HXN.out]; exact HOK2.out)
        rw [HXN.out, Int.toNat_natCast, Int.toNat_natCast] at HS2
        have HS2 := veil HS2
        go_upto_region 5 with (first
          | (go_at_call 11
             go_must (
              with_reducible refine HS2.out.mono ?_
              rintro e w5 ⟨A5, c5, rfl, hb5, _, _, hb⟩
              have C5 := veil (C4.out.step hb)
              have BA5 := veil (BA4.out.below hb)
              have BB5 := veil hb5
              have q0 := C5.out.r.cell (i := 0) rfl
              have q1 := C5.out.r.cell (i := 1) rfl
              have q2 := C5.out.r.cell (i := 2) rfl
              have p0 := C5.out.r2.cell (i := 0) rfl
              have p1 := C5.out.r2.cell (i := 1) rfl
              have p2 := C5.out.r2.cell (i := 2) rfl
              clear hb hb5)))
        have HSM := fun m => same_any (w5.drewN m) _ _ (sealP key d1 s1 body) (sealP key d2 s2 body2) (BA5.out.rd.drewN m) (BB5.out.rd.drewN m) (by rw [sealP_length, HN.out]; omega) (by rw [sealP_length, HXN.out]; omega)
        have HFM := fun m => fsame_any (w5.drewN m) (d1 : Int) (s1 : Int) (d2 : Int) (s2 : Int) _ _ body body2 (C5.out.f.rd.drewN m) (C5.out.g.rd.drewN m) (by rw [HN.out]; omega) (by rw [HXN.out]; omega)
        rw [HBB.out] at HFM
        generalize decide (sealP key d1 s1 body = sealP key d2 s2 body2) = bb at HSM HFM
        have HBE := bool_same bb
        have HSM := veil HSM
        have HFM := veil HFM
        refine wp_region_qtd 12 mixed (by kernel_rfl) ?_
        simp only [List.take_succ_cons, List.take_zero, List.drop_succ_cons, List.drop_zero]
        repeat (go_big_quiet_step ((go_at_call 15; exact Calls.quiet_of (HSM.out _))))
        refine wpQuiet_nil ?_
        intro _ hw'
        obtain ⟨nq, hw''⟩ := hw'
        subst hw''
        go_wp2_with (first
          | (go_at_call 13
             go_must (
              with_reducible refine (HFM.out _).mono ?_
              rintro e w6 ⟨rfl, hb⟩
              have B6 := veil (below_step C5.out.bw C5.out.bw.size (below_undrewN hb))
              clear hb)))
        go_ret
        exact ⟨rfl, B6.out⟩
      · generalize wrongP dir2 seq2 n2 = m at hz2 HW2
        have hz3 : (m != 0) = true := bne_iff_ne.2 hz2
        clear hz hz2
        go_upto_region 2 with (first
          | (go_at_call 10
             go_must (
              with_reducible refine (awake19_any _ C0.out.h).mono ?_
              rintro e w1 ⟨rfl, hb⟩
              have C1 := veil (C0.out.step hb)
              have q0 := C1.out.r.cell (i := 0) rfl
              have q1 := C1.out.r.cell (i := 1) rfl
              have q2 := C1.out.r.cell (i := 2) rfl
              have p0 := C1.out.r2.cell (i := 0) rfl
              have p1 := C1.out.r2.cell (i := 1) rfl
              have p2 := C1.out.r2.cell (i := 2) rfl
              clear hb))
          | (go_at_call 16
             go_must (
              first
              | (with_reducible refine (HW1.out _).mono ?_
                 rintro e w2 ⟨rfl, hb⟩
                 have C2 := veil (C1.out.step hb)
                 have q0 := C2.out.r.cell (i := 0) rfl
                 have q1 := C2.out.r.cell (i := 1) rfl
                 have q2 := C2.out.r.cell (i := 2) rfl
                 have p0 := C2.out.r2.cell (i := 0) rfl
                 have p1 := C2.out.r2.cell (i := 1) rfl
                 have p2 := C2.out.r2.cell (i := 2) rfl
                 clear hb)
              | (with_reducible refine (HW2.out _).mono ?_
                 rintro e w3 ⟨rfl, hb⟩
                 have C3 := veil (C2.out.step hb)
                 have q0 := C3.out.r.cell (i := 0) rfl
                 have q1 := C3.out.r.cell (i := 1) rfl
                 have q2 := C3.out.r.cell (i := 2) rfl
                 have p0 := C3.out.r2.cell (i := 0) rfl
                 have p1 := C3.out.r2.cell (i := 1) rfl
                 have p2 := C3.out.r2.cell (i := 2) rfl
                 clear hb))))
        go_wp2_with (first
          | (go_at_call 10
             go_must (
              with_reducible refine (awake19_any _ C3.out.h).mono ?_
              rintro e w4 ⟨rfl, hb⟩
              have C4 := veil (C3.out.step hb)
              have q0 := C4.out.r.cell (i := 0) rfl
              have q1 := C4.out.r.cell (i := 1) rfl
              have q2 := C4.out.r.cell (i := 2) rfl
              have p0 := C4.out.r2.cell (i := 0) rfl
              have p1 := C4.out.r2.cell (i := 1) rfl
              have p2 := C4.out.r2.cell (i := 2) rfl
              clear hb)))
        go_ret
        exact ⟨rfl, C4.out.bw⟩
    · generalize wrongP dir seq n = m at hz HW1
      have hz3 : (m != 0) = true := bne_iff_ne.2 hz
      clear hz
      go_upto_region 2 with (first
        | (go_at_call 10
           go_must (
            with_reducible refine (awake19_any _ C0.out.h).mono ?_
            rintro e w1 ⟨rfl, hb⟩
            have C1 := veil (C0.out.step hb)
            have q0 := C1.out.r.cell (i := 0) rfl
            have q1 := C1.out.r.cell (i := 1) rfl
            have q2 := C1.out.r.cell (i := 2) rfl
            have p0 := C1.out.r2.cell (i := 0) rfl
            have p1 := C1.out.r2.cell (i := 1) rfl
            have p2 := C1.out.r2.cell (i := 2) rfl
            clear hb))
        | (go_at_call 16
           go_must (
            with_reducible refine (HW1.out _).mono ?_
            rintro e w2 ⟨rfl, hb⟩
            have C2 := veil (C1.out.step hb)
            have q0 := C2.out.r.cell (i := 0) rfl
            have q1 := C2.out.r.cell (i := 1) rfl
            have q2 := C2.out.r.cell (i := 2) rfl
            have p0 := C2.out.r2.cell (i := 0) rfl
            have p1 := C2.out.r2.cell (i := 1) rfl
            have p2 := C2.out.r2.cell (i := 2) rfl
            clear hb)))
      go_wp2_with (first
        | (go_at_call 10
           go_must (
            with_reducible refine (awake19_any _ C2.out.h).mono ?_
            rintro e w4 ⟨rfl, hb⟩
            have C4 := veil (C2.out.step hb)
            have q0 := C4.out.r.cell (i := 0) rfl
            have q1 := C4.out.r.cell (i := 1) rfl
            have q2 := C4.out.r.cell (i := 2) rfl
            have p0 := C4.out.r2.cell (i := 0) rfl
            have p1 := C4.out.r2.cell (i := 1) rfl
            have p2 := C4.out.r2.cell (i := 2) rfl
            clear hb)))
      go_ret
      exact ⟨rfl, C4.out.bw⟩
end Go.Proofs.YtojffibjjicddaaDoor
