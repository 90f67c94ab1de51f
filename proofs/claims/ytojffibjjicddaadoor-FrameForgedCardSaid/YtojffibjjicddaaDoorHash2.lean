/- Contract of hash.Sum.block. -/
import Derived.Test.YtojffibjjicddaaDoorHash1
import Derived.Lib.QuietBelow
import Derived.WalkSpells
import Derived.Deep.Cut
import Derived.Deep.CutBlock
namespace Go.Proofs.YtojffibjjicddaaDoor
open Go.RowKit
set_option linter.unusedVariables false
set_option linter.unusedSimpArgs false
theorem digits_rounds (s : ByteArray) (i : Nat) (hs : s.data.toList = roundsL) (hi : i < 64) (w : World) : Calls Tryd.prog 54 #[.string s, .int .i64 i] w fun e w' => e = .returned (.int .u32 (Kt i : Nat)) ∧ Below w.heap.size w w' := by
  have hsz : s.size = 512 := by
    have : s.data.toList.length = 512 := by rw [hs]; exact roundsL_length
    simpa using this
  refine (digits_any s i (by omega) (by omega) w).mono fun e w' ⟨he, hb⟩ => ⟨?_, hb⟩
  rw [he, hs, hexw_rounds i hi]
theorem digits_begin (s : ByteArray) (i : Nat) (hs : s.data.toList = beginL) (hi : i < 8) (w : World) : Calls Tryd.prog 54 #[.string s, .int .i64 i] w fun e w' => e = .returned (.int .u32 (H0.l.getD i 0 : Nat)) ∧ Below w.heap.size w w' := by
  have hsz : s.size = 64 := by
    have : s.data.toList.length = 64 := by rw [hs]; exact beginL_length
    simpa using this
  refine (digits_any s i (by omega) (by omega) w).mono fun e w' ⟨he, hb⟩ => ⟨?_, hb⟩
  rw [he, hs, hexw_begin i hi]

set_option maxRecDepth 100000 in
set_option maxHeartbeats 400000 in
theorem block_any (w : World) (h : V8) (hh : h.ok) (S : Nat) (restV nV : Value) (hS : Row w S 118 (u32s h.l ++ [restV, nV])) (m : List UInt8) (b off n c : Nat) (hn : 64 ≤ n) (hn2 : n ≤ 1000) (hbS : b ≠ S) (hm : ∀ i : Nat, i < 64 → w.cell? ⟨b, off + i, none⟩ = some (.int .u8 ((m.getD i 0).toNat : Int))) :
    Calls Tryd.prog 55 #[.pointer (some ⟨S, 0, none⟩), .slice (some ⟨b, off, none⟩) n c] w fun e w' => e = .returned (.tuple #[]) ∧ Row w' S 118 (u32s (blk h m).l ++ [restV, nV]) ∧ But (fun k => k = S) w w' := by
  have HS := veil hS
  have HM := veil hm
  clear hS hm
  go_enter Tryd.func55, Tryd.ntmps55
  go_wp2_with fail
  refine (words_any _ m b off n c hn hn2 HM.out).mono ?_
  rintro e w1 ⟨rfl, hb1⟩
  have hwl : (u32s (wsN m 64)).length = 64 := by simp [u32s, wsN_length]
  have hw1 : ∀ v ∈ u32s (wsN m 64), v.oneCell' = true := by simp [u32s, Value.oneCell']
  generalize hws : u32s (wsN m 64) = ws at hwl hw1 ⊢
  have WS := veil hws
  have WL := veil hwl
  have W1 := veil hw1
  have hvl : (u32s h.l).length = 8 := rfl
  have hv1 : ∀ v ∈ u32s h.l, v.oneCell' = true := by simp [u32s, Value.oneCell']
  have HR1 := veil (HS.out.below hb1)
  generalize hvs : u32s h.l = vs at hvl hv1 HR1 HS
  have VS := veil hvs
  have VL := veil hvl
  have V1 := veil hv1
  clear hws hwl hw1 hvs hvl hv1
  simp only []
  iterate 4 go_step
  with_reducible apply wpL_store
  · rfl
  · rfl
  · exact Row.newAt _ (List.replicate 64 (.int .u32 0)) rfl
  · rw [WL.out]; decide
  · exact W1.out
  · rw [WL.out]; kernel_rfl
  intro w2 hr2 ho2
  have hSlt := HR1.out.lt
  have RW := veil (hr2.whole rfl WL.out)
  have RS := veil (ho2.row (HR1.out.alloc _) (by omega))
  have B2 := veil (ho2.below ((hb1.alloc hb1.size _)) hb1.size)
  have hsz2 := ho2.size
  simp at hsz2
  clear hr2 ho2
  go_wp2_with (first
    | (with_reducible apply wpL_load
       go_must (
        · rfl
        · exact fun j v hv => by rw [Nat.zero_add]; exact RS.out.cell (i := j) (by rw [List.getElem?_append_left (by rw [VL.out]; have := (List.getElem?_eq_some_iff.1 hv).1; rw [VL.out] at this; exact this)]; exact hv)
        · exact Tryd.underlying116
        · rfl
        · rw [VL.out]; kernel_rfl))
    | (with_reducible apply wpL_store
       go_must (
        · rfl
        · rfl
        · exact Row.newAt _ (List.replicate 8 (.int .u32 0)) hsz2
        · rw [VL.out]; decide
        · exact V1.out
        · rw [VL.out]; kernel_rfl
        intro w3 hr3 ho3)))
  have hlv : (List.replicate 8 (Value.int .u32 0)).length = 8 := rfl
  have RV := veil (hr3.whole hlv VL.out)
  have RW3 := veil (ho3.row (RW.out.alloc _) (by omega))
  have RS3 := veil (ho3.row (RS.out.alloc _) (by omega))
  have hsz3 := ho3.size
  simp at hsz3
  have B3 := veil (ho3.below (B2.out.alloc (by have := hb1.size; omega) _) (by have := hb1.size; omega))
  have hwB := hb1.size
  have hVS : u32s h.l = vs := VS.out
  rw [← hVS] at RV
  have RV' := veil RV.out
  clear RV RW RS B2 hr3 ho3 hVS hlv hsz3 hsz2 hb1 HR1
  go_loopw [18] (fun j wr => ∃ (k : Nat), k ≤ 64 ∧ j = .int .i64 k ∧ Row wr (w1.heap.size + 1) 116 (u32s (rnds h (wsN m 64) k).l) ∧ Row wr w1.heap.size 123 ws ∧ Row wr S 118 (vs ++ [restV, nV]) ∧ Below w.heap.size w wr) (fun j _ => 64 - (intOf j).toNat)
  case atStart => exact ⟨0, by omega, rfl, RV'.out, RW3.out, RS3.out, B3.out⟩
  case round =>
    obtain ⟨k, hk, rfl, hrv, hrw, hrs, hbel⟩ := hrel
    by_cases hlt : k < 64
    · have hok := rnds_ok hh (wsN m 64) k
      generalize hv : rnds h (wsN m 64) k = v at hrv hok
      have HV := veil hv
      clear hv
      obtain ⟨va, vb, vc, vd, ve, vf, vg, vh⟩ := v
      obtain ⟨la, lb, lc, ld, le, lf, lg, lh⟩ := hok
      simp only at la lb lc ld le lf lg lh
      have c0 := hrv.cell (i := 0) rfl
      have c1 := hrv.cell (i := 1) rfl
      have c2 := hrv.cell (i := 2) rfl
      have c3 := hrv.cell (i := 3) rfl
      have c4 := hrv.cell (i := 4) rfl
      have c5 := hrv.cell (i := 5) rfl
      have c6 := hrv.cell (i := 6) rfl
      have c7 := hrv.cell (i := 7) rfl
      simp only at c0 c1 c2 c3 c4 c5 c6 c7
      have cw := hrw.cell (i := k) (v := .int .u32 ((wsN m 64).getD k 0 : Nat)) (by rw [← WS.out]; exact u32s_get _ _ (by rw [wsN_length]; exact hlt))
      have lw := getD_lt (wsN_lt m 64) k
      generalize hwk : (wsN m 64).getD k 0 = wk at cw lw
      have HWK := veil hwk
      clear hwk
      have RV := veil hrv
      have RW := veil hrw
      have RS := veil hrs
      have BB := veil hbel
      clear hrv hrw hrs hbel
      go_upto_region 5 with (fail)
      go_quiet (fail)
      go_upto_region 6 with (fail)
      have d5 := fun d os => cell_regrown (w := wr.drewN nq) c5 d os
      have d6 := fun d os => cell_regrown (w := wr.drewN nq) c6 d os
      have d7 := fun d os => cell_regrown (w := wr.drewN nq) c7 d os
      have dw := fun d os => cell_regrown (w := wr.drewN nq) cw d os
      refine wp_region_quiet_below mixed (by kernel_rfl) ?_
      repeat (go_big_quiet_step (first
        | (go_at_call 60; exact Calls.regrown_of ((turn_i _ _ (by omega) (by omega) (by omega) _).mono fun e w' ⟨he, k, hk⟩ => ⟨he, by rw [hk]; exact below_drewN (Below.refl _ _) k⟩))
        | (go_at_call 54; exact Calls.regrown_of (digits_rounds _ _ (by kernel_rfl) (by omega) _))))
      refine wpQuiet_nil ?_
      intro w5 hw5
      obtain ⟨p5, rfl⟩ := hw5
      have hok5 : (V8.mk va vb vc vd ve vf vg vh).ok := ⟨la, lb, lc, ld, le, lf, lg, lh⟩
      have eX := rX_eq _ hok5 (Kt k) wk
      simp only at eX
      rw [eX]
      have lX : rX (V8.mk va vb vc vd ve vf vg vh) (Kt k) wk < 4294967296 := Nat.mod_lt _ (by decide)
      clear eX d5 d6 d7 dw
      generalize hX : rX (V8.mk va vb vc vd ve vf vg vh) (Kt k) wk = x at lX ⊢
      have HX := veil hX
      clear hX
      have hb5 : Below wr.heap.size wr («Sort».grow (redrawn (wr.drewN nq) p5.d) p5.os) := below_undrewN (below_regrown (wr.drewN nq) p5.d p5.os)
      generalize «Sort».grow (redrawn (wr.drewN nq) p5.d) p5.os = w5 at hb5 ⊢
      have RV5 := veil (RV.out.below hb5)
      have RW5 := veil (RW.out.below hb5)
      have RS5 := veil (RS.out.below hb5)
      have BB5 := veil (below_step BB.out BB.out.size hb5)
      clear c0 c1 c2 c3 c4 c5 c6 c7 cw
      have c0 := RV5.out.cell (i := 0) rfl
      have c1 := RV5.out.cell (i := 1) rfl
      have c2 := RV5.out.cell (i := 2) rfl
      have c3 := RV5.out.cell (i := 3) rfl
      have c4 := RV5.out.cell (i := 4) rfl
      have c5 := RV5.out.cell (i := 5) rfl
      have c6 := RV5.out.cell (i := 6) rfl
      simp only at c0 c1 c2 c3 c4 c5 c6
      go_upto_region 7 with (fail)
      go_quiet ((go_at_call 60; exact Calls.quiet_of (turn_i _ _ (by omega) (by omega) (by omega) _)))
      have eY := rY_eq _ hok5
      simp only at eY
      rw [eY]
      have lY : rY (V8.mk va vb vc vd ve vf vg vh) < 4294967296 := Nat.mod_lt _ (by decide)
      clear eY
      generalize hY : rY (V8.mk va vb vc vd ve vf vg vh) = y at lY ⊢
      have HY := veil hY
      clear hY
      go_wp2_with (first
        | (with_reducible apply wpL_store
           go_must (
            · rfl
            · rfl
            · exact RV5.out.drewN _
            · simp [u32s, V8.l]
            · simp [Value.oneCell']
            · kernel_rfl
            intro w6 hr6 ho6)))
      go_roundw
      case rel =>
        have h6 := hr6.whole (n := 8) rfl rfl
        refine ⟨k + 1, by omega, by go_num, ?_, ho6.row (RW5.out.drewN _) (by omega), ho6.row (RS5.out.drewN _) (by omega), ho6.below (below_drewN BB5.out _) (by omega)⟩
        have e1 : rnds h (wsN m 64) (k + 1) = ⟨(x + y) % 4294967296, va, vb, vc, (vd + x) % 4294967296, ve, vf, vg⟩ := by
          show rnd (rnds h (wsN m 64) k) (Kt k) ((wsN m 64).getD k 0) = _
          rw [HV.out, HWK.out]
          unfold rnd
          rw [HX.out, HY.out]
        rw [e1]
        exact h6
      case measure => simp [intOf]; omega
    · obtain rfl : k = 64 := by omega
      have HBLK := veil (show blk h m = addV h (rnds h (wsN m 64) 64) from rfl)
      have hok := rnds_ok hh (wsN m 64) 64
      generalize rnds h (wsN m 64) 64 = v at hrv hok HBLK
      have RV := veil hrv
      have RS := veil (show Row wr S 118 (u32s h.l ++ [restV, nV]) by rw [VS.out]; exact hrs)
      have BB := veil hbel
      have HOK := veil hok
      clear hrv hrw hrs hbel hok
      have hV8 := V8.l_lt HOK.out
      have hH8 := V8.l_lt hh
      go_wp2
      go_loopw [99] (fun j wq => ∃ (k : Nat), k ≤ 8 ∧ j = .int .i64 k ∧ Row wq S 118 (u32s (mixL h v k) ++ [restV, nV]) ∧ Row wq (w1.heap.size + 1) 116 (u32s v.l) ∧ But (fun i => i = S) w wq) (fun j _ => 8 - (intOf j).toNat)
      case atStart => exact ⟨0, by omega, rfl, RS.out, RV.out, But.of_below BB.out⟩
      case round =>
        obtain ⟨k, hk, rfl, hrs, hrv, hbut⟩ := hrel
        by_cases hlt : k < 8
        · have c1 := hrs.cell (i := k) (v := .int .u32 (h.l.getD k 0 : Nat)) (by
            rw [List.getElem?_append_left (by simp [u32s, mixL_length _ _ _ hk]; omega)]
            simp [u32s, mixL_get h v k hlt])
          have c2 := hrv.cell (i := k) (u32s_get _ _ (by simp [V8.l]; omega))
          have f1 := hrs.frozen k
          have l1 := getD_lt hH8 k
          have l2 := getD_lt hV8 k
          generalize hx : h.l.getD k 0 = x at c1 l1
          generalize hy : v.l.getD k 0 = y at c2 l2
          have HX := veil hx
          have HY := veil hy
          have RS1 := veil hrs
          have RV1 := veil hrv
          have BU := veil hbut
          clear hx hy hrs hrv hbut hV8 hH8
          go_upto_region 13 with (fail)
          refine wp_region_qtd 12 mixed (by kernel_rfl) ?_
          simp only [List.take_succ_cons, List.take_zero, List.drop_succ_cons, List.drop_zero]
          repeat (go_big_quiet_step (fail))
          refine wpQuiet_nil ?_
          intro _ hw'
          obtain ⟨nq, hw''⟩ := hw'
          subst hw''
          go_wp2
          go_roundw
          case rel =>
            refine ⟨k + 1, by omega, by go_num, ?_, (RV1.out.drewN _).other _ _ (by simp; omega), (BU.out.drewN _).only (Only.setCell _ _ _) (.inl rfl)⟩
            have h1 := (RS1.out.drewN nq).set k (.int .u32 ((x + y) % 4294967296 : Nat))
            have e1 : (u32s (mixL h v k) ++ [restV, nV]).set k (.int .u32 ((x + y) % 4294967296 : Nat)) = u32s (mixL h v (k + 1)) ++ [restV, nV] := by
              rw [List.set_append_left _ _ (by simp [u32s, mixL_length _ _ _ hk]; omega), ← mixL_succ h v k hlt, HX.out, HY.out]
              simp [u32s, List.map_set]
            rw [e1] at h1
            exact h1
          case measure => simp [intOf]; omega
        · obtain rfl : k = 8 := by omega
          rw [mixL_all] at hrs
          have HB := veil HBLK.out
          have RS1 := veil hrs
          have BU := veil hbut
          clear hrs hrv hbut hV8 hH8
          go_wp2
          go_end0
          exact ⟨rfl, by rw [HB.out]; exact RS1.out, BU.out⟩
end Go.Proofs.YtojffibjjicddaaDoor
