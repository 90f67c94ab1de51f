/- For every input the law FrameForged returns true and each argument reads afterwards as before: the card FrameForgedCardSaid. Conditions: none beyond those of the statement. -/
import Derived.Test.YtojffibjjicddaaDoorRow
import Derived.Test.YtojffibjjicddaaDoorFrameForged
import Derived.Lib.SmallJoins
namespace Go.Proofs.YtojffibjjicddaaDoor.frameForged
open Go.ChangeShapes Go.WideShapes Go.ChangeAt Go.RowKit
set_option maxRecDepth 100000 in
theorem contract (H : Type) (enc : TypeId × Value → H) (W : World) (base : Nat) (args : Array Value) (ds gs : List (DataW H)) (before : List MemPlace)
    (hval : ∀ (j : Nat) t v, Tryd.f4.params[j]? = some t → args[j]? = some v → Value.okWide Tryd.prog W .any base t v)
    (hW : DataW.Whole enc Tryd.prog Tryd.f4.params.toList Rows.frameForgedSpec.vars false W args.toList ds gs before) (hL : laidMetH Tryd.prog laidList W) :
    Calls Tryd.prog 4 args W fun e W' => ∃ v, e = .returned v ∧ Rows.frameForgedSpec.post enc Tryd.prog Tryd.f4 false true false false W args v W' := by
  have hg := handle_of_laid hL
  have hW' := hW
  obtain ⟨p, q, hA0, hV, rfl, hfz, hnd⟩ := hW
  have hA : DataW.TrodAll enc Tryd.prog W 0 (fun _ => true) true Tryd.f4.params.toList args.toList ds p := hA0
  rw [Tryd.params4] at hA hval
  obtain ⟨v0, vs0, d0, ds0, p0, q0, hargs, rfl, rfl, h0, r0⟩ := trodAll_cons hA
  obtain ⟨v1, vs1, d1, ds1, p1, q1, rfl, rfl, rfl, h1, r1⟩ := trodAll_cons r0
  obtain ⟨v2, vs2, d2, ds2, p2, q2, rfl, rfl, rfl, h2, r2⟩ := trodAll_cons r1
  obtain ⟨v3, vs3, d3, ds3, p3, q3, rfl, rfl, rfl, h3, r3⟩ := trodAll_cons r2
  obtain ⟨rfl, rfl, rfl⟩ := trodAll_nil r3
  obtain rfl : args = #[v0, v1, v2, v3] := by cases args; simp_all
  obtain ⟨rfl, rfl⟩ := trodVars_none hV
  clear hA0
  obtain ⟨n0, hn0⟩ := h0
  have k0 := okCell Tryd.underlying22 (hval 0 22 v0 rfl rfl)
  obtain ⟨A0, l0, c0, rfl⟩ := okWide_slice Tryd.underlying22 (hval 0 22 v0 rfl rfl)
  obtain ⟨x0, hb0⟩ := open_bs k0 hn0
  have lb0 := (hb0.slice).choose_spec.choose_spec
  have hv1 := hval 1 24 v1 rfl rfl
  obtain ⟨z10, z11, z12, y10, y11, y12, n1, rfl, rfl, rfl, t10, t11, t12⟩ := Go.Joins.open_agg3 Tryd.underlying24 (by kernel_rfl) (by kernel_rfl) hv1 h1
  obtain ⟨dir1, e10, _, _⟩ := DataW.trod_int Tryd.underlying3 t10
  obtain ⟨seq1, e11, _, _⟩ := DataW.trod_int Tryd.underlying3 t11
  obtain rfl : z10 = .int .i64 dir1 := by simpa using e10
  obtain rfl : z11 = .int .i64 seq1 := by simpa using e11
  obtain ⟨x1, hb1⟩ := open_bs (agg_cell (ts := [3, 3, 22]) Tryd.underlying24 (by kernel_rfl) hv1 2 rfl rfl) t12
  have lb1 := (hb1.slice).choose_spec.choose_spec
  obtain ⟨i2, rfl, rfl, rfl, wf2⟩ := open_int Tryd.underlying36 (hval 2 36 v2 rfl rfl) h2
  obtain ⟨i3, rfl, rfl, rfl, wf3⟩ := open_int Tryd.underlying5 (hval 3 5 v3 rfl rfl) h3
  refine (frameForged_any W hg _ _ x0 x1 dir1 seq1 i2 i3 hb0 hb1 (by omega) (by omega) wf2 wf3).mono fun e W' ⟨he, hbw⟩ => ?_
  subst he
  exact ⟨_, rfl, post_true (by rw [Tryd.params4, hSize]; decide) (by kernel_rfl) rfl rfl hW' hbw⟩
theorem reads (os : Os) {H : Type} (enc : TypeId × Value → H) : ∃ places, DataW.whole enc Tryd.prog ((laidWorld os).forCall (fun _ _ => 0) ⟨#[], #[.slice none 0 0, .agg #[.int .i64 0, .int .i64 0, .slice none 0 0], .int .u16 0, .int .u8 0], []⟩).memory Tryd.f4.params.toList Rows.frameForgedSpec.vars false (#[.slice none 0 0, .agg #[.int .i64 0, .int .i64 0, .slice none 0 0], .int .u16 0, .int .u8 0] : Array Value).toList 8 = some ([.nil, .agg [.lit (.int .i64 0), .lit (.int .i64 0), .nil], .lit (.int .u16 0), .lit (.int .u8 0)], [], places) :=
  ⟨[], by kernel_rfl⟩
set_option maxRecDepth 100000 in
theorem lifted (os : Os) (started : os.Started) (H : Type) (enc : TypeId × Value → H) (F : Stop.Interp) :
    ReturnsInHanded {} Tryd.checked os 4 .any ((OpenSpec.ofChange Rows.frameForgedSpec).preRow enc Tryd.prog Tryd.f4 Rows.frameForgedRow.domain false Rows.frameForgedRow.laid) (((OpenSpec.ofChange Rows.frameForgedSpec).at F).post enc Tryd.prog Tryd.f4 false true false false) := by
  obtain ⟨places, hx⟩ := reads os enc
  refine returnsInHanded_of_row (C := Tryd.checked) (s := OpenSpec.ofChange Rows.frameForgedSpec) own started (by kernel_rfl) Tryd.func4
    (witness_row_at (enc := enc) (C := Tryd.checked) false (laidWorld os) #[.slice none 0 0, .agg #[.int .i64 0, .int .i64 0, .slice none 0 0], .int .u16 0, .int .u8 0] rfl (by kernel_rfl) (by kernel_rfl) (by kernel_rfl)
      (OpenSpec.preRow_of_cond 8 hx (by kernel_rfl) (fun k hk => by cases hk) (by kernel_rfl) (laidWorld_met os _))) ?_
  intro W base args ds gs before hval hW _ _ _ hL _ _
  exact contract H enc W base args ds gs before hval hW hL
theorem said : Rows.FrameForgedSaid :=
  OpenClaim.holds_of_cond 4 Tryd.f4 rfl rfl rfl rfl rfl rfl rfl ⟨rfl, rfl, rfl, rfl, rfl⟩ rfl rfl rfl rfl rfl (by kernel_rfl) Tryd.func4 (by kernel_rfl)
    (of_decide_eq_true (by kernel_rfl)) (by unfold Func.isWrapper; first | (rw [if_pos (by decide +kernel)]; kernel_rfl) | (rw [if_neg (by decide +kernel)]; exact ⟨rfl, rfl⟩))
    (fun os started H enc _ F => by rw [OpenClaim.pre_eq_preRow]; exact lifted os started H enc F)
/-- The card. -/
theorem card : Rows.FrameForgedCardSaid :=
  Claim7.holds_tied_plain_at .later [] _ _ _ _ said (fun _ h => by cases h) (by kernel_rfl) (fun _ h => by cases h) frameForged_row_tie rfl ⟨rfl, rfl⟩ (by kernel_rfl) rfl
    (plain_of (g := 4) (by kernel_rfl) Tryd.func4 (by kernel_rfl) (by kernel_rfl)) (by kernel_rfl)
#print axioms card
end Go.Proofs.YtojffibjjicddaaDoor.frameForged
