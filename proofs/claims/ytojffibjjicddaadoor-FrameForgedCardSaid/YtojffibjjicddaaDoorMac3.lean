/- slices.Insert ahead of one part. -/
import Derived.Test.YtojffibjjicddaaDoorMac2
namespace Go.Proofs.YtojffibjjicddaaDoor
open Go.RowKit
theorem Row.shape {w : World} {B : Nat} {T : TypeId} {cs : List Value} (h : Row w B T cs) : w.shape? B = some (T, cs.length) := by
  unfold World.shape?; rw [h]; simp
theorem zeroCells_one (z : Value) (n : Nat) : (Builtin.zeroCells #[z] n).toList = List.replicate n z := by
  apply List.ext_getElem?
  intro i
  simp only [Builtin.zeroCells, Array.toList_map, Array.toList_range, List.getElem?_map, List.getElem?_replicate]
  by_cases h : i < n
  · simp [h, Nat.mod_one]
  · simp [h]
/-- append(s[:0], make([]T, k)...), where s has no room for k. -/
theorem run_appendz {P : Program} (w : World) (t tn ty E : TypeId) (i : TypeInfo) (z : Value) (kn : IntKind) (bytes k c g off : Nat) (ht : P.underlying t = some (.slice E)) (htn : P.underlying tn = some (.int kn)) (hi : P.info? E = some i) (hz : i.zero = some z)
    (hsize : i.size = 1) (hby : i.bytes = bytes) (hzc : z.cells = #[z]) (h0 : 0 < k) (hc : c < k) (hk : k ≤ 1048576) (hb : bytes ≤ 1048576) :
    ∃ cap w', (Builtin.append_ #[t, tn] ty #[.slice (some ⟨g, off, none⟩) 0 c, .int .i64 (k : Int)]).run P w = .ok (.slice (some ⟨w.heap.size, 0, none⟩) k cap) w' ∧ k ≤ cap ∧ cap ≤ maxLen ∧ Row w' w.heap.size E (List.replicate cap z) ∧ But (fun _ => False) w w' := by
  subst hby
  have hkb : k * i.bytes ≤ 1048576 * 1048576 := Nat.mul_le_mul hk hb
  have h1 := Lib.run_append_grow_zeros w t tn ty E i z .i64 kn ht htn hi hz (some ⟨g, off, none⟩) 0 c [] (run_firstCells_some w.drew i.size 0 ⟨g, off, none⟩ 0 c [] (by simp) (by simp)) k h0 (by omega) (by omega) (by omega) (by omega) (growslice_fits (by omega) (by rw [Nat.zero_add]; omega))
  have hge := grownCap_ge w (0 + k) c E
  have hcm : grownCap w (0 + k) c E ≤ maxLen := grownCap_le_maxLen w (0 + k) c E (by rw [maxLen_eq]; omega)
  rw [Nat.zero_add] at h1 hge hcm
  refine ⟨_, _, h1, hge, hcm, ?_, ⟨rfl, rfl, rfl, by simp, fun j hj _ => Below.heap_alloc w.drew _ j hj⟩⟩
  have h2 := Row.new' w.drew E (List.toArray [] ++ Builtin.zeroCells z.cells k ++ Builtin.zeroCells z.cells (grownCap w k c E - k))
  have h3 : (List.toArray [] ++ Builtin.zeroCells z.cells k ++ Builtin.zeroCells z.cells (grownCap w k c E - k)).toList = List.replicate (grownCap w k c E) z := by
    rw [hzc]
    simp only [Array.toList_append, zeroCells_one, List.nil_append, List.replicate_append_replicate]
    congr 1; omega
  rw [h3] at h2
  exact h2
theorem wpL_appendz {P : Program} {ops : Array Oper} {rest : List Oper} {dst : Option Tmp} {s x : Operand} {t tn tt : TypeId} {pos : String} {af : Array Edge} {a : Act} {w : World} {Q : Exit → Act → World → Prop}
    {E : TypeId} {i : TypeInfo} {z : Value} {kn : IntKind} {K : Int} {bytes k c g off : Nat} (hv : a.eval s = .slice (some ⟨g, off, none⟩) 0 c) (hx : a.eval x = .int .i64 K) (hK : K = (k : Int)) (ht : P.underlying t = some (.slice E)) (htn : P.underlying tn = some (.int kn)) (hi : P.info? E = some i) (hz : i.zero = some z)
    (hsize : i.size = 1) (hby : i.bytes = bytes) (hzc : z.cells = #[z]) (h0 : 0 < k) (hc : c < k) (hk : k ≤ 1048576) (hb : bytes ≤ 1048576)
    (h : ∀ cap w', k ≤ cap → cap ≤ maxLen → Row w' w.heap.size E (List.replicate cap z) → But (fun _ => False) w w' → wpList P ops Q rest (a.put dst (.slice (some ⟨w.heap.size, 0, none⟩) k cap)) w') :
    wpList P ops Q (⟨dst, .call { callee := .builtin .append, args := #[s, x], argTypes := #[t, tn] }, tt, pos, af, none⟩ :: rest) a w :=
  wpList_plain rfl fun _ hK' => by
    subst hK
    obtain ⟨cap, w', hr, h1, h2, h3, h4⟩ := run_appendz (P := P) w t tn tt E i z kn bytes k c g off ht htn hi hz hsize hby hzc h0 hc hk hb
    unfold Oper.wp execOp
    simp only [resolve, invoke, builtin, Sem.run_bind, Sem.run_pure, Result.andThen_ok, List.map_toArray, List.map_cons, List.map_nil, hv, hx, hr]
    exact hK' _ _ (h cap w' h1 h2 h3 h4)
/-- copy; as much goes over as both have: k elements. -/
theorem wpL_copyk {P : Program} {ops : Array Oper} {rest : List Oper} {dst : Option Tmp} {d s : Operand} {t tx tt : TypeId} {pos : String} {af : Array Edge} {a : Act} {w : World} {Q : Exit → Act → World → Prop}
    {E T : TypeId} {g o dLen dCap m c g' off k : Nat} {cur news : List Value}
    (hd : a.eval d = .slice (some ⟨g, o, none⟩) dLen dCap) (hx : a.eval s = .slice (some ⟨g', off, none⟩) m c) (hu : P.underlying t = some (.slice E)) (hs : (P.info? E).map (·.size) = some 1) (hr : Row w g T cur) (hk : k = Nat.min m dLen) (hfit : o + k ≤ cur.length) (hl : news.length = k)
    (hsrc : ∀ j v, news[j]? = some v → w.cell? ⟨g', off + j, none⟩ = some v) (h1 : ∀ v ∈ news, v.oneCell' = true)
    (h : ∀ w', Row w' g T (cur.take o ++ news ++ cur.drop (o + k)) → Only g w w' → wpList P ops Q rest (a.put dst (goInt k)) w') :
    wpList P ops Q (⟨dst, .call { callee := .builtin .copy, args := #[d, s], argTypes := #[t, tx] }, tt, pos, af, none⟩ :: rest) a w :=
  wpList_plain rfl fun _ hK => by
    have hset := setCells_row (w := w) (B := g) (T := T) o news 0 w cur hr (by omega)
    simp only [Nat.add_zero] at hset
    have h2 := run_copy_cells (P := P) w t tx tt E g o dLen dCap ⟨g', off, none⟩ m c news hu hs (by rw [hl, hk]) (fun j v hj => by
      have hadd : (⟨g', off, none⟩ : Addr).add j = ⟨g', off + j, none⟩ := by unfold Addr.add; split <;> simp_all
      rw [hadd]; exact hsrc j v hj) (fun j hj => by rw [hr.cell (List.getElem?_eq_getElem (by omega))]; rfl) (fun j _ => hr.frozen _) h1
    rw [hl] at h2
    have h3 := hset.1
    rw [hl] at h3
    unfold Oper.wp execOp
    simp only [resolve, invoke, builtin, Sem.run_bind, Sem.run_pure, Result.andThen_ok, List.map_toArray, List.map_cons, List.map_nil, hd, hx, h2]
    exact hK _ _ (h _ h3 hset.2)
theorem ins_two (cur : List Value) (off : Nat) (u x : Value) (h : off + 2 ≤ cur.length) :
    (((cur.take (off + 1) ++ [u] ++ cur.drop (off + 1 + 1)).take off ++ [x] ++ (cur.take (off + 1) ++ [u] ++ cur.drop (off + 1 + 1)).drop (off + 1)).drop off).take (2 * 1) = [x, u] ∧
    ((cur.take (off + 1) ++ [u] ++ cur.drop (off + 1 + 1)).take off ++ [x] ++ (cur.take (off + 1) ++ [u] ++ cur.drop (off + 1 + 1)).drop (off + 1)).length = cur.length ∧
    (cur.take (off + 1) ++ [u] ++ cur.drop (off + 1 + 1)).length = cur.length := by
  have hX : (cur.take (off + 1) ++ [u] ++ cur.drop (off + 1 + 1)).length = cur.length := by simp; omega
  refine ⟨?_, ?_, hX⟩
  · have h1 : (cur.take (off + 1) ++ [u] ++ cur.drop (off + 1 + 1)).drop (off + 1) = [u] ++ cur.drop (off + 1 + 1) := by
      rw [List.append_assoc]; exact List.drop_left' (by rw [List.length_take]; omega)
    rw [h1, List.append_assoc, List.drop_left' (by rw [List.length_take, hX]; omega)]
    rfl
  · generalize cur.take (off + 1) ++ [u] ++ cur.drop (off + 1 + 1) = X at hX
    simp; omega
theorem Row.cell1 {w : World} {B : Nat} {T : TypeId} {v : Value} (h : Row w B T [v]) : w.cell? ⟨B, 0, none⟩ = some v := h.cell (i := 0) rfl
theorem one_cell {w : World} {g off : Nat} {v : Value} (h : w.cell? ⟨g, off, none⟩ = some v) : ∀ (j : Nat) (u : Value), [v][j]? = some u → w.cell? ⟨g, off + j, none⟩ = some u := by
  intro j u hj
  rcases j with _ | j
  · obtain rfl : v = u := by simpa using hj
    exact h
  · simp at hj
set_option maxRecDepth 100000 in
set_option maxHeartbeats 1000000 in
theorem insert_any (w : World) (base : Nat) (hb : base ≤ w.heap.size) (g off c : Nat) (u x : Value) (hs : Own w base 22 1 (.slice (some ⟨g, off, none⟩) 1 c) 1 [u]) (vb : Nat) (hv : Row w vb 22 [x]) (hne : vb ≠ g) (h1 : u.oneCell' = true) (h2 : x.oneCell' = true) :
    Calls Tryd.prog 39 #[.slice (some ⟨g, off, none⟩) 1 c, .int .i64 0, .slice (some ⟨vb, 0, none⟩) 1 1] w fun e w' => ∃ r, e = .returned r ∧ Own w' base 22 1 r 2 [x, u] ∧ But (fun k => k = g) w w' := by
  obtain ⟨-, hs0⟩ := hs
  rcases hs0 with ⟨h3, -⟩ | ⟨g', off', c', cur, he, hbg, hrow, hc1, hfit, hcm, htake⟩
  · cases h3
  injection he with he1 he2 he3
  injection he1 with he1
  injection he1 with he4 he5
  subst he4 he5 he3
  have HROW := veil hrow
  have HV := veil hv
  have HT := veil htake
  have hu := hrow.cell (i := off) (v := u) (by
    have h4 : ((cur.drop off).take (1 * 1))[0]? = some u := by rw [htake]; rfl
    rw [List.getElem?_take, if_pos (by decide), List.getElem?_drop] at h4
    exact h4)
  have HU := veil hu
  have HFIT := veil hfit
  have HBG := veil hbg
  have HB := veil hb
  have H1 := veil h1
  have H2 := veil h2
  obtain ⟨i5, hi5, hz5, hs5, hb5⟩ := info_sl
  have I5 := veil (And.intro hi5 (And.intro hz5 (And.intro hs5 hb5)))
  have hgw := hrow.lt
  rw [maxLen_eq] at hcm
  clear hrow hv htake hu hfit hbg h1 h2 hi5 hz5 hs5 hb5 hb
  go_enter Tryd.func39, Tryd.ntmps39
  by_cases hc : c < 2
  · obtain rfl : c = 1 := by omega
    go_upto_region 11 with (first
      | (with_reducible apply wpL_appendz (k := 2)
         go_must (
          · rfl
          · rfl
          · rfl
          · exact Tryd.underlying71
          · exact Tryd.underlying3
          · exact I5.out.1
          · exact I5.out.2.1
          · exact I5.out.2.2.1
          · exact I5.out.2.2.2
          · rfl
          · omega
          · omega
          · omega
          · omega
          intro cap w2 hc2 hcm2 hr2 hb2
          rw [maxLen_eq] at hcm2
          obtain ⟨cp, rfl⟩ : ∃ cp, cap = cp + 2 := ⟨cap - 2, by omega⟩
          have R2 := veil (show Row w2 w.heap.size 22 (.slice none 0 0 :: .slice none 0 0 :: List.replicate cp (.slice none 0 0)) from hr2)
          have B2 := veil hb2
          clear hr2 hb2))
      | (with_reducible apply wpL_copyk (k := 1) (news := [x])
         go_must (
          · rfl
          · rfl
          · exact Tryd.underlying71
          · kernel_rfl
          · exact R2.out
          · rfl
          · simp
          · rfl
          · exact one_cell (B2.out.cell HV.out.cell1 (fun hf => hf))
          · simpa using H2.out
          intro w3 hr3 ho3
          have R3 := veil (show Row w3 w.heap.size 22 (x :: .slice none 0 0 :: List.replicate cp (.slice none 0 0)) from hr3)
          have B3 := veil (B2.out.only ho3 (.inr (Nat.le_refl _)))
          clear hr3 ho3 R2 B2)))
    simp only [Act.put, List.setIfInBounds_toArray, List.set_cons_zero, List.set_cons_succ]
    refine wp_region_qtd 8 mixed (by kernel_rfl) ?_
    simp only [List.take_succ_cons, List.take_zero, List.drop_succ_cons, List.drop_zero]
    repeat (go_big_quiet_step (fail))
    refine wpQuiet_nil ?_
    intro _ hw'
    obtain ⟨nq, hw''⟩ := hw'
    subst hw''
    go_wp2_with (first
      | (with_reducible apply wpL_copyk (k := 1) (news := [u])
         go_must (
          · rfl
          · rfl
          · exact Tryd.underlying71
          · kernel_rfl
          · exact R3.out.drewN _
          · rfl
          · simp
          · rfl
          · exact one_cell (((B3.out.drewN _).cell HU.out (fun hf => hf)))
          · simpa using H1.out
          intro w4 hr4 ho4
          have R4 := veil (show Row w4 w.heap.size 22 (x :: u :: List.replicate cp (.slice none 0 0)) from hr4)
          have B4 := veil ((B3.out.drewN nq).only ho4 (.inr (Nat.le_refl _)))
          clear hr4 ho4 R3 B3)))
    go_ret
    exact ⟨_, rfl, ⟨rfl, .inr ⟨w.heap.size, 0, cp + 2, _, rfl, HB.out, R4.out, by omega, by simp, by rw [maxLen_eq]; omega, rfl⟩⟩, B4.out.mono (fun _ _ hf => hf.elim)⟩
  · obtain ⟨cp, rfl⟩ : ∃ cp, c = cp + 2 := ⟨c - 2, by omega⟩
    have hov : ∀ lb cb, (callFunc 49 #[.slice (some ⟨vb, 0, none⟩) 1 1, .slice (some ⟨g, off + 1, none⟩) lb cb]).run Tryd.prog w = .ok (.value (.bool false)) w := fun lb cb => by
      rw [run_callFunc_extern Tryd.func49 (by kernel_rfl) (by kernel_rfl) (by kernel_rfl) (e := Extern.SlicesOverlaps.overlaps #[71, 71] #[4]) (by kernel_rfl),
        Lib.run_overlaps_apart w 71 4 22 Tryd.underlying71 1 (fun w => by simp [sizeOf, typeInfo, I5.out.1, I5.out.2.2.1]) ⟨vb, 0, none⟩ ⟨g, off + 1, none⟩ 1 1 lb cb hne 22 22 1 cur.length HV.out.shape HROW.out.shape (by have := HFIT.out; omega) (HV.out.frozen 0) (HV.out.frozen 1)]
      rfl
    go_upto_region 15 with (simp only [hov])
    clear hov
    have HL := veil (show off + 2 ≤ cur.length by have := HFIT.out; omega)
    refine wp_region_qtd 8 mixed (by kernel_rfl) ?_
    simp only [List.take_succ_cons, List.take_zero, List.drop_succ_cons, List.drop_zero]
    repeat (go_big_quiet_step (fail))
    refine wpQuiet_nil ?_
    intro _ hw'
    obtain ⟨nq, hw''⟩ := hw'
    subst hw''
    go_upto_region 16 with (first
      | (with_reducible apply wpL_copyk (k := 1) (news := [u])
         go_must (
          · rfl
          · rfl
          · exact Tryd.underlying71
          · kernel_rfl
          · exact HROW.out.drewN _
          · rfl
          · exact HL.out
          · rfl
          · exact one_cell (HU.out)
          · simpa using H1.out
          intro w3 hr3 ho3
          have R3 := veil hr3
          have B3 := veil (((But.refl (fun k => k = g) w).drewN nq).only ho3 (.inl rfl))
          clear hr3 ho3)))
    go_wp2_with (first
      | (with_reducible apply wpL_copyk (k := 1) (news := [x])
         go_must (
          · rfl
          · rfl
          · exact Tryd.underlying71
          · kernel_rfl
          · exact R3.out
          · rfl
          · (have h8 := (ins_two cur off u x HL.out).2.2; have h9 := HL.out; rw [h8]; omega)
          · rfl
          · exact one_cell (B3.out.cell HV.out.cell1 hne)
          · simpa using H2.out
          intro w4 hr4 ho4
          have R4 := veil hr4
          have B4 := veil (B3.out.only ho4 (.inl rfl))
          clear hr4 ho4)))
    go_ret
    exact ⟨_, rfl, ⟨rfl, .inr ⟨g, off, cp + 2, _, rfl, HBG.out, R4.out, by omega, by rw [(ins_two cur off u x HL.out).2.1]; exact HFIT.out, by rw [maxLen_eq]; omega, (ins_two cur off u x HL.out).1⟩⟩, B4.out⟩
end Go.Proofs.YtojffibjjicddaaDoor
