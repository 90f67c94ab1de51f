/- frame.Open answers openP, for keys and datagrams up to 2^20 bytes. -/
import Derived.Test.YtojffibjjicddaaDoorFrame2
namespace Go.Proofs.YtojffibjjicddaaDoor
open Go.RowKit
def be8N (b : List UInt8) : Nat := b.foldl (fun s c => s * 256 + c.toNat) 0
theorem be8N_snoc (b : List UInt8) (c : UInt8) : be8N (b ++ [c]) = be8N b * 256 + c.toNat := by simp [be8N]
theorem be8N_lt (b : List UInt8) : be8N b < 256 ^ b.length := by
  have h : ∀ (b : List UInt8) (s : Nat), b.foldl (fun s c => s * 256 + c.toNat) s < (s + 1) * 256 ^ b.length := by
    intro b
    induction b with
    | nil => intro s; simp
    | cons c b ih =>
      intro s
      rw [List.foldl_cons, List.length_cons]
      have h1 := ih (s * 256 + c.toNat)
      have h2 : (s * 256 + c.toNat + 1) * 256 ^ b.length ≤ (s + 1) * 256 * 256 ^ b.length := Nat.mul_le_mul_right _ (by have := c.toNat_lt; omega)
      rw [Nat.pow_succ, Nat.mul_comm (256 ^ b.length) 256, ← Nat.mul_assoc]
      omega
  have := h b 0
  simpa [be8N] using this
theorem join_u64 (a b : Nat) (ha : a < 72057594037927936) (hb : b < 256) : bits .or .u64 ((a : Int) * 256) (b : Int) = ((a * 256 + b : Nat) : Int) := by
  have := bits_join .u64 64 (by decide) (fun n h0 h1 => by rw [IntKind.wrap_u64]; omega) 8 ((a * 256 : Nat) : Int) (b : Int) (by omega) (by exact_mod_cast (by omega : a * 256 % 2 ^ 8 = 0)) (by omega) (by omega) (by omega) (by omega)
  rw [show ((a : Int) * 256) = ((a * 256 : Nat) : Int) by omega, this]; simp
/-- What a datagram says: a number and a body, or the error. -/
def openP (key : List UInt8) (dir : Int) (b : List UInt8) : Except Int (Nat × List UInt8) :=
  if b.length < 26 then .error 2
  else if 512 < b.length then .error 6
  else if tag key (b.take (b.length - 16)) ≠ b.drop (b.length - 16) then .error 11
  else if b.getD 0 0 ≠ 1 ∨ ((b.getD 1 0).toNat : Int) ≠ dir then .error 13
  else if be8N ((b.drop 2).take 8) < 1 ∨ 4611686018427387904 < be8N ((b.drop 2).take 8) ∨ sidedP dir = false then .error 1
  else .ok (be8N ((b.drop 2).take 8), (b.take (b.length - 16)).drop 10)
def OpenAns (e : Ending) (w w' : World) (key : List UInt8) (dir : Int) (b : List UInt8) : Prop :=
  match openP key dir b with
  | .error n => e = .returned (.tuple #[.agg #[.int .i64 0, .int .i64 0, .slice none 0 0], errV n])
  | .ok (s, body) => ∃ r, e = .returned (.tuple #[.agg #[.int .i64 dir, .int .i64 (s : Int), r], .nilIface]) ∧ Own w' w.heap.size 5 1 r body.length (bcells body)
theorem RdB.part {w : World} {g o : Nat} {b : List UInt8} (h : ∀ j, j < b.length → w.cell? ⟨g, o + j, none⟩ = some (.int .u8 ((b.getD j 0).toNat : Int))) (k m c : Nat) (hk : k + m ≤ b.length) :
    RdB w (.slice (some ⟨g, o + k, none⟩) m c) ((b.drop k).take m) := by
  have hl : ((b.drop k).take m).length = m := by rw [List.length_take, List.length_drop]; omega
  refine ⟨_, c, by rw [hl], fun _ => ⟨g, o + k, rfl, fun j hj => ?_⟩⟩
  rw [hl] at hj
  have h1 := h (k + j) (by omega)
  rw [Nat.add_assoc, h1, List.getD_eq_getElem?_getD, List.getD_eq_getElem?_getD, List.getElem?_take, if_pos hj, List.getElem?_drop]
theorem be8N_step (b : List UInt8) (m : Nat) (hm : m < b.length) : be8N (b.take (m + 1)) = be8N (b.take m) * 256 + (b.getD m 0).toNat := by
  rw [List.take_succ_eq_append_getElem hm, be8N_snoc]
  simp [hm]
/-- Each way's answer. -/
theorem openAns_tag {e : Ending} {w w' : World} {key b : List UInt8} {dir : Int} (h1 : ¬ b.length < 26) (h2 : ¬ 512 < b.length) (h3 : tag key (b.take (b.length - 16)) ≠ b.drop (b.length - 16))
    (he : e = .returned (.tuple #[.agg #[.int .i64 0, .int .i64 0, .slice none 0 0], errV 11])) : OpenAns e w w' key dir b := by
  unfold OpenAns openP; rw [if_neg h1, if_neg h2, if_pos h3]; exact he
theorem openAns_side {e : Ending} {w w' : World} {key b : List UInt8} {dir : Int} (h1 : ¬ b.length < 26) (h2 : ¬ 512 < b.length) (h3 : tag key (b.take (b.length - 16)) = b.drop (b.length - 16))
    (h4 : b.getD 0 0 ≠ 1 ∨ ((b.getD 1 0).toNat : Int) ≠ dir)
    (he : e = .returned (.tuple #[.agg #[.int .i64 0, .int .i64 0, .slice none 0 0], errV 13])) : OpenAns e w w' key dir b := by
  unfold OpenAns openP; rw [if_neg h1, if_neg h2, if_neg (fun h => h h3), if_pos h4]; exact he
theorem openAns_arg {e : Ending} {w w' : World} {key b : List UInt8} {dir : Int} (h1 : ¬ b.length < 26) (h2 : ¬ 512 < b.length) (h3 : tag key (b.take (b.length - 16)) = b.drop (b.length - 16))
    (h4 : ¬ (b.getD 0 0 ≠ 1 ∨ ((b.getD 1 0).toNat : Int) ≠ dir)) (h5 : be8N ((b.drop 2).take 8) < 1 ∨ 4611686018427387904 < be8N ((b.drop 2).take 8) ∨ sidedP dir = false)
    (he : e = .returned (.tuple #[.agg #[.int .i64 0, .int .i64 0, .slice none 0 0], errV 1])) : OpenAns e w w' key dir b := by
  unfold OpenAns openP; rw [if_neg h1, if_neg h2, if_neg (fun h => h h3), if_neg h4, if_pos h5]; exact he
theorem openAns_ok {e : Ending} {w w' : World} {key b : List UInt8} {dir : Int} (h1 : ¬ b.length < 26) (h2 : ¬ 512 < b.length) (h3 : tag key (b.take (b.length - 16)) = b.drop (b.length - 16))
    (h4 : ¬ (b.getD 0 0 ≠ 1 ∨ ((b.getD 1 0).toNat : Int) ≠ dir)) (h5 : ¬ (be8N ((b.drop 2).take 8) < 1 ∨ 4611686018427387904 < be8N ((b.drop 2).take 8) ∨ sidedP dir = false))
    (he : ∃ r, e = .returned (.tuple #[.agg #[.int .i64 dir, .int .i64 (be8N ((b.drop 2).take 8) : Int), r], .nilIface]) ∧ Own w' w.heap.size 5 1 r ((b.take (b.length - 16)).drop 10).length (bcells ((b.take (b.length - 16)).drop 10))) : OpenAns e w w' key dir b := by
  unfold OpenAns openP; rw [if_neg h1, if_neg h2, if_neg (fun h => h h3), if_neg h4, if_neg h5]; exact he
/-- Two results: a struct in its cells, and a value. -/
theorem results_ct {P : Program} {fn : Func} {p u : Tmp} {ty : TypeId} (h : fn.results = #[.cell p ty, .tmp u]) (tmps : Array Value) (w : World) (g : Nat) (t : TypeId) (cs : Array Value) (fr : Nat × Nat) (d : TypeDesc)
    (hp : tmps.getD p undef = .pointer (some ⟨g, 0, none⟩)) (hg : w.heap[g]? = some (.cells cs t fr))
    (hu : P.underlying ty = some d) (hd : (match d with | .struct _ | .array _ _ => true | _ => false) = true) (hi : (P.info? ty).map (·.size) = some cs.size) :
    (results fn tmps).run P w = .ok (.tuple #[.agg cs, tmps.getD u undef]) w := by
  have hp' : tmps[p]?.getD undef = .pointer (some ⟨g, 0, none⟩) := by simpa using hp
  simp [results, h, hp', asAddr, run_loadVar_row w g t ty cs fr d hg hu hd hi]
set_option maxRecDepth 100000 in
set_option maxHeartbeats 2000000 in
theorem open_any (w : World) (kv : Value) (key : List UInt8) (hk : RdB w kv key) (hkb : ∀ b, blockOf kv = some b → b < w.heap.size) (hkl : key.length ≤ 1048576)
    (dir : Int) (bv : Value) (b : List UInt8) (hb : RdB w bv b) (hbb : ∀ k, blockOf bv = some k → k < w.heap.size) (hbl : b.length ≤ 1048576) (hbc : ∀ A m c, bv = .slice A m c → m ≤ c ∧ c ≤ 9223372036854775807) :
    Calls Tryd.prog 12 #[kv, .int .i64 dir, bv] w fun e w' => OpenAns e w w' key dir b ∧ Below w.heap.size w w' := by
  obtain ⟨A, c, rfl, hb0⟩ := hb
  have HK := veil hk
  have HKB := veil hkb
  have HKL := veil hkl
  have HBB := veil hbb
  have HB := veil (show RdB w (.slice A b.length c) b from ⟨A, c, rfl, hb0⟩)
  generalize hn : b.length = n at HB HBB hbl
  have HN := veil hn
  have hcap := hbc _ _ _ rfl
  rw [hn] at hcap
  obtain ⟨hcap1, hcap2⟩ := hcap
  clear hn
  clear hk hkb hkl hbb hb0 hbc
  go_enter Tryd.func12, Tryd.ntmps12
  go_upto_block 0 with (fail)
  by_cases h26 : n < 26
  · go_wp2
    exact bodyPost_ret (results_ct rfl _ _ _ _ _ _ _ rfl (Row.newAt (w := w) 24 [.int .i64 0, .int .i64 0, .slice none 0 0] rfl) Tryd.underlying24 rfl (by kernel_rfl)) rfl ⟨by unfold OpenAns openP; rw [HN.out, if_pos h26]; rfl, (Below.refl _ _).alloc (Nat.le_refl _) _⟩
  · by_cases h512 : 512 < n
    · go_wp2
      exact bodyPost_ret (results_ct rfl _ _ _ _ _ _ _ rfl (Row.newAt (w := w) 24 [.int .i64 0, .int .i64 0, .slice none 0 0] rfl) Tryd.underlying24 rfl (by kernel_rfl)) rfl ⟨by unfold OpenAns openP; rw [HN.out, if_neg h26, if_pos h512]; rfl, (Below.refl _ _).alloc (Nat.le_refl _) _⟩
    · obtain ⟨n16, hn16, hn16'⟩ : ∃ m : Nat, n = m + 16 ∧ 10 ≤ m := ⟨n - 16, by omega, by omega⟩
      subst hn16
      obtain ⟨A', c', he, hb1⟩ := HB.out
      injection he with he1 he2 he3
      subst he1 he3
      obtain ⟨g, o, rfl, hcell⟩ := hb1 (by rw [HN.out]; omega)
      have HC := veil hcell
      clear hcell hb1 he2
      generalize hW1 : w.alloc _ = w1
      have R1 := veil (show Row w1 w.heap.size 24 [.int .i64 0, .int .i64 0, .slice none 0 0] by rw [← hW1]; exact Row.newAt _ _ rfl)
      have B1 := veil (show Below w.heap.size w w1 by rw [← hW1]; exact (Below.refl _ _).alloc (Nat.le_refl _) _)
      have hw1 : w1.heap.size = w.heap.size + 1 := by rw [← hW1]; simp
      clear hW1
      go_upto_region 5 with (fail)
      go_quiet (fail)
      have hg : g < w.heap.size := HBB.out g rfl
      have RT := veil (show RdB w (.slice (some ⟨g, o, none⟩) n16 c) (b.take n16) from RdB.part HC.out 0 n16 c (by rw [HN.out]; omega))
      have RO := veil (show RdB w (.slice (some ⟨g, o + n16, none⟩) 16 (c - n16)) (b.drop n16) from by
        have h1 := RdB.part HC.out n16 16 (c - n16) (by rw [HN.out]; exact Nat.le_refl _)
        rw [List.take_of_length_le (by rw [List.length_drop, HN.out]; omega)] at h1
        exact h1)
      have R2 := veil (R1.out.drewN nq)
      have B2 := veil (below_drewN B1.out nq)
      have hw2 : (w1.drewN nq).heap.size = w.heap.size + 1 := hw1
      generalize hww : w1.drewN nq = w2 at R2 B2 hw2 ⊢
      clear R1 B1 hw1 hww
      have HW2 := veil hw2
      clear hw2
      go_upto_region 7 with (first
        | (go_at_call 25
           go_must (
            refine (tag_any _ kv key ((HK.out.below B2.out).below ((Below.refl _ _).alloc (Nat.le_refl _) _)) (fun b hb => by have := HKB.out b hb; have := HW2.out; simp; omega) HKL.out w2.heap.size 0 1 (.slice (some ⟨g, o, none⟩) n16 c) (b.take n16) ((Row.newAt (w := w2) 22 [.slice (some ⟨g, o, none⟩) n16 c] rfl).cell1) ((RT.out.below B2.out).below ((Below.refl _ _).alloc (Nat.le_refl _) _)) (fun b hb => by have := (Option.some.inj hb : g = b); have := HW2.out; simp; omega) (by rw [List.length_take]; omega)).mono ?_
            rintro e w8 ⟨rfl, hb8⟩
            have B8 := veil (below_step B2.out B2.out.size (((Below.refl w2.heap.size w2).alloc (Nat.le_refl _) (.cells #[.slice (some ⟨g, o, none⟩) n16 c] 22)).trans (hb8.mono (by simp))))
            have R8 := veil (R2.out.below (((Below.refl w2.heap.size w2).alloc (Nat.le_refl _) (.cells #[.slice (some ⟨g, o, none⟩) n16 c] 22)).trans (hb8.mono (by simp))))
            have b8 := R8.out.lt
            clear hb8
            have htl := veil (show (tag key (b.take n16)).length = 16 from tag_length _ _)
            generalize htg : tag key (b.take n16) = tg at htl
            have HTG := veil htg
            have h1t := veil (bcells_one tg)
            have hbt := veil (show (bcells tg).length = 16 by rw [bcells_length, htl.out])
            clear htg))
        | (with_reducible apply wpL_store (vs := bcells tg)
           go_must (
            · rfl
            · rfl
            · exact Row.newAt (w := w8) 62 (List.replicate 16 (.int .u8 0)) rfl
            · rw [hbt.out]; decide
            · exact h1t.out
            · rw [hbt.out]; kernel_rfl
            intro w9 hr9 ho9)))
      have h9 := veil (hr9.whole (n := 16) rfl hbt.out)
      have R9 := veil (ho9.row (R8.out.alloc _) (by omega))
      have B9 := veil (show Below w.heap.size w w9 from (((But.of_below (S := fun _ => False) B8.out).alloc _).only ho9 (.inr (by omega))).below (fun _ _ hf => hf))
      have RT9 := veil (show RdB w9 (.slice (some ⟨w8.heap.size, 0, none⟩) 16 16) tg from by
        have h7 := Own.made (n := 16) (cap := 16) (sz := 1) h9.out (Nat.le_refl _) (by rw [hbt.out]) (by omega) 0 (Nat.zero_le _)
        rw [List.take_of_length_le (by rw [hbt.out]; decide)] at h7
        exact h7.rdB.1)
      have RO9 := veil (RO.out.below B9.out)
      have C9 := veil (show ∀ j, j < n16 + 16 → w9.cell? ⟨g, o + j, none⟩ = some (.int .u8 ((b.getD j 0).toNat : Int)) from fun j hj => (B9.out.cell (p := ⟨g, o + j, none⟩) hg).trans (HC.out j (by rw [HN.out]; omega)))
      have N26 := veil (show ¬ b.length < 26 by rw [HN.out]; exact h26)
      have N512 := veil (show ¬ 512 < b.length by rw [HN.out]; exact h512)
      have E16 := veil (show b.length - 16 = n16 by rw [HN.out]; omega)
      have HRC := veil (RdB.part HC.out 10 (n16 - 10) (c - 10) (by rw [HN.out]; omega))
      clear hr9 ho9 R2 R8 B2 B8 h9 h1t hbt
      by_cases htag : tg = b.drop n16
      · have HEQ := equal_any w9 _ _ tg (b.drop n16) RT9.out RO9.out (by rw [htl.out]; omega) (by rw [List.length_drop, HN.out]; omega)
        rw [decide_eq_true htag] at HEQ
        have HT := veil (show tag key (b.take (b.length - 16)) = b.drop (b.length - 16) by rw [E16.out, HTG.out]; exact htag)
        have HEQ := veil HEQ
        clear htag
        go_upto_region 9 with (first
          | (go_at_call 26
             go_must (
              refine HEQ.out.mono ?_
              rintro e w9 ⟨rfl, rfl⟩)))
        have c0 := C9.out 0 (by omega)
        rw [Nat.add_zero] at c0
        have c1 := C9.out 1 (by omega)
        generalize hx0 : b.getD 0 0 = x0 at c0
        generalize hx1 : b.getD 1 0 = x1 at c1
        have HX0 := veil hx0
        have HX1 := veil hx1
        clear hx0 hx1
        have lx1 := x1.toNat_lt
        by_cases h0 : x0 = 1
        · subst h0
          by_cases h1 : (x1.toNat : Int) = dir
          · subst h1
            have HSD := veil (show ¬ (b.getD 0 0 ≠ 1 ∨ ((b.getD 1 0).toNat : Int) ≠ (x1.toNat : Int)) by rw [HX0.out, HX1.out]; simp)
            have HST := veil (show ∀ m, m < 8 → be8N (((b.drop 2).take 8).take (m + 1)) = be8N (((b.drop 2).take 8).take m) * 256 + (b.getD (2 + m) 0).toNat ∧ be8N (((b.drop 2).take 8).take m) < 72057594037927936 from fun m hm => by
              have hl : ((b.drop 2).take 8).length = 8 := by rw [List.length_take, List.length_drop, HN.out]; omega
              refine ⟨?_, ?_⟩
              · rw [be8N_step _ m (by omega)]
                congr 2
                rw [List.getD_eq_getElem?_getD, List.getD_eq_getElem?_getD, List.getElem?_take, if_pos hm, List.getElem?_drop]
              · have h7 := be8N_lt (((b.drop 2).take 8).take m)
                have h8 : (((b.drop 2).take 8).take m).length ≤ 7 := by rw [List.length_take]; omega
                exact Nat.lt_of_lt_of_le h7 (Nat.pow_le_pow_right (by decide) h8))
            have H88 := veil (show ((b.drop 2).take 8).take 8 = (b.drop 2).take 8 from List.take_of_length_le (by rw [List.length_take]; omega))
            go_wp2
            have HI := veil (show x1.toNat < 256 from lx1)
            clear c0 c1
            go_loopw [11, 63] (fun s i wr => ∃ (m : Nat), m ≤ 8 ∧ i = .int .i64 m ∧ s = .int .u64 (be8N (((b.drop 2).take 8).take m) : Int) ∧ wr = w9) (fun _ i _ => 8 - (intOf i).toNat)
            case atStart => exact ⟨0, by omega, rfl, rfl, rfl⟩
            case round =>
              obtain ⟨m, hm, rfl, rfl, rfl⟩ := hrel
              by_cases hm8 : m < 8
              · have cm := C9.out (2 + m) (by omega)
                rw [← Nat.add_assoc] at cm
                have HS := veil (HST.out m hm8)
                generalize hq : be8N (((b.drop 2).take 8).take m) = q at HS ⊢
                generalize b.getD (2 + m) 0 = y at cm HS
                have ly := y.toNat_lt
                have lq := HS.out.2
                clear hq
                go_wp2
                go_roundw
                case rel =>
                  refine ⟨m + 1, by omega, by go_num, ?_, (by first | rfl | trivial)⟩
                  rw [HS.out.1, ← join_u64 q y.toNat lq ly]
                case measure => simp [intOf]; omega
              · obtain rfl : m = 8 := by omega
                rw [H88.out]
                generalize hq : be8N ((b.drop 2).take 8) = q
                have HQ := veil hq
                clear hq
                by_cases hq1 : q < 1
                · have HBAD := veil (show be8N ((b.drop 2).take 8) < 1 ∨ 4611686018427387904 < be8N ((b.drop 2).take 8) ∨ sidedP (x1.toNat : Int) = false by rw [HQ.out]; exact .inl hq1)
                  go_wp2_with (first
                    | (with_reducible apply wpL_store (vs := [.int .i64 0, .int .i64 0, .slice none 0 0])
                       go_must (
                        · rfl
                        · rfl
                        · exact R9.out
                        · decide
                        · (simp [Value.oneCell'])
                        · kernel_rfl
                        intro w10 hr10 ho10)))
                  exact bodyPost_ret (results_ct rfl _ _ _ _ _ _ _ rfl (hr10.whole (n := 3) rfl rfl) Tryd.underlying24 rfl (by kernel_rfl)) rfl ⟨openAns_arg N26.out N512.out HT.out HSD.out HBAD.out rfl, ((But.of_below (S := fun _ => False) B9.out).only ho10 (.inr (Nat.le_refl _))).below (fun _ _ hf => hf)⟩
                · by_cases hq2 : 4611686018427387904 < q
                  · have HBAD := veil (show be8N ((b.drop 2).take 8) < 1 ∨ 4611686018427387904 < be8N ((b.drop 2).take 8) ∨ sidedP (x1.toNat : Int) = false by rw [HQ.out]; exact .inr (.inl hq2))
                    go_wp2_with (first
                      | (with_reducible apply wpL_store (vs := [.int .i64 0, .int .i64 0, .slice none 0 0])
                         go_must (
                          · rfl
                          · rfl
                          · exact R9.out
                          · decide
                          · (simp [Value.oneCell'])
                          · kernel_rfl
                          intro w10 hr10 ho10)))
                    exact bodyPost_ret (results_ct rfl _ _ _ _ _ _ _ rfl (hr10.whole (n := 3) rfl rfl) Tryd.underlying24 rfl (by kernel_rfl)) rfl ⟨openAns_arg N26.out N512.out HT.out HSD.out HBAD.out rfl, ((But.of_below (S := fun _ => False) B9.out).only ho10 (.inr (Nat.le_refl _))).below (fun _ _ hf => hf)⟩
                  · cases hsd : sidedP (x1.toNat : Int)
                    · have HBAD := veil (show be8N ((b.drop 2).take 8) < 1 ∨ 4611686018427387904 < be8N ((b.drop 2).take 8) ∨ sidedP (x1.toNat : Int) = false from .inr (.inr hsd))
                      go_wp2_with (first
                        | (go_at_call 23
                           go_must (
                            refine (sided_any _ _).mono ?_
                            rintro e w9 ⟨rfl, rfl⟩))
                        | (with_reducible apply wpL_store (vs := [.int .i64 0, .int .i64 0, .slice none 0 0])
                           go_must (
                            · rfl
                            · rfl
                            · exact R9.out
                            · decide
                            · (simp [Value.oneCell'])
                            · kernel_rfl
                            intro w10 hr10 ho10)))
                      exact bodyPost_ret (results_ct rfl _ _ _ _ _ _ _ rfl (hr10.whole (n := 3) rfl rfl) Tryd.underlying24 rfl (by kernel_rfl)) rfl ⟨openAns_arg N26.out N512.out HT.out HSD.out HBAD.out rfl, ((But.of_below (S := fun _ => False) B9.out).only ho10 (.inr (Nat.le_refl _))).below (fun _ _ hf => hf)⟩
                    · have HGOOD := veil (show ¬ (be8N ((b.drop 2).take 8) < 1 ∨ 4611686018427387904 < be8N ((b.drop 2).take 8) ∨ sidedP (x1.toNat : Int) = false) by rw [HQ.out, hsd]; simp; omega)
                      have HBT := veil (show (b.drop 10).take (n16 - 10) = (b.take (b.length - 16)).drop 10 by rw [E16.out, List.drop_take])
                      have HBL := veil (show ((b.drop 10).take (n16 - 10)).length = n16 - 10 by rw [List.length_take, List.length_drop, HN.out]; omega)
                      go_wp2_with (first
                        | (go_at_call 23
                           go_must (
                            refine (sided_any _ _).mono ?_
                            rintro e w9 ⟨rfl, rfl⟩))
                        | (go_at_call 27
                           go_must (
                            have HCL := cloneb_any w9 g (o + 10) (c - 10) ((b.drop 10).take (n16 - 10)) (by rw [HBL.out]; exact HRC.out.below B9.out) (by rw [HBL.out]; omega)
                            rw [HBL.out] at HCL
                            refine HCL.mono ?_
                            rintro e w10 ⟨r, rfl, ho10, hb10⟩
                            obtain ⟨A7, c7, rfl⟩ := ho10.slice
                            have O10 := veil ho10
                            have R10 := veil (R9.out.below hb10)
                            have B10 := veil (below_step B9.out B9.out.size hb10)
                            clear ho10 hb10))
                        | (with_reducible apply wpL_store (cs := [.int .i64 0, .int .i64 0, .slice none 0 0])
                           go_must (
                            · rfl
                            · rfl
                            · exact R10.out
                            · exact Nat.le_refl 3
                            · (simp [Value.oneCell'])
                            · kernel_rfl
                            intro w11 hr11 ho11)))
                      have b9 := R9.out.lt
                      exact bodyPost_ret (results_ct rfl _ _ _ _ _ _ _ rfl (hr11.whole (n := 3) rfl rfl) Tryd.underlying24 rfl (by kernel_rfl)) rfl ⟨openAns_ok N26.out N512.out HT.out HSD.out HGOOD.out ⟨.slice A7 (n16 - 10) c7, by rw [HQ.out]; rfl, by
                        rw [← HBT.out, HBL.out]
                        exact ((O10.out.mono B9.out.size).keep ((But.refl (fun i => i = w.heap.size) _).only ho11 (.inl rfl)) (fun b hb e => by have := (O10.out.lt b hb).1; omega))⟩, ((But.of_below (S := fun _ => False) B10.out).only ho11 (.inr (Nat.le_refl _))).below (fun _ _ hf => hf)⟩
          · have HSD := veil (show b.getD 0 0 ≠ 1 ∨ ((b.getD 1 0).toNat : Int) ≠ dir by rw [HX1.out]; exact .inr h1)
            have e1 : ((x1.toNat : Int) != dir) = true := by simpa using h1
            go_wp2_with (first
              | (with_reducible apply wpL_store (vs := [.int .i64 0, .int .i64 0, .slice none 0 0])
                 go_must (
                  · rfl
                  · rfl
                  · exact R9.out
                  · decide
                  · (simp [Value.oneCell'])
                  · kernel_rfl
                  intro w10 hr10 ho10)))
            exact bodyPost_ret (results_ct rfl _ _ _ _ _ _ _ rfl (hr10.whole (n := 3) rfl rfl) Tryd.underlying24 rfl (by kernel_rfl)) rfl ⟨openAns_side N26.out N512.out HT.out HSD.out rfl, ((But.of_below (S := fun _ => False) B9.out).only ho10 (.inr (Nat.le_refl _))).below (fun _ _ hf => hf)⟩
        · have HSD := veil (show b.getD 0 0 ≠ 1 ∨ ((b.getD 1 0).toNat : Int) ≠ dir by rw [HX0.out]; exact .inl h0)
          have e0 : ((x0.toNat : Int) != 1) = true := by
            have h7 : x0.toNat ≠ 1 := fun e => h0 (UInt8.toNat_inj.1 (by rw [e]; rfl))
            simp; omega
          go_wp2_with (first
            | (with_reducible apply wpL_store (vs := [.int .i64 0, .int .i64 0, .slice none 0 0])
               go_must (
                · rfl
                · rfl
                · exact R9.out
                · decide
                · (simp [Value.oneCell'])
                · kernel_rfl
                intro w10 hr10 ho10)))
          exact bodyPost_ret (results_ct rfl _ _ _ _ _ _ _ rfl (hr10.whole (n := 3) rfl rfl) Tryd.underlying24 rfl (by kernel_rfl)) rfl ⟨openAns_side N26.out N512.out HT.out HSD.out rfl, ((But.of_below (S := fun _ => False) B9.out).only ho10 (.inr (Nat.le_refl _))).below (fun _ _ hf => hf)⟩
      · have HEQ := equal_any w9 _ _ tg (b.drop n16) RT9.out RO9.out (by rw [htl.out]; omega) (by rw [List.length_drop, HN.out]; omega)
        rw [decide_eq_false htag] at HEQ
        have HNT := veil (show tag key (b.take (b.length - 16)) ≠ b.drop (b.length - 16) by rw [E16.out, HTG.out]; exact htag)
        have HEQ := veil HEQ
        clear htag
        go_wp2_with (first
          | (go_at_call 26
             go_must (
              refine HEQ.out.mono ?_
              rintro e w9 ⟨rfl, rfl⟩))
          | (with_reducible apply wpL_store (vs := [.int .i64 0, .int .i64 0, .slice none 0 0])
             go_must (
              · rfl
              · rfl
              · exact R9.out
              · decide
              · (simp [Value.oneCell'])
              · kernel_rfl
              intro w10 hr10 ho10)))
        exact bodyPost_ret (results_ct rfl _ _ _ _ _ _ _ rfl (hr10.whole (n := 3) rfl rfl) Tryd.underlying24 rfl (by kernel_rfl)) rfl ⟨openAns_tag N26.out N512.out HNT.out rfl, ((But.of_below (S := fun _ => False) B9.out).only ho10 (.inr (Nat.le_refl _))).below (fun _ _ hf => hf)⟩
end Go.Proofs.YtojffibjjicddaaDoor
