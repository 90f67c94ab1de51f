/- Contract of hash.Sum.End. -/
import Derived.Test.YtojffibjjicddaaDoorHash4
import Derived.Deep.RegionHeld3
namespace Go.Proofs.YtojffibjjicddaaDoor
open Go.RowKit
theorem SumSt.keep {w w' : World} {S : Nat} {h : V8} {rest : List UInt8} {n : Nat} {v : Value} (hs : SumSt w S h rest n v) {Y : Nat → Prop} (hb : But Y w w') (h1 : ¬ Y S) (h2 : ∀ g, blockOf v = some g → ¬ Y g) : SumSt w' S h rest n v :=
  ⟨hb.row hs.row h1, hs.own.keep hb h2, hs.ne⟩
theorem set_byte {w : World} {B : Nat} {T : TypeId} {cs : List Value} (hr : Row w B T cs) (i : Nat) {xi : Int} (x : UInt8) (h : xi = (x.toNat : Int)) (cs' : List Value) (e : cs.set i (.int .u8 (x.toNat : Int)) = cs') : Row (w.setCell ⟨B, i, none⟩ (.int .u8 xi)) B T cs' := by
  subst h; subst e; exact hr.set i _
theorem src_one {P : Program} {tx e' : TypeId} {xi : Int} {x : UInt8} (w : World) (T : TypeId) (hk : P.underlying tx = some (.slice e')) (h : xi = (x.toNat : Int)) :
    Src P 1 tx (.slice (some ⟨w.heap.size, 0, none⟩) 1 1) 1 (bcells [x]) (w.alloc (.cells #[.int .u8 xi] T)) := by
  subst h
  exact RdB.src (RdB.made w T [x] (by simp)) hk
set_option maxRecDepth 100000 in
set_option maxHeartbeats 2000000 in
theorem end_any (w : World) (S : Nat) (h : V8) (hh : h.ok) (rest : List UInt8) (hr : rest.length < 64) (v : Value) (n : Nat) (hn : n < 1152921504606846976) (hrn : rest.length = n % 64) (hs : SumSt w S h rest n v) :
    Calls Tryd.prog 48 #[.pointer (some ⟨S, 0, none⟩)] w fun e w' => e = .returned (.agg (bcells ((absH h (rest ++ tail n)).bytes)).toArray) ∧ Below w.heap.size w w' := by
  obtain ⟨ha, hb, hc, hd, he, hf, hg, hi⟩ := h
  have c0 := hs.row.cell (i := 0) rfl
  have c1 := hs.row.cell (i := 1) rfl
  have c2 := hs.row.cell (i := 2) rfl
  have c3 := hs.row.cell (i := 3) rfl
  have c4 := hs.row.cell (i := 4) rfl
  have c5 := hs.row.cell (i := 5) rfl
  have c6 := hs.row.cell (i := 6) rfl
  have c7 := hs.row.cell (i := 7) rfl
  have c8 := hs.row.cell (i := 8) rfl
  have c9 := hs.row.cell (i := 9) rfl
  simp only at c0 c1 c2 c3 c4 c5 c6 c7
  obtain ⟨A2, k2, rfl⟩ := hs.own.slice
  have RD := veil hs.own.rdB.1
  have HS := veil hs
  have lS := hs.row.lt
  obtain ⟨i5, hi5, hz5, hs5, hb5⟩ := info_u8
  have I5 := veil (And.intro hi5 (And.intro hz5 (And.intro hs5 hb5)))
  generalize hrl : rest.length = rl at c8 RD hr HS hrn
  have HRN := veil hrn
  have HRL := veil hrl
  clear hi5 hz5 hs5 hb5 hs hrl hrn
  go_enter Tryd.func48, Tryd.ntmps48
  go_upto_region 1 with (fail)
  have hR := veil (Row.newAt (w := w) (B := w.heap.size) 72 (List.replicate 32 (.int .u8 0)) rfl)
  have hB1 : Below w.heap.size w (w.alloc (.cells (List.replicate 32 (Value.int .u8 0)).toArray 72)) := (Below.refl _ _).alloc (Nat.le_refl _) _
  have hz1 : (w.alloc (.cells (List.replicate 32 (Value.int .u8 0)).toArray 72)).heap.size = w.heap.size + 1 := by simp
  have RD1 := veil (RD.out.below hB1)
  have e0 := (hB1.cell (p := ⟨S, 0, none⟩) lS).trans c0
  have e1 := (hB1.cell (p := ⟨S, 1, none⟩) lS).trans c1
  have e2 := (hB1.cell (p := ⟨S, 2, none⟩) lS).trans c2
  have e3 := (hB1.cell (p := ⟨S, 3, none⟩) lS).trans c3
  have e4 := (hB1.cell (p := ⟨S, 4, none⟩) lS).trans c4
  have e5 := (hB1.cell (p := ⟨S, 5, none⟩) lS).trans c5
  have e6 := (hB1.cell (p := ⟨S, 6, none⟩) lS).trans c6
  have e7 := (hB1.cell (p := ⟨S, 7, none⟩) lS).trans c7
  have e8 := (hB1.cell (p := ⟨S, 8, none⟩) lS).trans c8
  have e9 := (hB1.cell (p := ⟨S, 9, none⟩) lS).trans c9
  have B1 := veil hB1
  clear c0 c1 c2 c3 c4 c5 c6 c7 c8 c9 hB1
  revert hR B1 hz1 RD1 e0 e1 e2 e3 e4 e5 e6 e7 e8 e9
  generalize hw1 : w.alloc (.cells (List.replicate 32 (Value.int .u8 0)).toArray 72) = w1
  intro hR hz1 RD1 e0 e1 e2 e3 e4 e5 e6 e7 e8 e9 B1
  change (Code.region 1 _ true).wp _ _ _ (w.alloc (.cells (List.replicate 32 (Value.int .u8 0)).toArray 72))
  rw [hw1]
  clear hw1
  go_region_held3 (fun w' => w'.cell? ⟨S, 0, none⟩ = some (.int .u32 (ha : Int)) ∧ w'.cell? ⟨S, 1, none⟩ = some (.int .u32 (hb : Int)) ∧ w'.cell? ⟨S, 2, none⟩ = some (.int .u32 (hc : Int)) ∧ w'.cell? ⟨S, 3, none⟩ = some (.int .u32 (hd : Int)) ∧
      w'.cell? ⟨S, 4, none⟩ = some (.int .u32 (he : Int)) ∧ w'.cell? ⟨S, 5, none⟩ = some (.int .u32 (hf : Int)) ∧ w'.cell? ⟨S, 6, none⟩ = some (.int .u32 (hg : Int)) ∧ w'.cell? ⟨S, 7, none⟩ = some (.int .u32 (hi : Int)) ∧
      w'.cell? ⟨S, 8, none⟩ = some (.slice A2 rl k2) ∧ w'.cell? ⟨S, 9, none⟩ = some (.int .u64 (n : Int)))
    (first
      | go_keep
      | (exact ⟨HBU.out.cell e0 (by simp), HBU.out.cell e1 (by simp), HBU.out.cell e2 (by simp), HBU.out.cell e3 (by simp), HBU.out.cell e4 (by simp), HBU.out.cell e5 (by simp), HBU.out.cell e6 (by simp), HBU.out.cell e7 (by simp), HBU.out.cell e8 (by simp), HBU.out.cell e9 (by simp)⟩))
    ((with_reducible apply step_append (m := rest.length) (news := bcells rest)
      go_must (
       · rfl
       · rfl
       · exact Tryd.underlying22
       · exact I5.out.1
       · exact I5.out.2.1
       · exact I5.out.2.2.1
       · exact I5.out.2.2.2
       · rfl
       · exact Own.made (cs := []) (Row.newAt (w := w1) 5 [] hz1).drew (Nat.le_refl 0) rfl (Nat.zero_le _) 0 (Nat.zero_le _)
       · exact (((RD1.out.keep ((But.refl (fun _ => False) w1).alloc _) (fun _ _ hf => hf)).keep (But.refl (fun _ => False) _).drew (fun _ _ hf => hf)).src Tryd.underlying22)
       · rw [HRL.out]; omega
       · rw [HRL.out]; omega
       · exact Nat.zero_le _
       intro v2 w2 ho2 hbu2 hbk2 _
       have HBU := veil ((((But.refl (fun _ => False) w1).alloc _).drew).own hbu2 (fun i hi => .inr (by have h7 := Option.some.inj (show some (w.heap.size + 1) = some i from hi); omega)))
       have HSZ := veil hbu2.size
       rw [Nat.zero_add, HRL.out] at ho2
       obtain ⟨A3, c3, rfl⟩ := ho2.slice
       have HO2 := veil ho2
       have HBK2 := veil hbk2
       clear ho2 hbu2 hbk2)
      all_goals skip))
  have hsz2 : w1.heap.size + 1 ≤ w2.heap.size := by have := HSZ.out; simpa using this
  have hne3 : ∀ k, blockOf (.slice A3 rl c3) = some k → k < w2.heap.size ∧ w.heap.size + 1 ≤ k := fun k hk => ⟨(HO2.out.lt k hk).2, by
    rcases HBK2.out k hk with h7 | h7
    · have h8 := Option.some.inj (show some (w.heap.size + 1) = some k from h7); omega
    · simp at h7; omega⟩
  generalize hw3 : w2.alloc _ = w3
  have B3 := veil (show But (fun _ => False) w1 w3 from by rw [← hw3]; exact HBU.out.alloc _)
  have SS := veil (show SumSt w3 w2.heap.size ⟨ha, hb, hc, hd, he, hf, hg, hi⟩ rest n (.slice A3 rl c3) from by
    rw [← HRL.out] at HO2 hne3 ⊢
    have h7 : Own w3 0 5 1 (.slice A3 rest.length c3) rest.length (bcells rest) := by rw [← hw3]; exact HO2.out.keep ((But.refl (fun _ => False) w2).alloc _) (fun _ _ hf => hf)
    refine ⟨?_, h7, fun e => ?_⟩
    · rw [← hw3, HRL.out]; exact Row.newAt (w := w2) 118 (u32s (V8.l ⟨ha, hb, hc, hd, he, hf, hg, hi⟩) ++ [.slice A3 rl c3, .int .u64 (n : Int)]) rfl
    · have := (hne3 _ e).1; omega)
  have hsz3 : w3.heap.size = w2.heap.size + 1 := by rw [← hw3]; simp
  have e8 := SS.out.row.cell (i := 8) rfl
  have HP := veil (show padz n = (119 - rl) % 64 by unfold padz; rw [HRN.out])
  have hP : padz n = (119 - rl) % 64 := HP.out
  generalize hpp : padz n = pz at hP
  have HPP := veil hpp
  generalize w2.heap.size = C at *
  have E9 := veil (B3.out.cell e9 (fun hf => hf))
  clear hw3 e0 e1 e2 e3 e4 e5 e6 e7 e9 HBU HO2 HBK2 hpp HP I5 HSZ
  go_upto_block 0 with (fail)
  generalize hw4 : w3.alloc _ = w4
  have HO4 := veil (show Own w4 0 5 1 (.slice (some ⟨C + 1, 0, none⟩) 1 1) (0 + 1) (bcells (128 :: List.replicate 0 0)) from by rw [← hw4]; exact Own.made (cs := bcells [128]) (Row.newAt (w := w3) 5 (bcells [128]) hsz3) (Nat.le_refl _) rfl (by decide) 0 (Nat.zero_le _))
  have B4 := veil (show But (fun _ => False) w3 w4 from by rw [← hw4]; exact (But.refl _ _).alloc _)
  clear hw4
  have lC : C < w3.heap.size := by omega
  go_wp2
  go_loopg [4] pz (fun gk j wr => ∃ (k : Nat), gk + k = pz ∧ Own wr 0 5 1 j (k + 1) (bcells (128 :: List.replicate k 0)) ∧ But (fun _ => False) w3 wr ∧ (∀ i, blockOf j = some i → C + 1 ≤ i))
  case atStart => exact ⟨0, by omega, HO4.out, B4.out, fun i hi => by have := Option.some.inj (show some (C + 1) = some i from hi); omega⟩
  case round =>
    obtain ⟨k, hgk, ho, hbt, hbk⟩ := hrel
    obtain ⟨A5, c5, rfl⟩ := ho.slice
    have HO := veil ho
    have HB := veil hbt
    have HBK := veil hbk
    have d8 := hbt.cell e8 (fun hf => hf)
    clear ho hbt hbk
    obtain ⟨i5, hi5, hz5, hs5, hb5⟩ := info_u8
    have I5 := veil (And.intro hi5 (And.intro hz5 (And.intro hs5 hb5)))
    clear hi5 hz5 hs5 hb5
    by_cases hlt : (rl + (k + 1)) % 64 = 56
    · obtain rfl : k = pz := by omega
      have hk64 : k < 64 := by omega
      have VP := veil hP
      clear hP hgk
      have d9 := HB.out.cell E9.out (fun hf => hf)
      go_upto_block 2 with (fail)
      go_wp2
      clear d8 d9 hlt
      generalize (((rl : Int) + ((k : Int) + 1)) % 64 != 56) = b35
      go_loopg [4, 44] 8 (fun gk v i wr => ∃ (m : Nat), gk + m = 8 ∧ i = .int .i64 m ∧ Own wr 0 5 1 v (k + 1 + m) (bcells (128 :: (List.replicate k 0 ++ (be8 (8 * n)).take m))) ∧ But (fun _ => False) w3 wr ∧ (∀ i, blockOf v = some i → C + 1 ≤ i))
      case atStart => exact ⟨0, by omega, rfl, by rw [List.take_zero, List.append_nil]; exact HO.out, HB.out, HBK.out⟩
      case round =>
        obtain ⟨m, hgm, rfl, ho, hbt, hbk⟩ := hrel
        clear HO HB HBK
        obtain ⟨A6, c6, rfl⟩ := ho.slice
        have HO := veil ho
        have HB := veil hbt
        have HBK := veil hbk
        clear ho hbt hbk
        by_cases hlt : m < 8
        · rcases (show m = 0 ∨ m = 1 ∨ m = 2 ∨ m = 3 ∨ m = 4 ∨ m = 5 ∨ m = 6 ∨ m = 7 by omega) with rfl | rfl | rfl | rfl | rfl | rfl | rfl | rfl
          all_goals
            go_wp2_with (first
              | (at_builtin
                 with_reducible apply wpL_append (m := 1)
                 go_must (
                  · rfl
                  · rfl
                  · exact Tryd.underlying22
                  · exact I5.out.1
                  · exact I5.out.2.1
                  · exact I5.out.2.2.1
                  · exact I5.out.2.2.2
                  · rfl
                  · exact HO.out.keep ((But.refl (fun _ => False) _).alloc _) (fun _ _ hf => hf)
                  · first
                    | exact src_one (x := UInt8.ofNat ((8 * n) >>> 56)) _ _ Tryd.underlying22 (by rw [Nat.shiftRight_eq_div_pow, UInt8.toNat_ofNat']; omega)
                    | exact src_one (x := UInt8.ofNat ((8 * n) >>> 48)) _ _ Tryd.underlying22 (by rw [Nat.shiftRight_eq_div_pow, UInt8.toNat_ofNat']; omega)
                    | exact src_one (x := UInt8.ofNat ((8 * n) >>> 40)) _ _ Tryd.underlying22 (by rw [Nat.shiftRight_eq_div_pow, UInt8.toNat_ofNat']; omega)
                    | exact src_one (x := UInt8.ofNat ((8 * n) >>> 32)) _ _ Tryd.underlying22 (by rw [Nat.shiftRight_eq_div_pow, UInt8.toNat_ofNat']; omega)
                    | exact src_one (x := UInt8.ofNat ((8 * n) >>> 24)) _ _ Tryd.underlying22 (by rw [Nat.shiftRight_eq_div_pow, UInt8.toNat_ofNat']; omega)
                    | exact src_one (x := UInt8.ofNat ((8 * n) >>> 16)) _ _ Tryd.underlying22 (by rw [Nat.shiftRight_eq_div_pow, UInt8.toNat_ofNat']; omega)
                    | exact src_one (x := UInt8.ofNat ((8 * n) >>> 8)) _ _ Tryd.underlying22 (by rw [Nat.shiftRight_eq_div_pow, UInt8.toNat_ofNat']; omega)
                    | exact src_one (x := UInt8.ofNat (8 * n)) _ _ Tryd.underlying22 (by rw [UInt8.toNat_ofNat']; omega)
                  · omega
                  · omega
                  · exact Nat.zero_le _
                  intro v2 w2 ho2 hbu2 hbk2 _)))
            go_roundg (gk - 1)
            case measure => omega
            case rel =>
              first
                | refine ⟨1, by omega, rfl, ?_, ?_, ?_⟩
                | refine ⟨2, by omega, rfl, ?_, ?_, ?_⟩
                | refine ⟨3, by omega, rfl, ?_, ?_, ?_⟩
                | refine ⟨4, by omega, rfl, ?_, ?_, ?_⟩
                | refine ⟨5, by omega, rfl, ?_, ?_, ?_⟩
                | refine ⟨6, by omega, rfl, ?_, ?_, ?_⟩
                | refine ⟨7, by omega, rfl, ?_, ?_, ?_⟩
                | refine ⟨8, by omega, rfl, ?_, ?_, ?_⟩
              · rw [← bcells_append, List.cons_append, List.append_assoc] at ho2
                exact ho2
              · exact (HB.out.alloc _).own hbu2 (fun i hi => .inr (by have := HBK.out i hi; omega))
              · intro i hi
                rcases hbk2 i hi with h7 | h7
                · exact HBK.out i h7
                · have := HB.out.size; simp at h7; omega
        · obtain rfl : m = 8 := by omega
          have HT := veil (show (128 :: (List.replicate k 0 ++ (be8 (8 * n)).take 8) : List UInt8) = tail n by unfold tail; rw [HPP.out]; rfl)
          have htl : (tail n).length = k + 1 + 8 := by unfold tail; simp [be8, HPP.out]
          rw [HT.out] at HO
          obtain ⟨X, hX⟩ : ∃ X : Nat → Prop, ∀ i, X i ↔ i = C ∨ blockOf (.slice A3 rl c3) = some i := ⟨fun i => i = C ∨ blockOf (.slice A3 rl c3) = some i, fun _ => Iff.rfl⟩
          have HX := veil hX
          have HTL := veil htl
          clear hX htl HPP HT
          have hBK6 := veil (fun b (hb : blockOf (.slice A6 (k + 1 + 8) c6) = some b) => show ¬ X b from fun h7 => by
            have h9 := HBK.out b hb
            rcases (HX.out b).1 h7 with h8 | h8
            · omega
            · have := (hne3 b h8).1; omega)
          have NE3 := veil hne3
          clear hne3
          go_wp2_with (first
            | (go_at_call 47
               go_must (
                refine (add_any _ C ⟨ha, hb, hc, hd, he, hf, hg, hi⟩ hh rest (by rw [HRL.out]; exact hr) (.slice A3 rl c3) n (by omega) (SS.out.keep (HB.out.alloc _) (fun hf => hf) (fun _ _ hf => hf)) X HX.out _ [tail n] ⟨some ⟨wr.heap.size, 0, none⟩, 1, rfl, fun _ => ⟨wr.heap.size, 0, rfl, ?_, ?_⟩⟩ ?_ (by simp)).mono ?_
                · intro h7
                  have := HB.out.size
                  rcases (HX.out _).1 h7 with h8 | h8
                  · omega
                  · have := (NE3.out _ h8).1; omega
                · intro j hj
                  obtain rfl : j = 0 := by simp at hj; omega
                  exact ⟨_, (Row.newAt (w := wr) 22 [.slice A6 (k + 1 + 8) c6] rfl).cell (i := 0) rfl, (HO.out.keep ((But.refl (fun _ => False) _).alloc _) (fun _ _ hf => hf)).rdB.1, hBK6.out⟩
                · intro p hp
                  obtain rfl : p = tail n := by simpa using hp
                  rw [HTL.out]; omega
                rintro e w5 ⟨rfl, v5, hp5⟩
                have P5 := veil hp5
                clear hp5))
            | fail)
          have BW := veil (show But (fun _ => False) w w5 from ((((But.of_below B1.out).trans B3.out).trans HB.out).alloc _).own P5.out.but (fun i hi => .inr (by
            rcases (HX.out i).1 hi with h8 | h8
            · omega
            · have := (NE3.out i h8).2; omega)))
          have RW := veil (show Row w5 w.heap.size 72 (List.replicate 32 (.int .u8 0)) from (((B3.out.trans HB.out).alloc _).own P5.out.but (fun i hi => .inr (by
            rcases (HX.out i).1 hi with h8 | h8
            · omega
            · have := (NE3.out i h8).2; omega))).row hR.out (fun hf => hf))
          obtain ⟨q, hqe⟩ : ∃ q, q = absH ⟨ha, hb, hc, hd, he, hf, hg, hi⟩ (rest ++ tail n) := ⟨_, rfl⟩
          have R5 := veil (show Row w5 C 118 (u32s q.l ++ [v5, .int .u64 ((n + [tail n].flatten.length : Nat) : Int)]) by rw [hqe]; exact P5.out.st.row)
          have hqok : q.ok := by rw [hqe]; exact blks_ok hh _ _
          have HQ := veil hqe
          have lC5 := R5.out.lt
          have lW5 := RW.out.lt
          clear hqe P5 HX hBK6 NE3 E9 SS e8 HO HBK HB hR hn hr lC B1 B3
          obtain ⟨qa, qb, qc, qd, qe, qf, qg, qh⟩ := q
          obtain ⟨la, lb, lc, ld, le, lf, lg, lh⟩ := hqok
          go_loopw [61] (fun j wx => ∃ (i : Nat), i ≤ 32 ∧ j = .int .i64 i ∧ Row wx w5.heap.size 72 (bcells ((V8.mk qa qb qc qd qe qf qg qh).bytes.take i) ++ List.replicate (32 - i) (.int .u8 0)) ∧ But (fun _ => False) w5 wx) (fun j _ => 32 - (intOf j).toNat)
          case atStart => exact ⟨0, by omega, rfl, Row.newAt _ _ rfl, (But.refl _ _).alloc _⟩
          case round =>
            obtain ⟨i, hi32, rfl, hrx, hbx⟩ := hrel
            have RX := veil hrx
            have BX := veil hbx
            have RC := veil (hbx.row R5.out (fun hf => hf))
            clear hrx hbx
            by_cases hlt : i < 32
            · have f0 := RX.out.frozen i
              have c0 := RC.out.cell (i := 0) rfl
              have c1 := RC.out.cell (i := 1) rfl
              have c2 := RC.out.cell (i := 2) rfl
              have c3 := RC.out.cell (i := 3) rfl
              have c4 := RC.out.cell (i := 4) rfl
              have c5 := RC.out.cell (i := 5) rfl
              have c6 := RC.out.cell (i := 6) rfl
              have c7 := RC.out.cell (i := 7) rfl
              simp only at c0 c1 c2 c3 c4 c5 c6 c7
              clear hi32
              rcases (show i = 0 ∨ i = 1 ∨ i = 2 ∨ i = 3 ∨ i = 4 ∨ i = 5 ∨ i = 6 ∨ i = 7 ∨ i = 8 ∨ i = 9 ∨ i = 10 ∨ i = 11 ∨ i = 12 ∨ i = 13 ∨ i = 14 ∨ i = 15 ∨ i = 16 ∨ i = 17 ∨ i = 18 ∨ i = 19 ∨ i = 20 ∨ i = 21 ∨ i = 22 ∨ i = 23 ∨ i = 24 ∨ i = 25 ∨ i = 26 ∨ i = 27 ∨ i = 28 ∨ i = 29 ∨ i = 30 ∨ i = 31 by omega) with rfl | rfl | rfl | rfl | rfl | rfl | rfl | rfl | rfl | rfl | rfl | rfl | rfl | rfl | rfl | rfl | rfl | rfl | rfl | rfl | rfl | rfl | rfl | rfl | rfl | rfl | rfl | rfl | rfl | rfl | rfl | rfl
              · have x0 := RX.out.cell (i := 0) (v := .int .u8 0) rfl
                go_wp2
                go_roundw
                case rel => exact ⟨1, by omega, rfl, set_byte RX.out 0 (UInt8.ofNat (qa >>> 24)) (by rw [Nat.shiftRight_eq_div_pow, UInt8.toNat_ofNat']; omega) _ rfl, BX.out.only (Only.setCell _ _ _) (.inr (Nat.le_refl _))⟩
                case measure => simp [intOf]
              · have x0 := RX.out.cell (i := 1) (v := .int .u8 0) rfl
                go_wp2
                go_roundw
                case rel => exact ⟨2, by omega, rfl, set_byte RX.out 1 (UInt8.ofNat (qa >>> 16)) (by rw [Nat.shiftRight_eq_div_pow, UInt8.toNat_ofNat']; omega) _ rfl, BX.out.only (Only.setCell _ _ _) (.inr (Nat.le_refl _))⟩
                case measure => simp [intOf]
              · have x0 := RX.out.cell (i := 2) (v := .int .u8 0) rfl
                go_wp2
                go_roundw
                case rel => exact ⟨3, by omega, rfl, set_byte RX.out 2 (UInt8.ofNat (qa >>> 8)) (by rw [Nat.shiftRight_eq_div_pow, UInt8.toNat_ofNat']; omega) _ rfl, BX.out.only (Only.setCell _ _ _) (.inr (Nat.le_refl _))⟩
                case measure => simp [intOf]
              · have x0 := RX.out.cell (i := 3) (v := .int .u8 0) rfl
                go_wp2
                go_roundw
                case rel => exact ⟨4, by omega, rfl, set_byte RX.out 3 (UInt8.ofNat qa) (by rw [UInt8.toNat_ofNat']; omega) _ rfl, BX.out.only (Only.setCell _ _ _) (.inr (Nat.le_refl _))⟩
                case measure => simp [intOf]
              · have x0 := RX.out.cell (i := 4) (v := .int .u8 0) rfl
                go_wp2
                go_roundw
                case rel => exact ⟨5, by omega, rfl, set_byte RX.out 4 (UInt8.ofNat (qb >>> 24)) (by rw [Nat.shiftRight_eq_div_pow, UInt8.toNat_ofNat']; omega) _ rfl, BX.out.only (Only.setCell _ _ _) (.inr (Nat.le_refl _))⟩
                case measure => simp [intOf]
              · have x0 := RX.out.cell (i := 5) (v := .int .u8 0) rfl
                go_wp2
                go_roundw
                case rel => exact ⟨6, by omega, rfl, set_byte RX.out 5 (UInt8.ofNat (qb >>> 16)) (by rw [Nat.shiftRight_eq_div_pow, UInt8.toNat_ofNat']; omega) _ rfl, BX.out.only (Only.setCell _ _ _) (.inr (Nat.le_refl _))⟩
                case measure => simp [intOf]
              · have x0 := RX.out.cell (i := 6) (v := .int .u8 0) rfl
                go_wp2
                go_roundw
                case rel => exact ⟨7, by omega, rfl, set_byte RX.out 6 (UInt8.ofNat (qb >>> 8)) (by rw [Nat.shiftRight_eq_div_pow, UInt8.toNat_ofNat']; omega) _ rfl, BX.out.only (Only.setCell _ _ _) (.inr (Nat.le_refl _))⟩
                case measure => simp [intOf]
              · have x0 := RX.out.cell (i := 7) (v := .int .u8 0) rfl
                go_wp2
                go_roundw
                case rel => exact ⟨8, by omega, rfl, set_byte RX.out 7 (UInt8.ofNat qb) (by rw [UInt8.toNat_ofNat']; omega) _ rfl, BX.out.only (Only.setCell _ _ _) (.inr (Nat.le_refl _))⟩
                case measure => simp [intOf]
              · have x0 := RX.out.cell (i := 8) (v := .int .u8 0) rfl
                go_wp2
                go_roundw
                case rel => exact ⟨9, by omega, rfl, set_byte RX.out 8 (UInt8.ofNat (qc >>> 24)) (by rw [Nat.shiftRight_eq_div_pow, UInt8.toNat_ofNat']; omega) _ rfl, BX.out.only (Only.setCell _ _ _) (.inr (Nat.le_refl _))⟩
                case measure => simp [intOf]
              · have x0 := RX.out.cell (i := 9) (v := .int .u8 0) rfl
                go_wp2
                go_roundw
                case rel => exact ⟨10, by omega, rfl, set_byte RX.out 9 (UInt8.ofNat (qc >>> 16)) (by rw [Nat.shiftRight_eq_div_pow, UInt8.toNat_ofNat']; omega) _ rfl, BX.out.only (Only.setCell _ _ _) (.inr (Nat.le_refl _))⟩
                case measure => simp [intOf]
              · have x0 := RX.out.cell (i := 10) (v := .int .u8 0) rfl
                go_wp2
                go_roundw
                case rel => exact ⟨11, by omega, rfl, set_byte RX.out 10 (UInt8.ofNat (qc >>> 8)) (by rw [Nat.shiftRight_eq_div_pow, UInt8.toNat_ofNat']; omega) _ rfl, BX.out.only (Only.setCell _ _ _) (.inr (Nat.le_refl _))⟩
                case measure => simp [intOf]
              · have x0 := RX.out.cell (i := 11) (v := .int .u8 0) rfl
                go_wp2
                go_roundw
                case rel => exact ⟨12, by omega, rfl, set_byte RX.out 11 (UInt8.ofNat qc) (by rw [UInt8.toNat_ofNat']; omega) _ rfl, BX.out.only (Only.setCell _ _ _) (.inr (Nat.le_refl _))⟩
                case measure => simp [intOf]
              · have x0 := RX.out.cell (i := 12) (v := .int .u8 0) rfl
                go_wp2
                go_roundw
                case rel => exact ⟨13, by omega, rfl, set_byte RX.out 12 (UInt8.ofNat (qd >>> 24)) (by rw [Nat.shiftRight_eq_div_pow, UInt8.toNat_ofNat']; omega) _ rfl, BX.out.only (Only.setCell _ _ _) (.inr (Nat.le_refl _))⟩
                case measure => simp [intOf]
              · have x0 := RX.out.cell (i := 13) (v := .int .u8 0) rfl
                go_wp2
                go_roundw
                case rel => exact ⟨14, by omega, rfl, set_byte RX.out 13 (UInt8.ofNat (qd >>> 16)) (by rw [Nat.shiftRight_eq_div_pow, UInt8.toNat_ofNat']; omega) _ rfl, BX.out.only (Only.setCell _ _ _) (.inr (Nat.le_refl _))⟩
                case measure => simp [intOf]
              · have x0 := RX.out.cell (i := 14) (v := .int .u8 0) rfl
                go_wp2
                go_roundw
                case rel => exact ⟨15, by omega, rfl, set_byte RX.out 14 (UInt8.ofNat (qd >>> 8)) (by rw [Nat.shiftRight_eq_div_pow, UInt8.toNat_ofNat']; omega) _ rfl, BX.out.only (Only.setCell _ _ _) (.inr (Nat.le_refl _))⟩
                case measure => simp [intOf]
              · have x0 := RX.out.cell (i := 15) (v := .int .u8 0) rfl
                go_wp2
                go_roundw
                case rel => exact ⟨16, by omega, rfl, set_byte RX.out 15 (UInt8.ofNat qd) (by rw [UInt8.toNat_ofNat']; omega) _ rfl, BX.out.only (Only.setCell _ _ _) (.inr (Nat.le_refl _))⟩
                case measure => simp [intOf]
              · have x0 := RX.out.cell (i := 16) (v := .int .u8 0) rfl
                go_wp2
                go_roundw
                case rel => exact ⟨17, by omega, rfl, set_byte RX.out 16 (UInt8.ofNat (qe >>> 24)) (by rw [Nat.shiftRight_eq_div_pow, UInt8.toNat_ofNat']; omega) _ rfl, BX.out.only (Only.setCell _ _ _) (.inr (Nat.le_refl _))⟩
                case measure => simp [intOf]
              · have x0 := RX.out.cell (i := 17) (v := .int .u8 0) rfl
                go_wp2
                go_roundw
                case rel => exact ⟨18, by omega, rfl, set_byte RX.out 17 (UInt8.ofNat (qe >>> 16)) (by rw [Nat.shiftRight_eq_div_pow, UInt8.toNat_ofNat']; omega) _ rfl, BX.out.only (Only.setCell _ _ _) (.inr (Nat.le_refl _))⟩
                case measure => simp [intOf]
              · have x0 := RX.out.cell (i := 18) (v := .int .u8 0) rfl
                go_wp2
                go_roundw
                case rel => exact ⟨19, by omega, rfl, set_byte RX.out 18 (UInt8.ofNat (qe >>> 8)) (by rw [Nat.shiftRight_eq_div_pow, UInt8.toNat_ofNat']; omega) _ rfl, BX.out.only (Only.setCell _ _ _) (.inr (Nat.le_refl _))⟩
                case measure => simp [intOf]
              · have x0 := RX.out.cell (i := 19) (v := .int .u8 0) rfl
                go_wp2
                go_roundw
                case rel => exact ⟨20, by omega, rfl, set_byte RX.out 19 (UInt8.ofNat qe) (by rw [UInt8.toNat_ofNat']; omega) _ rfl, BX.out.only (Only.setCell _ _ _) (.inr (Nat.le_refl _))⟩
                case measure => simp [intOf]
              · have x0 := RX.out.cell (i := 20) (v := .int .u8 0) rfl
                go_wp2
                go_roundw
                case rel => exact ⟨21, by omega, rfl, set_byte RX.out 20 (UInt8.ofNat (qf >>> 24)) (by rw [Nat.shiftRight_eq_div_pow, UInt8.toNat_ofNat']; omega) _ rfl, BX.out.only (Only.setCell _ _ _) (.inr (Nat.le_refl _))⟩
                case measure => simp [intOf]
              · have x0 := RX.out.cell (i := 21) (v := .int .u8 0) rfl
                go_wp2
                go_roundw
                case rel => exact ⟨22, by omega, rfl, set_byte RX.out 21 (UInt8.ofNat (qf >>> 16)) (by rw [Nat.shiftRight_eq_div_pow, UInt8.toNat_ofNat']; omega) _ rfl, BX.out.only (Only.setCell _ _ _) (.inr (Nat.le_refl _))⟩
                case measure => simp [intOf]
              · have x0 := RX.out.cell (i := 22) (v := .int .u8 0) rfl
                go_wp2
                go_roundw
                case rel => exact ⟨23, by omega, rfl, set_byte RX.out 22 (UInt8.ofNat (qf >>> 8)) (by rw [Nat.shiftRight_eq_div_pow, UInt8.toNat_ofNat']; omega) _ rfl, BX.out.only (Only.setCell _ _ _) (.inr (Nat.le_refl _))⟩
                case measure => simp [intOf]
              · have x0 := RX.out.cell (i := 23) (v := .int .u8 0) rfl
                go_wp2
                go_roundw
                case rel => exact ⟨24, by omega, rfl, set_byte RX.out 23 (UInt8.ofNat qf) (by rw [UInt8.toNat_ofNat']; omega) _ rfl, BX.out.only (Only.setCell _ _ _) (.inr (Nat.le_refl _))⟩
                case measure => simp [intOf]
              · have x0 := RX.out.cell (i := 24) (v := .int .u8 0) rfl
                go_wp2
                go_roundw
                case rel => exact ⟨25, by omega, rfl, set_byte RX.out 24 (UInt8.ofNat (qg >>> 24)) (by rw [Nat.shiftRight_eq_div_pow, UInt8.toNat_ofNat']; omega) _ rfl, BX.out.only (Only.setCell _ _ _) (.inr (Nat.le_refl _))⟩
                case measure => simp [intOf]
              · have x0 := RX.out.cell (i := 25) (v := .int .u8 0) rfl
                go_wp2
                go_roundw
                case rel => exact ⟨26, by omega, rfl, set_byte RX.out 25 (UInt8.ofNat (qg >>> 16)) (by rw [Nat.shiftRight_eq_div_pow, UInt8.toNat_ofNat']; omega) _ rfl, BX.out.only (Only.setCell _ _ _) (.inr (Nat.le_refl _))⟩
                case measure => simp [intOf]
              · have x0 := RX.out.cell (i := 26) (v := .int .u8 0) rfl
                go_wp2
                go_roundw
                case rel => exact ⟨27, by omega, rfl, set_byte RX.out 26 (UInt8.ofNat (qg >>> 8)) (by rw [Nat.shiftRight_eq_div_pow, UInt8.toNat_ofNat']; omega) _ rfl, BX.out.only (Only.setCell _ _ _) (.inr (Nat.le_refl _))⟩
                case measure => simp [intOf]
              · have x0 := RX.out.cell (i := 27) (v := .int .u8 0) rfl
                go_wp2
                go_roundw
                case rel => exact ⟨28, by omega, rfl, set_byte RX.out 27 (UInt8.ofNat qg) (by rw [UInt8.toNat_ofNat']; omega) _ rfl, BX.out.only (Only.setCell _ _ _) (.inr (Nat.le_refl _))⟩
                case measure => simp [intOf]
              · have x0 := RX.out.cell (i := 28) (v := .int .u8 0) rfl
                go_wp2
                go_roundw
                case rel => exact ⟨29, by omega, rfl, set_byte RX.out 28 (UInt8.ofNat (qh >>> 24)) (by rw [Nat.shiftRight_eq_div_pow, UInt8.toNat_ofNat']; omega) _ rfl, BX.out.only (Only.setCell _ _ _) (.inr (Nat.le_refl _))⟩
                case measure => simp [intOf]
              · have x0 := RX.out.cell (i := 29) (v := .int .u8 0) rfl
                go_wp2
                go_roundw
                case rel => exact ⟨30, by omega, rfl, set_byte RX.out 29 (UInt8.ofNat (qh >>> 16)) (by rw [Nat.shiftRight_eq_div_pow, UInt8.toNat_ofNat']; omega) _ rfl, BX.out.only (Only.setCell _ _ _) (.inr (Nat.le_refl _))⟩
                case measure => simp [intOf]
              · have x0 := RX.out.cell (i := 30) (v := .int .u8 0) rfl
                go_wp2
                go_roundw
                case rel => exact ⟨31, by omega, rfl, set_byte RX.out 30 (UInt8.ofNat (qh >>> 8)) (by rw [Nat.shiftRight_eq_div_pow, UInt8.toNat_ofNat']; omega) _ rfl, BX.out.only (Only.setCell _ _ _) (.inr (Nat.le_refl _))⟩
                case measure => simp [intOf]
              · have x0 := RX.out.cell (i := 31) (v := .int .u8 0) rfl
                go_wp2
                go_roundw
                case rel => exact ⟨32, by omega, rfl, set_byte RX.out 31 (UInt8.ofNat qh) (by rw [UInt8.toNat_ofNat']; omega) _ rfl, BX.out.only (Only.setCell _ _ _) (.inr (Nat.le_refl _))⟩
                case measure => simp [intOf]
            · obtain rfl : i = 32 := by omega
              have RX1 := veil (show Row wr w5.heap.size 72 (bcells (V8.mk qa qb qc qd qe qf qg qh).bytes) from RX.out)
              have RR := veil (BX.out.row RW.out (fun hf => hf))
              have BB := veil ((BW.out.trans BX.out).below (fun _ _ hf => hf))
              clear RX BX RW BW
              have hbl := veil (show (bcells (V8.mk qa qb qc qd qe qf qg qh).bytes).length = 32 from rfl)
              generalize hby : bcells (V8.mk qa qb qc qd qe qf qg qh).bytes = by_ at RX1 hbl
              have HBY := veil hby
              have h1c := veil (show ∀ v ∈ by_, v.oneCell' = true by rw [← hby]; exact bcells_one _)
              clear hby
              go_wp2_with (first
                | (with_reducible apply wpL_load
                   go_must (
                    · rfl
                    · exact fun j v hv => by rw [Nat.zero_add]; exact RX1.out.cell hv
                    · exact Tryd.underlying72
                    · rfl
                    · rw [hbl.out]; kernel_rfl))
                | (with_reducible apply wpL_store
                   go_must (
                    · rfl
                    · rfl
                    · exact RR.out
                    · rw [hbl.out]; decide
                    · exact h1c.out
                    · rw [hbl.out]; kernel_rfl
                    intro w6 hr6 ho6)))
              have h6 := hr6.whole (n := 32) rfl hbl.out
              refine bodyPost_ret (results_cell_row rfl _ _ _ _ _ _ _ rfl h6 Tryd.underlying72 rfl (by rw [List.size_toArray, hbl.out]; kernel_rfl)) rfl ⟨?_, ho6.below BB.out (Nat.le_refl _)⟩
              rw [← HQ.out, HBY.out]
    · go_wp2_with (first
        | (at_builtin
           with_reducible apply wpL_append (m := 1) (news := bcells [0])
           go_must (
            · rfl
            · rfl
            · exact Tryd.underlying22
            · exact I5.out.1
            · exact I5.out.2.1
            · exact I5.out.2.2.1
            · exact I5.out.2.2.2
            · rfl
            · exact HO.out.keep ((But.refl (fun _ => False) _).alloc _) (fun _ _ hf => hf)
            · exact RdB.src (RdB.made wr 5 [0] (by decide)) Tryd.underlying22
            · omega
            · omega
            · exact Nat.zero_le _
            intro v2 w2 ho2 hbu2 hbk2 _)))
      go_roundg (gk - 1)
      case measure => omega
      case rel =>
        refine ⟨k + 1, by omega, ?_, ?_, ?_⟩
        · have e1 : (128 :: List.replicate (k + 1) 0 : List UInt8) = (128 :: List.replicate k 0) ++ [0] := by rw [List.replicate_succ']; rfl
          rw [e1, bcells_append]
          exact ho2
        · exact (HB.out.alloc _).own hbu2 (fun i hi => .inr (by have := HBK.out i hi; omega))
        · intro i hi
          rcases hbk2 i hi with h7 | h7
          · exact HBK.out i h7
          · have := HB.out.size; simp at h7; omega
end Go.Proofs.YtojffibjjicddaaDoor
