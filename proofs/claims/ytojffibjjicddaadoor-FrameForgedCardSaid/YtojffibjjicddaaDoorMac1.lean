/- Contract of mac.turned. -/
import Derived.Test.YtojffibjjicddaaDoorHash6
import Derived.Test.YtojffibjjicddaaDoorOwn2
namespace Go.Proofs.YtojffibjjicddaaDoor
open Go.RowKit
/-- The key's block when the first i bytes are turned. -/
def turnedN (k : List UInt8) (by_ : UInt8) (i : Nat) : List UInt8 := (k.take i).map (· ^^^ by_) ++ k.drop i
theorem turnedN_get (k : List UInt8) (by_ : UInt8) (i : Nat) (h : i < k.length) : (turnedN k by_ i)[i]? = some (k.getD i 0) := by
  unfold turnedN
  rw [List.getElem?_append_right (by simp; omega)]
  simp [List.getD_eq_getElem?_getD, Nat.min_eq_left (Nat.le_of_lt h), h]
theorem turnedN_length (k : List UInt8) (by_ : UInt8) (i : Nat) (h : i ≤ k.length) : (turnedN k by_ i).length = k.length := by
  unfold turnedN; simp; omega
theorem turnedN_succ (k : List UInt8) (by_ : UInt8) (i : Nat) (h : i < k.length) : (turnedN k by_ i).set i (k.getD i 0 ^^^ by_) = turnedN k by_ (i + 1) := by
  unfold turnedN
  rw [List.set_append_right _ _ (by simp; omega), List.take_succ_eq_append_getElem h, List.map_append]
  simp only [List.length_map, List.length_take, Nat.min_eq_left (Nat.le_of_lt h), Nat.sub_self, List.map_cons, List.map_nil, List.append_assoc, List.singleton_append]
  rw [List.drop_eq_getElem_cons h, List.set_cons_zero, List.getD_eq_getElem?_getD, List.getElem?_eq_getElem h]
  rfl
theorem turnedN_all (k : List UInt8) (by_ : UInt8) (h : k.length = 64) : turnedN k by_ 64 = k.map (· ^^^ by_) := by
  unfold turnedN; rw [← h, List.take_length, List.drop_length, List.append_nil]
theorem zeros_copied (k : List UInt8) (y : UInt8) (m : Nat) (h : m = k.length) : (List.replicate 64 (Value.int .u8 0)).take 0 ++ bcells k ++ (List.replicate 64 (Value.int .u8 0)).drop (0 + m) = bcells (turnedN (k ++ List.replicate (64 - k.length) 0) y 0) := by
  subst h
  unfold turnedN
  rw [List.take_zero, List.take_zero, List.drop_zero, Nat.zero_add, List.drop_replicate, List.map_nil, List.nil_append, List.nil_append, bcells_append]
  simp only [bcells, List.map_replicate]
  rfl
theorem xor_byte (x y : UInt8) : bits .xor .u8 (x.toNat : Int) (y.toNat : Int) = ((x ^^^ y : UInt8).toNat : Int) := by
  rw [xor_u8 _ _ x.toNat_lt y.toNat_lt, UInt8.toNat_xor]
set_option maxRecDepth 100000 in
set_option maxHeartbeats 1000000 in
theorem turned_any (w : World) (v : Value) (key : List UInt8) (y : UInt8) (hk : RdB w v key) (hkb : ∀ b, blockOf v = some b → b < w.heap.size) (hkl : key.length ≤ 1048576) :
    Calls Tryd.prog 41 #[v, .int .u8 (y.toNat : Int)] w fun e w' => ∃ r, e = .returned r ∧ Own w' w.heap.size 5 1 r 64 (bcells (keyBlock key y)) ∧ Below w.heap.size w w' := by
  obtain ⟨A, c, rfl, _⟩ := hk
  rename_i hk0
  have HK := veil (show RdB w (.slice A key.length c) key from ⟨A, c, rfl, hk0⟩)
  have HKB := veil hkb
  have HY := y.toNat_lt
  generalize hyi : (y.toNat : Int) = yi
  have HYI := veil hyi
  have yb : (0 : Int) ≤ yi ∧ yi < 256 := by omega
  generalize hkn : key.length = kn at HK hkl HKB
  have HKN := veil hkn
  clear hk0 hkb hkn hyi
  go_enter Tryd.func41, Tryd.ntmps41
  by_cases hl : 64 < kn
  · go_upto_region 4 with (first
      | (go_at_call 38
         go_must (
          refine (of_any _ _ [key] ⟨some ⟨w.heap.size, 0, none⟩, 1, rfl, fun _ => ⟨w.heap.size, 0, rfl, by simp, fun j hj => ?_⟩⟩ (fun p hp => by obtain rfl : p = key := (by simpa using hp); have := HKN.out; omega) (by simp)).mono ?_
          · obtain rfl : j = 0 := by have h9 : j < 1 := hj; omega
            exact ⟨_, (Row.newAt (w := w) 22 [.slice A kn c] rfl).cell (i := 0) rfl, HK.out.below ((Below.refl _ _).alloc (Nat.le_refl _) _), fun b hb h7 => by have h8 := HKB.out b hb; simp at h7; omega⟩
          rintro e w2 ⟨rfl, hb2⟩
          have B2 := veil (below_step ((Below.refl w.heap.size w).alloc (Nat.le_refl _) (.cells #[.slice A kn c] 22)) (by simp) hb2)
          clear hb2
          have hfl : [key].flatten = key := by simp
          rw [hfl]
          have hbl := veil (show (bcells (sha key)).length = 32 by rw [bcells_length, sha_length])
          have h1c := veil (bcells_one (sha key))
          generalize hby : bcells (sha key) = by_ at hbl h1c
          have HBY := veil hby
          clear hfl hby))
      | (with_reducible apply wpL_store
         go_must (
          · rfl
          · rfl
          · exact Row.newAt (w := w2) 72 (List.replicate 32 (.int .u8 0)) rfl
          · rw [hbl.out]; decide
          · exact h1c.out
          · rw [hbl.out]; kernel_rfl
          intro w3 hr3 ho3)))
    have h6 := hr3.whole (n := 32) rfl hbl.out
    have lw2 := B2.out.size
    have B3 := veil (ho3.below (B2.out.alloc lw2 _) lw2)
    have RK := veil (show RdB w3 (.slice (some ⟨w2.heap.size, 0, none⟩) 32 32) (sha key) from (Own.made (n := 32) (cap := 32) (sz := 1) h6 (Nat.le_refl _) (by rw [hbl.out]) (by omega) 0 (Nat.zero_le _) |> fun h => by
      rw [← HBY.out, List.take_of_length_le (by rw [bcells_length, sha_length]; decide)] at h
      exact h.rdB.1))
    have HKE := veil (show keyBlock key y = (sha key ++ List.replicate (64 - (sha key).length) 0).map (· ^^^ y) by unfold keyBlock; rw [if_pos (by rw [HKN.out]; exact hl)])
    generalize hsk : sha key = k2 at RK HKE
    have hkl2 : k2.length ≤ 64 := by rw [← hsk, sha_length]; decide
    have hkl3 : 32 = k2.length := by rw [← hsk, sha_length]
    generalize hA2 : (some ⟨w2.heap.size, 0, none⟩ : Option Addr) = A2 at RK ⊢
    generalize hn2 : (32 : Nat) = n2 at RK hkl3 ⊢
    have hn64 : n2 ≤ 64 := by omega
    have HKL3 := veil hkl3
    clear hkl3
    have lw3 := B3.out.size
    clear hsk hA2 hn2 lw2 hr3 ho3 h6 HK HKB HKN hkl hl
    obtain ⟨i5, hi5, hz5, hs5, hb5⟩ := info_u8
    have I5 := veil (And.intro hi5 (And.intro hz5 (And.intro hs5 hb5)))
    clear hi5 hz5 hs5 hb5
    go_upto_block 0 with (first
      | (with_reducible apply wpL_make (n := 64) (m := 64)
         go_must (
          · rfl
          · rfl
          · rfl
          · rfl
          · exact Tryd.underlying22
          · exact I5.out.1
          · exact I5.out.2.1
          · exact I5.out.2.2.1
          · exact I5.out.2.2.2
          · rfl
          · omega
          · omega
          · omega
          intro w4 hr4 hb4 hs4
          have R4 := veil hr4
          have B4 := veil hb4
          clear hr4 hb4))
      | (with_reducible apply wpL_copy
         go_must (
          · rfl
          · rfl
          · exact Tryd.underlying22
          · kernel_rfl
          · exact R4.out
          · omega
          · have h8 : (List.replicate 64 (Value.int IntKind.u8 0)).length = 64 := List.length_replicate
            omega
          · first
            | exact bcells_length _
            | (rw [bcells_length]; exact HKL3.out.symm)
          · exact (RdB.cells (RK.out.below B4.out)).2
          · exact bcells_one _
          intro w5 hr5 ho5)))
    have R5 := veil (show Row w5 w3.heap.size 5 (bcells (turnedN (k2 ++ List.replicate (64 - k2.length) 0) y 0)) from by
      have e1 : (List.replicate 64 (Value.int .u8 0)).take 0 ++ bcells k2 ++ (List.replicate 64 (Value.int .u8 0)).drop (0 + n2) = bcells (turnedN (k2 ++ List.replicate (64 - k2.length) 0) y 0) := zeros_copied _ _ _ HKL3.out
      rw [← e1]; exact hr5)
    have B5 := veil (ho5.below (below_step B3.out lw3 B4.out) lw3)
    clear hr5 ho5 RK
    have hkp : (k2 ++ List.replicate (64 - k2.length) 0).length = 64 := by simp; omega
    generalize hkpe : k2 ++ List.replicate (64 - k2.length) 0 = kp at R5 HKE hkp
    have HKP := veil hkp
    clear hkpe hkp
    go_wp2
    go_loopw [21] (fun j wr => ∃ (i : Nat), i ≤ 64 ∧ j = .int .i64 i ∧ Row wr w3.heap.size 5 (bcells (turnedN kp y i)) ∧ Below w.heap.size w wr) (fun j _ => 64 - (intOf j).toNat)
    case atStart => exact ⟨0, by omega, rfl, R5.out, B5.out⟩
    case round =>
      obtain ⟨i, hi, rfl, hr, hb⟩ := hrel
      have RR := veil hr
      have BB := veil hb
      clear hr hb R5 B5
      by_cases hlt : i < 64
      · have c1 := RR.out.cell (i := i) (v := .int .u8 ((kp.getD i 0).toNat : Int)) (by simp [bcells, turnedN_get _ _ _ (show i < kp.length by rw [HKP.out]; exact hlt)])
        have f1 := RR.out.frozen i
        have lx := (kp.getD i 0).toNat_lt
        generalize hx : kp.getD i 0 = x at c1 lx
        have HX := veil hx
        clear hx
        go_wp2
        go_roundw
        case rel =>
          refine ⟨i + 1, by omega, by go_num, ?_, BB.out.setCell (by exact lw3) _⟩
          have h1 := RR.out.set i (.int .u8 ((x ^^^ y : UInt8).toNat : Int))
          rw [← xor_byte, HYI.out] at h1
          have e1 : (bcells (turnedN kp y i)).set i (.int .u8 (bits .xor .u8 (x.toNat : Int) yi)) = bcells (turnedN kp y (i + 1)) := by
            rw [← HYI.out, xor_byte, ← turnedN_succ _ _ _ (show i < kp.length by rw [HKP.out]; exact hlt), HX.out]
            simp [bcells, List.map_set]
          rw [e1] at h1
          exact h1
        case measure => simp [intOf]; omega
      · obtain rfl : i = 64 := by omega
        go_wp2
        go_ret
        refine ⟨_, rfl, ?_, BB.out⟩
        rw [HKE.out, ← turnedN_all _ _ HKP.out]
        have h1 := Own.made (n := 64) (cap := 64) (sz := 1) RR.out (Nat.le_refl _) (by rw [bcells_length, turnedN_length _ _ _ (by rw [HKP.out]; decide), HKP.out]) (by omega) w.heap.size lw3
        rw [List.take_of_length_le (by rw [bcells_length, turnedN_length _ _ _ (by rw [HKP.out]; decide), HKP.out]; decide)] at h1
        exact h1
  · go_upto_region 4 with (fail)
    have B3 := veil (Below.refl w.heap.size w)
    have lw3 := B3.out.size
    have HKE := veil (show keyBlock key y = (key ++ List.replicate (64 - key.length) 0).map (· ^^^ y) by unfold keyBlock; rw [if_neg (by rw [HKN.out]; exact hl)])
    have hkl2 : key.length ≤ 64 := by rw [HKN.out]; omega
    have HKL3 := veil HKN.out.symm
    obtain ⟨i5, hi5, hz5, hs5, hb5⟩ := info_u8
    have I5 := veil (And.intro hi5 (And.intro hz5 (And.intro hs5 hb5)))
    clear hi5 hz5 hs5 hb5
    go_upto_block 0 with (first
      | (with_reducible apply wpL_make (n := 64) (m := 64)
         go_must (
          · rfl
          · rfl
          · rfl
          · rfl
          · exact Tryd.underlying22
          · exact I5.out.1
          · exact I5.out.2.1
          · exact I5.out.2.2.1
          · exact I5.out.2.2.2
          · rfl
          · omega
          · omega
          · omega
          intro w4 hr4 hb4 hs4
          have R4 := veil hr4
          have B4 := veil hb4
          clear hr4 hb4))
      | (with_reducible apply wpL_copy
         go_must (
          · rfl
          · rfl
          · exact Tryd.underlying22
          · kernel_rfl
          · exact R4.out
          · omega
          · have h8 : (List.replicate 64 (Value.int IntKind.u8 0)).length = 64 := List.length_replicate
            omega
          · first
            | exact bcells_length _
            | (rw [bcells_length]; exact HKL3.out.symm)
          · exact (RdB.cells (HK.out.below B4.out)).2
          · exact bcells_one _
          intro w5 hr5 ho5)))
    have R5 := veil (show Row w5 w.heap.size 5 (bcells (turnedN (key ++ List.replicate (64 - key.length) 0) y 0)) from by
      have e1 : (List.replicate 64 (Value.int .u8 0)).take 0 ++ bcells key ++ (List.replicate 64 (Value.int .u8 0)).drop (0 + kn) = bcells (turnedN (key ++ List.replicate (64 - key.length) 0) y 0) := zeros_copied _ _ _ HKL3.out
      rw [← e1]; exact hr5)
    have B5 := veil (ho5.below (below_step B3.out lw3 B4.out) lw3)
    clear hr5 ho5 HK
    have hkp : (key ++ List.replicate (64 - key.length) 0).length = 64 := by simp; omega
    generalize hkpe : key ++ List.replicate (64 - key.length) 0 = kp at R5 HKE hkp
    have HKP := veil hkp
    clear hkpe hkp
    go_wp2
    go_loopw [21] (fun j wr => ∃ (i : Nat), i ≤ 64 ∧ j = .int .i64 i ∧ Row wr w.heap.size 5 (bcells (turnedN kp y i)) ∧ Below w.heap.size w wr) (fun j _ => 64 - (intOf j).toNat)
    case atStart => exact ⟨0, by omega, rfl, R5.out, B5.out⟩
    case round =>
      obtain ⟨i, hi, rfl, hr, hb⟩ := hrel
      have RR := veil hr
      have BB := veil hb
      clear hr hb R5 B5
      by_cases hlt : i < 64
      · have c1 := RR.out.cell (i := i) (v := .int .u8 ((kp.getD i 0).toNat : Int)) (by simp [bcells, turnedN_get _ _ _ (show i < kp.length by rw [HKP.out]; exact hlt)])
        have f1 := RR.out.frozen i
        have lx := (kp.getD i 0).toNat_lt
        generalize hx : kp.getD i 0 = x at c1 lx
        have HX := veil hx
        clear hx
        go_wp2
        go_roundw
        case rel =>
          refine ⟨i + 1, by omega, by go_num, ?_, BB.out.setCell (by exact lw3) _⟩
          have h1 := RR.out.set i (.int .u8 ((x ^^^ y : UInt8).toNat : Int))
          rw [← xor_byte, HYI.out] at h1
          have e1 : (bcells (turnedN kp y i)).set i (.int .u8 (bits .xor .u8 (x.toNat : Int) yi)) = bcells (turnedN kp y (i + 1)) := by
            rw [← HYI.out, xor_byte, ← turnedN_succ _ _ _ (show i < kp.length by rw [HKP.out]; exact hlt), HX.out]
            simp [bcells, List.map_set]
          rw [e1] at h1
          exact h1
        case measure => simp [intOf]; omega
      · obtain rfl : i = 64 := by omega
        go_wp2
        go_ret
        refine ⟨_, rfl, ?_, BB.out⟩
        rw [HKE.out, ← turnedN_all _ _ HKP.out]
        have h1 := Own.made (n := 64) (cap := 64) (sz := 1) RR.out (Nat.le_refl _) (by rw [bcells_length, turnedN_length _ _ _ (by rw [HKP.out]; decide), HKP.out]) (by omega) w.heap.size lw3
        rw [List.take_of_length_le (by rw [bcells_length, turnedN_length _ _ _ (by rw [HKP.out]; decide), HKP.out]; decide)] at h1
        exact h1
end Go.Proofs.YtojffibjjicddaaDoor
