/- Contract of hash.words. -/
import Derived.Test.YtojffibjjicddaaDoorHash0
import Derived.Test.YtojffibjjicddaaDoorReg
namespace Go.Proofs.YtojffibjjicddaaDoor
open Go.RowKit
theorem mixed : Tryd.prog.follows .mixedOrders = true := by kernel_rfl

def u32s (l : List Nat) : List Value := l.map fun x => Value.int .u32 (x : Nat)
theorem u32s_get (l : List Nat) (i : Nat) (h : i < l.length) : (u32s l)[i]? = some (.int .u32 (l.getD i 0 : Nat)) := by
  simp [u32s, h, List.getD_eq_getElem?_getD]
theorem words_rel {w wr : World} {B : Nat} {T : TypeId} {m : List UInt8} {k : Nat} {cs zs : List Value} {z : Value} (hr : Row wr (B + 1) T (u32s (wsN m k) ++ cs)) (hcs : cs.length = 64 - k) (hzz : cs = z :: zs)
    (hz : ∃ zs, zs.length = 64 ∧ Row wr B T zs) (hlt : k < 64) (hb : Below B w wr) (nq : Nat) (x : Nat) (hx : x = nextW m k (wsN m k)) :
    ∃ (k_1 : Nat) (cs : List Value), k_1 ≤ 64 ∧ Value.int IntKind.i64 (↑k + 1) = Value.int IntKind.i64 ↑k_1 ∧ Row ((wr.drewN nq).setCell ⟨B + 1, k, none⟩ (.int .u32 (x : Int))) (B + 1) T (u32s (wsN m k_1) ++ cs) ∧ cs.length = 64 - k_1 ∧
      (∃ zs, zs.length = 64 ∧ Row ((wr.drewN nq).setCell ⟨B + 1, k, none⟩ (.int .u32 (x : Int))) B T zs) ∧ Below B w ((wr.drewN nq).setCell ⟨B + 1, k, none⟩ (.int .u32 (x : Int))) := by
  subst hzz
  obtain ⟨zz, hz1, hz2⟩ := hz
  refine ⟨k + 1, zs, by omega, by go_num, ?_, by simp at hcs; omega, ⟨zz, hz1, (hz2.drewN nq).other _ _ (by simp)⟩, (below_drewN hb nq).setCell (by simp) _⟩
  have := (hr.drewN nq).set k (.int .u32 (x : Int))
  have e : (u32s (wsN m k) ++ z :: zs).set k (.int .u32 (x : Int)) = u32s (wsN m (k + 1)) ++ zs := by
    rw [List.set_append_right _ _ (by simp [u32s, wsN_length])]
    simp [u32s, wsN_length, wsN, hx]
  rw [e] at this
  exact this
theorem not32 (e : Nat) (he : e < 4294967296) : 4294967295 ^^^ e = 4294967295 - e := by
  have h1 : (BitVec.allOnes 32 ^^^ BitVec.ofNat 32 e).toNat = (~~~ BitVec.ofNat 32 e).toNat := by rw [BitVec.allOnes_xor]
  rw [BitVec.toNat_xor, BitVec.toNat_not] at h1
  simpa [Nat.mod_eq_of_lt he] using h1
theorem Sg1_eq (e : Nat) (he : e < 4294967296) : bits .xor .u32 (bits .xor .u32 (rotr e 6 : Nat) (rotr e 11 : Nat)) (rotr e 25 : Nat) = ((Sg1 e : Nat) : Int) := by
  rw [xor_u32 _ _ (rotr_lt _ _ he) (rotr_lt _ _ he), xor_u32 _ _ (Nat.xor_lt_two_pow (n := 32) (rotr_lt _ _ he) (rotr_lt _ _ he)) (rotr_lt _ _ he)]; rfl
theorem Sg0_eq (e : Nat) (he : e < 4294967296) : bits .xor .u32 (bits .xor .u32 (rotr e 2 : Nat) (rotr e 13 : Nat)) (rotr e 22 : Nat) = ((Sg0 e : Nat) : Int) := by
  rw [xor_u32 _ _ (rotr_lt _ _ he) (rotr_lt _ _ he), xor_u32 _ _ (Nat.xor_lt_two_pow (n := 32) (rotr_lt _ _ he) (rotr_lt _ _ he)) (rotr_lt _ _ he)]; rfl
theorem and_lt (a b : Nat) (hb : b < 4294967296) : a &&& b < 4294967296 := Nat.lt_of_le_of_lt Nat.and_le_right hb
theorem chf_eq (e f g : Nat) (he : e < 4294967296) (hf : f < 4294967296) (hg : g < 4294967296) :
    bits .xor .u32 (bits .and .u32 e f) (bits .and .u32 (bits .xor .u32 (if IntKind.u32.signed = true then -1 else IntKind.u32.max) e) g) = ((chf e f g : Nat) : Int) := by
  rw [show (if IntKind.u32.signed = true then (-1 : Int) else IntKind.u32.max) = ((4294967295 : Nat) : Int) from rfl, xor_u32 _ _ (by decide) he, not32 e he, and_u32 _ _ he hf, and_u32 _ _ (by omega) hg,
    xor_u32 _ _ (and_lt _ _ hf) (and_lt _ _ hg)]; rfl
theorem maf_eq (a b c : Nat) (ha : a < 4294967296) (hb : b < 4294967296) (hc : c < 4294967296) :
    bits .xor .u32 (bits .xor .u32 (bits .and .u32 a b) (bits .and .u32 a c)) (bits .and .u32 b c) = ((maf a b c : Nat) : Int) := by
  rw [and_u32 _ _ ha hb, and_u32 _ _ ha hc, and_u32 _ _ hb hc, xor_u32 _ _ (and_lt _ _ hb) (and_lt _ _ hc), xor_u32 _ _ (Nat.xor_lt_two_pow (n := 32) (and_lt _ _ hb) (and_lt _ _ hc)) (and_lt _ _ hc)]; rfl
theorem rX_eq (v : V8) (hv : v.ok) (k w : Nat) :
    (((v.h : Int) + bits .xor .u32 (bits .xor .u32 (rotr v.e 6 : Nat) (rotr v.e 11 : Nat)) (rotr v.e 25 : Nat) + bits .xor .u32 (bits .and .u32 v.e v.f) (bits .and .u32 (bits .xor .u32 (if IntKind.u32.signed = true then -1 else IntKind.u32.max) v.e) v.g) + (k : Int)) % 4294967296 + (w : Int)) % 4294967296 = ((rX v k w : Nat) : Int) := by
  obtain ⟨h1, h2, h3, h4, h5, h6, h7, h8⟩ := hv
  rw [Sg1_eq _ h5, chf_eq _ _ _ h5 h6 h7]
  unfold rX
  omega
theorem rY_eq (v : V8) (hv : v.ok) : (bits .xor .u32 (bits .xor .u32 (rotr v.a 2 : Nat) (rotr v.a 13 : Nat)) (rotr v.a 22 : Nat) + bits .xor .u32 (bits .xor .u32 (bits .and .u32 v.a v.b) (bits .and .u32 v.a v.c)) (bits .and .u32 v.b v.c)) % 4294967296 = ((rY v : Nat) : Int) := by
  obtain ⟨h1, h2, h3, h4, h5, h6, h7, h8⟩ := hv
  rw [Sg0_eq _ h1, maf_eq _ _ _ h1 h2 h3]
  unfold rY
  omega
set_option maxRecDepth 100000 in
set_option maxHeartbeats 1000000 in
theorem words_any (w : World) (m : List UInt8) (b off n c : Nat) (hn : 64 ≤ n) (hn2 : n ≤ 1000) (h : ∀ i : Nat, i < 64 → w.cell? ⟨b, off + i, none⟩ = some (.int .u8 ((m.getD i 0).toNat : Int))) :
    Calls Tryd.prog 59 #[.slice (some ⟨b, off, none⟩) n c] w fun e w' => e = .returned (.agg (u32s (wsN m 64)).toArray) ∧ Below w.heap.size w w' := by
  have hb0 := block_lt_of_cell (h 0 (by omega))
  simp only at hb0
  go_enter Tryd.func59, Tryd.ntmps59
  go_wp2
  go_loopw [9] (fun j wr => ∃ (k : Nat) (cs : List Value), k ≤ 64 ∧ j = .int .i64 k ∧ Row wr (w.heap.size + 1) 123 (u32s (wsN m k) ++ cs) ∧ cs.length = 64 - k ∧ (∃ zs, zs.length = 64 ∧ Row wr w.heap.size 123 zs) ∧ Below w.heap.size w wr) (fun j _ => 64 - (intOf j).toNat)
  case atStart =>
    refine ⟨0, List.replicate 64 (Value.int .u32 0), by omega, rfl, ?_, rfl, ⟨List.replicate 64 (Value.int .u32 0), rfl, ?_⟩, ?_⟩
    · exact Row.newAt 123 (List.replicate 64 (Value.int .u32 0)) (by simp)
    · exact (Row.new w 123 (List.replicate 64 (Value.int .u32 0))).alloc _
    · exact ((Below.refl _ _).alloc (Nat.le_refl _) _).alloc (by simp) _
  case round =>
    obtain ⟨k, cs, hk, rfl, hr, hcs, hz, hbel⟩ := hrel
    by_cases hlt : k < 64
    · by_cases h16 : k < 16
      · have hw := fun (i : Nat) (hi : i < 64) => (hbel.cell (p := ⟨b, off + i, none⟩) hb0).trans (h i hi)
        have g0 := hw (4 * k) (by omega)
        have g1 := hw (4 * k + 1) (by omega)
        have g2 := hw (4 * k + 2) (by omega)
        have g3 := hw (4 * k + 3) (by omega)
        clear hw h
        have l0 := (m.getD (4 * k) 0).toNat_lt
        have l1 := (m.getD (4 * k + 1) 0).toNat_lt
        have l2 := (m.getD (4 * k + 2) 0).toNat_lt
        have l3 := (m.getD (4 * k + 3) 0).toNat_lt
        generalize hx0 : (m.getD (4 * k) 0).toNat = x0 at g0 l0
        generalize hx1 : (m.getD (4 * k + 1) 0).toNat = x1 at g1 l1
        generalize hx2 : (m.getD (4 * k + 2) 0).toNat = x2 at g2 l2
        generalize hx3 : (m.getD (4 * k + 3) 0).toNat = x3 at g3 l3
        have X0 := veil hx0; clear hx0
        have X1 := veil hx1; clear hx1
        have X2 := veil hx2; clear hx2
        have X3 := veil hx3; clear hx3
        have b0 : 4 * (k : Int) < n := by omega
        have b1 : 4 * (k : Int) + 1 < n := by omega
        have b2 : 4 * (k : Int) + 2 < n := by omega
        have b3 : 4 * (k : Int) + 3 < n := by omega
        have HR := veil hr
        clear hr
        have HCS := veil hcs
        clear hcs
        have HZ := veil hz
        have HBEL := veil hbel
        clear hz hbel
        go_wp2
        have f1 := HR.out.frozen k
        obtain ⟨z, zs, hzz⟩ : ∃ z zs, cs = z :: zs := by cases cs with | nil => (exfalso; have := HCS.out; simp at this; omega) | cons z zs => exact ⟨z, zs, rfl⟩
        have c1 := HR.out.cell (i := k) (v := z) (by rw [hzz, List.getElem?_append_right (by simp [u32s, wsN_length])]; simp [u32s, wsN_length])
        have HZZ := veil hzz; clear hzz
        refine wp_region_qtd 34 mixed (by kernel_rfl) ?_
        simp only [List.take_succ_cons, List.take_zero, List.drop_succ_cons, List.drop_zero]
        repeat (go_big_quiet_step (fail))
        refine wpQuiet_nil ?_
        intro _ hw'
        obtain ⟨nq, hw''⟩ := hw'
        subst hw''
        go_wp2
        go_roundw
        case rel =>
          have e4 := or4_u32 x0 x1 x2 x3 l0 l1 l2 l3
          rw [e4]
          exact words_rel HR.out HCS.out HZZ.out HZ.out hlt HBEL.out nq _ (by simp only [nextW, if_pos h16, be32]; rw [X0.out, X1.out, X2.out, X3.out])
        case measure => simp [intOf]; omega
      · have hkk : 16 ≤ k := by omega
        have hlen := wsN_length m k
        have HR := veil hr
        clear hr
        have c15 := HR.out.cell (i := k - 15) (by rw [List.getElem?_append_left (by simp [u32s, hlen]; omega)]; exact u32s_get _ _ (by omega))
        have c2 := HR.out.cell (i := k - 2) (by rw [List.getElem?_append_left (by simp [u32s, hlen]; omega)]; exact u32s_get _ _ (by omega))
        have c16 := HR.out.cell (i := k - 16) (by rw [List.getElem?_append_left (by simp [u32s, hlen]; omega)]; exact u32s_get _ _ (by omega))
        have c7 := HR.out.cell (i := k - 7) (by rw [List.getElem?_append_left (by simp [u32s, hlen]; omega)]; exact u32s_get _ _ (by omega))
        have l15 := getD_lt (wsN_lt m k) (k - 15)
        have l2 := getD_lt (wsN_lt m k) (k - 2)
        have l16 := getD_lt (wsN_lt m k) (k - 16)
        have l7 := getD_lt (wsN_lt m k) (k - 7)
        generalize hx15 : (wsN m k).getD (k - 15) 0 = x15 at c15 l15
        generalize hx2 : (wsN m k).getD (k - 2) 0 = x2 at c2 l2
        generalize hx16 : (wsN m k).getD (k - 16) 0 = x16 at c16 l16
        generalize hx7 : (wsN m k).getD (k - 7) 0 = x7 at c7 l7
        have X15 := veil hx15; clear hx15
        have X2 := veil hx2; clear hx2
        have X16 := veil hx16; clear hx16
        have X7 := veil hx7; clear hx7
        have HCS := veil hcs
        clear hcs
        have HZ := veil hz
        have HBEL := veil hbel
        clear hz hbel hlen h
        have b15 : 0 ≤ (k : Int) - 15 := by omega
        have b16 : 0 ≤ (k : Int) - 16 := by omega
        have hB := HR.out.lt
        have f1 := HR.out.frozen k
        obtain ⟨z, zs, hzz⟩ : ∃ z zs, cs = z :: zs := by cases cs with | nil => (exfalso; have := HCS.out; simp at this; omega) | cons z zs => exact ⟨z, zs, rfl⟩
        have c1 := HR.out.cell (i := k) (v := z) (by rw [hzz, List.getElem?_append_right (by simp [u32s, wsN_length])]; simp [u32s, wsN_length])
        have HZZ := veil hzz; clear hzz
        go_wp2
        go_quiet (fail)
        go_wp2_with (go_at_call 60; refine (turn_i _ _ (by omega) (by omega) (by omega) _).mono ?_; rintro e w' ⟨rfl, nq2, rfl⟩)
        have e0 : bits .xor .u32 (bits .xor .u32 (rotr x15 7 : Nat) (rotr x15 18 : Nat)) ((x15 : Int) / 8) = ((sg0 x15 : Nat) : Int) := by
          rw [xor_u32 _ _ (rotr_lt _ _ l15) (rotr_lt _ _ l15), shr3]
          exact xor_u32 _ _ (Nat.xor_lt_two_pow (n := 32) (rotr_lt _ _ l15) (rotr_lt _ _ l15)) (by rw [Nat.shiftRight_eq_div_pow]; omega)
        have e1 : bits .xor .u32 (bits .xor .u32 (rotr x2 17 : Nat) (rotr x2 19 : Nat)) ((x2 : Int) / 1024) = ((sg1 x2 : Nat) : Int) := by
          rw [xor_u32 _ _ (rotr_lt _ _ l2) (rotr_lt _ _ l2), shr10]
          exact xor_u32 _ _ (Nat.xor_lt_two_pow (n := 32) (rotr_lt _ _ l2) (rotr_lt _ _ l2)) (by rw [Nat.shiftRight_eq_div_pow]; omega)
        rw [e0, e1]
        clear e0 e1
        have ls0 := sg0_lt x15 l15
        have ls1 := sg1_lt x2 l2
        generalize hs0 : sg0 x15 = s0 at ls0 ⊢
        generalize hs1 : sg1 x2 = s1 at ls1 ⊢
        have S0 := veil hs0; clear hs0
        have S1 := veil hs1; clear hs1
        refine wp_region_qtd 14 mixed (by kernel_rfl) ?_
        simp only [List.take_succ_cons, List.take_zero, List.drop_succ_cons, List.drop_zero]
        repeat (go_big_quiet_step (fail))
        refine wpQuiet_nil ?_
        intro _ hw'
        obtain ⟨nq, hw''⟩ := hw'
        subst hw''
        go_wp2
        go_roundw
        case rel =>
          exact words_rel HR.out HCS.out HZZ.out HZ.out hlt HBEL.out _ ((x16 + s0 + x7 + s1) % 4294967296) (by simp only [nextW, if_neg h16]; rw [X15.out, X2.out, X16.out, X7.out, S0.out, S1.out])
        case measure => simp [intOf]; omega
    · obtain rfl : k = 64 := by omega
      obtain rfl : cs = [] := List.eq_nil_of_length_eq_zero (by omega)
      rw [List.append_nil] at hr
      obtain ⟨zs, hz1, hz2⟩ := hz
      have HR := veil hr
      have HZ := veil hz2
      have HZ1 := veil hz1
      clear hr hz1 hz2 h hcs
      go_wp2_with (first
        | (with_reducible refine wpList_load_at rfl _ _ rfl _ _ rfl (u32s (wsN m 64)) _ (fun j v hv => by rw [Nat.zero_add]; exact HR.out.cell hv) Tryd.underlying123 rfl (by simp only [u32s, List.length_map, wsN_length]; kernel_rfl) ?_)
        | (with_reducible refine wpList_store_at rfl _ _ _ rfl _ _ rfl _ zs HZ.out (u32s (wsN m 64)) rfl (by simp [u32s, wsN_length, HZ1.out]) (by simp [u32s, Value.oneCell']) (by simp only [u32s, List.length_map, wsN_length]; kernel_rfl) ?_; intro w2 hr2 ho2))
      rw [List.take_zero, List.nil_append, show 0 + (u32s (wsN m 64)).length = zs.length by simp [u32s, wsN_length, HZ1.out], List.drop_length, List.append_nil] at hr2
      exact bodyPost_ret (results_cell_row rfl _ _ _ _ _ _ _ rfl hr2 Tryd.underlying123 rfl (by simp only [u32s, List.size_toArray, List.length_map, wsN_length]; kernel_rfl)) rfl ⟨rfl, ho2.below hbel (Nat.le_refl _)⟩
end Go.Proofs.YtojffibjjicddaaDoor
