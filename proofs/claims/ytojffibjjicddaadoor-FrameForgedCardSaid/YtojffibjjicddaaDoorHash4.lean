/- Contract of hash.Sum.Add. -/
import Derived.Test.YtojffibjjicddaaDoorHash3
import Derived.Test.YtojffibjjicddaaDoorOwn
import Derived.Deep.LoopGhost
namespace Go.Proofs.YtojffibjjicddaaDoor
open Go.RowKit
theorem info_u8 : ∃ i, Tryd.prog.info? 5 = some i ∧ i.zero = some (.int .u8 0) ∧ i.size = 1 ∧ i.bytes = 1 := by
  obtain ⟨i, h1, h2, h3, h4⟩ := info_parts (show (Tryd.prog.info? 5).map (fun i => (i.zero, i.size, i.bytes)) = some (some (.int .u8 0), 1, 1) by kernel_rfl)
  exact ⟨i, h1, h2, h3, h4⟩
/-- A slice of slices of bytes; all lies outside X. -/
def Parts (w : World) (X : Nat → Prop) (pv : Value) (ps : List (List UInt8)) : Prop :=
  ∃ A c, pv = .slice A ps.length c ∧ (0 < ps.length → ∃ g off, A = some ⟨g, off, none⟩ ∧ ¬ X g ∧ ∀ j, j < ps.length → ∃ u, w.cell? ⟨g, off + j, none⟩ = some u ∧ RdB w u (ps.getD j []) ∧ (∀ b, blockOf u = some b → ¬ X b))
/-- A sum behind a pointer to block S: its state, what is left over, how much came; v: the slice of what is left over. -/
structure SumSt (w : World) (S : Nat) (h : V8) (rest : List UInt8) (n : Nat) (v : Value) : Prop where
  row : Row w S 118 (u32s h.l ++ [v, .int .u64 (n : Int)])
  own : Own w 0 5 1 v rest.length (bcells rest)
  ne : blockOf v ≠ some S
structure AddPost (w w' : World) (S : Nat) (X : Nat → Prop) (st : V8 × List UInt8) (n : Nat) (v : Value) : Prop where
  st : SumSt w' S st.1 st.2 n v
  but : But X w w'
  blk : ∀ k, blockOf v = some k → X k ∨ w.heap.size ≤ k
def AddDone (w w' : World) (S : Nat) (X : Nat → Prop) (st : V8 × List UInt8) (n : Nat) : Prop := ∃ v, AddPost w w' S X st n v

theorem sl64 {A : Option Addr} {L c : Nat} (h : c = 64) : sliced A 64 L c 1 = .slice A (L - 64) 0 := by subst h; rfl
theorem flatten_le (ps : List (List UInt8)) (B : Nat) (h : ∀ p ∈ ps, p.length ≤ B) : ps.flatten.length ≤ ps.length * B := by
  induction ps with
  | nil => simp
  | cons p ps ih =>
    have h1 := ih (fun q hq => h q (by simp [hq]))
    have h2 := h p (by simp)
    simp only [List.flatten_cons, List.length_append, List.length_cons, Nat.add_mul]
    omega
theorem add_round {w wx w4 : World} {S : Nat} {X : Nat → Prop} {hx : V8} {tx : List UInt8} {nk g2 o2 L5 c5 : Nat} (P5 : AddPost w wx S X (hx, tx) nk (.slice (some ⟨g2, o2, none⟩) L5 c5)) (hL : tx.length = L5) (h64 : 64 ≤ L5)
    (R6 : Row w4 S 118 (u32s (blk hx (tx.take 64)).l ++ [.slice (some ⟨g2, o2, none⟩) L5 c5, .int .u64 (nk : Int)])) (B6 : But (fun k => k = S) wx w4) (v6 : Value) (hv : sliced (some ⟨g2, o2, none⟩) 64 L5 c5 1 = v6) (hX : X S) :
    AddPost w (w4.setCell ⟨S, 8, none⟩ v6) S X (blk hx (tx.take 64), tx.drop 64) nk v6 := by
  subst hL
  obtain ⟨⟨p1, p2, p3⟩, p4, p5⟩ := P5
  simp only at p1 p2
  have hd := p2.drop 64 h64 (by omega)
  rw [hv] at hd
  obtain ⟨hd1, hd2⟩ := hd
  have hne : blockOf v6 ≠ some S := by rw [hd2]; exact p3
  refine ⟨⟨R6.set 8 v6, ?_, hne⟩, ?_, fun k hk => p5 k (by rw [← hd2]; exact hk)⟩
  · have h1 := hd1.keep (B6.only (Only.setCell w4 ⟨S, 8, none⟩ v6) (.inl rfl)) (fun g hg e => hne (by rw [hg, e]))
    simp only [List.length_drop]
    have e2 : bcells (tx.drop 64) = (bcells tx).drop (64 * 1) := by simp [bcells]
    rw [e2]
    exact h1
  · exact (p4.own B6 (fun i hi => .inl (by rw [hi]; exact hX))).only (Only.setCell w4 ⟨S, 8, none⟩ v6) (.inl hX)
set_option maxRecDepth 100000 in
set_option maxHeartbeats 1000000 in
theorem add_any (w : World) (S : Nat) (h : V8) (hh : h.ok) (rest : List UInt8) (hr : rest.length < 64) (v : Value) (n : Nat) (hn : n < 4611686018427387904) (hs : SumSt w S h rest n v) (X : Nat → Prop) (hX : ∀ k, X k ↔ k = S ∨ blockOf v = some k)
    (pv : Value) (ps : List (List UInt8)) (hps : Parts w X pv ps) (hlen : ∀ p ∈ ps, p.length ≤ 1048576) (hpn : ps.length ≤ 1000) :
    Calls Tryd.prog 47 #[.pointer (some ⟨S, 0, none⟩), pv] w fun e w' => e = .returned (.pointer (some ⟨S, 0, none⟩)) ∧ AddDone w w' S X (ps.foldl addP (h, rest)) (n + ps.flatten.length) := by
  obtain ⟨A, c, rfl, hcell⟩ := hps
  have HC := veil hcell
  have HS := veil hs
  have HX := veil hX
  have HL := veil hlen
  generalize hL : ps.length = L at hpn HC ⊢
  have HLN := veil hL
  clear hcell hs hX hlen hL
  go_enter Tryd.func47, Tryd.ntmps47
  go_upto_block 0 with (fail)
  go_wp2
  go_loopw [9] (fun j wr => ∃ (k : Nat), k ≤ L ∧ j = .int .i64 k ∧ AddDone w wr S X ((ps.take k).foldl addP (h, rest)) (n + (ps.take k).flatten.length)) (fun j _ => L - (intOf j).toNat)
  case atStart => exact ⟨0, by omega, rfl, v, HS.out, But.refl _ _, fun k hk => .inl ((HX.out k).2 (.inr hk))⟩
  case round =>
    obtain ⟨k, hk, rfl, v', hpost⟩ := hrel
    have HP := veil hpost
    clear hpost
    by_cases hlt : k < L
    · obtain ⟨g, off, rfl, hgX, hc0⟩ := HC.out (by omega)
      obtain ⟨u, hu, hur, hub⟩ := hc0 k hlt
      have cu : wr.cell? ⟨g, off + k, none⟩ = some u := HP.out.but.cell hu hgX
      have RU := veil (hur.keep HP.out.but hub)
      have UB := veil hub
      clear hc0 hu hur hub
      generalize hp : ps.getD k [] = p at RU
      have HPK := veil hp
      clear hp
      obtain ⟨A1, c1, rfl, hu1⟩ := RU.out
      clear hu1
      have hpl : p.length ≤ 1048576 := by rw [← HPK.out, List.getD_eq_getElem?_getD, List.getElem?_eq_getElem (by rw [HLN.out]; exact hlt)]; exact HL.out _ (List.getElem_mem _)
      have hst := addPs_ok (ps.take k) (h, rest) hh hr
      have hnk : (ps.take k).flatten.length ≤ 1048576 * 1000 := by
        have h1 := flatten_le (ps.take k) 1048576 (fun p hp => HL.out p (List.mem_of_mem_take hp))
        have h2 : (ps.take k).length ≤ 1000 := by rw [List.length_take]; omega
        exact Nat.le_trans h1 (by rw [Nat.mul_comm]; exact Nat.mul_le_mul_left _ h2)
      have HF := veil (show (ps.take (k + 1)).foldl addP (h, rest) = addP ((ps.take k).foldl addP (h, rest)) p by
        rw [List.take_succ_eq_append_getElem (by rw [HLN.out]; exact hlt), List.foldl_append, ← HPK.out, List.getD_eq_getElem?_getD, List.getElem?_eq_getElem (by rw [HLN.out]; exact hlt)]; rfl)
      have HF2 := veil (show (ps.take (k + 1)).flatten.length = (ps.take k).flatten.length + p.length by
        rw [List.take_succ_eq_append_getElem (by rw [HLN.out]; exact hlt), List.flatten_append, List.length_append, ← HPK.out, List.getD_eq_getElem?_getD, List.getElem?_eq_getElem (by rw [HLN.out]; exact hlt)]; simp)
      generalize (ps.take k).foldl addP (h, rest) = st at HP hst HF
      obtain ⟨hk', rk⟩ := st
      obtain ⟨hk1, hk2⟩ := hst
      simp only at hk1 hk2
      have HR := veil HP.out.st.row
      have HO := veil HP.out.st.own
      have HNE := veil HP.out.st.ne
      have HBUT := veil HP.out.but
      have HBLK := veil HP.out.blk
      clear HP
      generalize hnn : n + (ps.take k).flatten.length = nk at HR
      have HNN := veil hnn
      have hnk2 : nk < 4611686018427387904 + 1048576000 := by omega
      clear hnn hnk hn hk
      simp only at HR HO
      obtain ⟨A2, c2, rfl⟩ := HO.out.slice
      have c8 := HR.out.cell (i := 8) rfl
      have c9 := HR.out.cell (i := 9) rfl
      have f8 := HR.out.frozen 8
      have f9 := HR.out.frozen 9
      generalize hrk : rk.length = rl at HR HO HNE HBLK hk2 c8
      have HRK := veil hrk
      clear hrk
      go_upto_region 5 with (fail)
      have HR1 := veil (show Row (wr.setCell ⟨S, 9, none⟩ (.int .u64 ((nk : Int) + (p.length : Int)))) S 118 (u32s hk'.l ++ [.slice A2 rl c2, .int .u64 ((nk + p.length : Nat) : Int)]) from HR.out.set 9 _)
      have O1 := Only.setCell wr ⟨S, 9, none⟩ (.int .u64 ((nk : Int) + (p.length : Int)))
      have BU1 : But (fun i => i = S) wr (wr.setCell ⟨S, 9, none⟩ (.int .u64 ((nk : Int) + (p.length : Int)))) := (But.refl _ wr).only O1 (.inl rfl)
      have HO1 := veil (HO.out.keep BU1 (fun g hg e => HNE.out (by rw [hg, e])))
      have RU1 := veil (RU.out.keep BU1 (fun g hg e => UB.out g hg ((HX.out g).2 (.inl e))))
      have BUX := veil (HBUT.out.only O1 (.inl ((HX.out S).2 (.inl rfl))))
      have d8 := HR1.out.cell (i := 8) rfl
      have hsz1 := veil O1.size
      clear c8 c9 f8 f9 BU1 O1
      generalize hW1 : wr.setCell ⟨S, 9, none⟩ (.int .u64 ((nk : Int) + (p.length : Int))) = W1 at HR1 HO1 RU1 BUX d8 hsz1 ⊢
      clear hW1
      obtain ⟨i5, hi5, hz5, hs5, hb5⟩ := info_u8
      have I5 := veil (And.intro hi5 (And.intro hz5 (And.intro hs5 hb5)))
      clear hi5 hz5 hs5 hb5
      go_upto_block 2 with (first
        | (at_builtin
           with_reducible apply wpL_append
           go_must (
            · rfl
            · rfl
            · exact Tryd.underlying22
            · exact I5.out.1
            · exact I5.out.2.1
            · exact I5.out.2.2.1
            · exact I5.out.2.2.2
            · rfl
            · exact HO1.out
            · exact RU1.out.src Tryd.underlying22
            · omega
            · omega
            · exact Nat.zero_le _
            intro v2 w2 ho2 hbu2 hbk2 _
            have HR2 := veil (hbu2.row HR1.out HNE.out)
            have e8 := HR2.out.cell (i := 8) rfl
            have g8 := HR2.out.frozen 8
            obtain ⟨A3, c3, rfl⟩ := ho2.slice
            have HO2 := veil ho2
            have HBU2 := veil hbu2
            have HBK2 := veil hbk2
            clear d8 ho2 hbu2 hbk2)))
      have htl : rl + p.length = (rk ++ p).length := by rw [List.length_append, HRK.out]
      have S3 : AddPost w (w2.setCell ⟨S, 8, none⟩ (.slice A3 (rl + p.length) c3)) S X (blks hk' (rk ++ p) 0, (rk ++ p).drop (64 * 0)) (nk + p.length) (.slice A3 (rl + p.length) c3) := by
        have hSW : S < W1.heap.size := HR1.out.lt
        have hne : blockOf (.slice A3 (rl + p.length) c3) ≠ some S := fun e => by
          rcases HBK2.out S e with h1 | h1
          · exact HNE.out h1
          · omega
        refine ⟨⟨HR2.out.set 8 _, ?_, hne⟩, ?_, ?_⟩
        · have h1 := HO2.out.keep ((But.refl (fun i => i = S) w2).only (Only.setCell w2 ⟨S, 8, none⟩ (.slice A3 (rl + p.length) c3)) (.inl rfl)) (fun g hg e => hne (by rw [hg, e]))
          rw [Nat.mul_zero, List.drop_zero, bcells_append, ← htl]
          exact h1
        · exact (BUX.out.own HBU2.out (fun i hi => HBLK.out i hi)).only (Only.setCell w2 ⟨S, 8, none⟩ _) (.inl ((HX.out S).2 (.inl rfl)))
        · intro g hg
          rcases HBK2.out g hg with h1 | h1
          · exact HBLK.out g h1
          · exact .inr (Nat.le_trans BUX.out.size h1)
      have HS3 := veil S3
      clear S3 e8 g8 htl
      generalize w2.setCell ⟨S, 8, none⟩ (.slice A3 (rl + p.length) c3) = W3 at HS3 ⊢
      have htb : (rk ++ p).length ≤ 1048640 := by rw [List.length_append, HRK.out]; omega
      generalize ht : rk ++ p = t at HS3 htb
      have HT := veil ht
      clear ht
      go_wp2
      go_loopg [32] (t.length / 64) (fun gk _ wx => ∃ (i : Nat), gk + i = t.length / 64 ∧ ∃ v, AddPost w wx S X (blks hk' t i, t.drop (64 * i)) (nk + p.length) v)
      case atStart => exact ⟨0, by omega, _, HS3.out⟩
      case round =>
        obtain ⟨i, hgi, v5, hp5⟩ := hrel
        have P5 := veil hp5
        clear hp5
        obtain ⟨A5, c5, rfl⟩ := P5.out.st.own.slice
        have R5 := veil P5.out.st.row
        have O5 := veil P5.out.st.own
        have c8 := R5.out.cell (i := 8) rfl
        have f8 := R5.out.frozen 8
        have hl5 : (t.drop (64 * i)).length = t.length - 64 * i := List.length_drop
        generalize hL5 : (t.drop (64 * i)).length = L5 at c8 R5 O5 P5 hl5
        have HL5 := veil hL5
        have HL6 := veil hl5
        have hb6 : L5 + 64 * i = t.length ∨ L5 = 0 := by omega
        clear hL5 hl5
        by_cases h64 : 64 ≤ L5
        · obtain ⟨g2, o2, hA5, _, hcell5⟩ := O5.out.cell (by omega)
          subst hA5
          have hcap := O5.out.le.1
          have hcap2 : 64 ≤ c5 := by omega
          have HNE5 := veil P5.out.st.ne
          have hne5 : g2 ≠ S := fun e => HNE5.out (by rw [e]; rfl)
          have M5 := veil (show ∀ j : Nat, j < 64 → wr.cell? ⟨g2, o2 + j, none⟩ = some (.int .u8 ((((t.drop (64 * i)).take 64).getD j 0).toNat : Int)) from fun j hj => by
            have h1 := (hcell5 j _ (bcells_at (by rw [HL5.out]; omega))).1
            rw [h1]
            simp [List.getD_eq_getElem?_getD, hj])
          clear hcell5
          go_wp2_with (first
            | (go_at_call 55
               go_must (
                refine (block_any _ (blks hk' t i) (blks_ok hk1 t i) S _ _ R5.out ((t.drop (64 * i)).take 64) g2 o2 64 c5 (Nat.le_refl _) (by decide) hne5 M5.out).mono ?_
                rintro e w4 ⟨rfl, hr4, hb4⟩
                have d8 := hr4.cell (i := 8) rfl
                have g8 := hr4.frozen 8
                have R6 := veil hr4
                have B6 := veil hb4
                clear hr4 hb4 c8 f8)))
          all_goals
            go_roundg (gk - 1)
            case measure => omega
            case rel =>
              first
                | (refine ⟨i + 1, by omega, .slice (some ⟨g2, o2 + 64, none⟩) (L5 - 64) (c5 - 64), ?_⟩
                   have h1 := add_round P5.out HL5.out h64 R6.out B6.out (.slice (some ⟨g2, o2 + 64, none⟩) (L5 - 64) (c5 - 64)) (by unfold sliced; rw [if_neg (by assumption)]; rfl) ((HX.out S).2 (.inl rfl))
                   rw [List.drop_drop] at h1
                   exact h1)
                | (refine ⟨i + 1, by omega, .slice (some ⟨g2, o2, none⟩) (L5 - 64) 0, ?_⟩
                   have h1 := add_round P5.out HL5.out h64 R6.out B6.out (.slice (some ⟨g2, o2, none⟩) (L5 - 64) 0) (sl64 (by omega)) ((HX.out S).2 (.inl rfl))
                   rw [List.drop_drop] at h1
                   exact h1)
        · have hi6 : i = t.length / 64 := by have := HL6.out; omega
          subst hi6
          go_wp2
          go_roundw
          case rel =>
            refine ⟨k + 1, by omega, by go_num, .slice A5 L5 c5, ?_⟩
            rw [HF.out, HF2.out]
            have e1 : addP (hk', rk) p = (blks hk' t (t.length / 64), t.drop (64 * (t.length / 64))) := by
              show (absH hk' (rk ++ p), absR (rk ++ p)) = _
              rw [HT.out]; rfl
            rw [e1, ← Nat.add_assoc, HNN.out]
            exact P5.out
          case measure => simp [intOf]; omega
    · obtain rfl : k = L := by omega
      have HP' := veil HP.out
      go_wp2
      go_ret
      refine ⟨rfl, v', ?_⟩
      have h1 := HP'.out
      rw [← HLN.out, List.take_length] at h1
      exact h1
end Go.Proofs.YtojffibjjicddaaDoor
