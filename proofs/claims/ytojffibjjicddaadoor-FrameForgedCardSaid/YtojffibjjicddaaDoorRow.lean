/- What every row of this seat needs: the listed variable's cell, a world for the witness, arguments opened, the answer 'true' closed. -/
import Derived.Test.YtojffibjjicddaaDoorFrameC
import Derived.Test.YtojffibjjicddaaDoorCards
import Derived.Test.YtojffibjjicddaaDoorTie
import Derived.ProofKit
import Derived.OpenShut
import Derived.Carry
import Derived.Deep.DeepHandedRow
import Derived.ChangeSame
import Derived.ReadAgain
import Derived.LaidHandle
import Derived.Stop.Joined
namespace Go.Proofs.YtojffibjjicddaaDoor
open Go.ChangeShapes Go.WideShapes Go.ChangeAt Go.RowKit

theorem own : ownKnob Tryd.prog.godebug = none := by kernel_rfl
theorem hEt : Tryd.prog.globalNamed "errors.errorType" = some 0 := by kernel_rfl
theorem hRt : (Tryd.prog.cutTypes.find? (·.1 == "internal/reflectlite.rtype")).map (·.2) = some 93 := by kernel_rfl
theorem hOne : ((List.range 155).filter fun t => Tryd.prog.rowNamed t [101, 114, 114, 111, 114]) = [27] := by kernel_rfl
theorem hSize : Tryd.prog.types.size = 155 := by kernel_rfl
def laidList : List (String × DataW Unit) := [("errors.errorType", Rows.laid_errors_errorType)]
/-- What the row's list gives: the variable's one cell. -/
theorem handle_of_laid {W : World} (h : laidMetH Tryd.prog laidList W) : Handle W := by
  have h' : laidMet Tryd.prog [] W ∧ handlesMet Tryd.prog laidList W := h
  obtain ⟨name, u, ty, e1, e2, e3, e4, e5⟩ := h'.2 _ (List.mem_singleton.2 rfl)
  have en : name = [101, 114, 114, 111, 114] := (Option.some.inj e1).symm
  subst en
  obtain rfl := Option.some.inj (hRt.symm.trans e2)
  have hm : ty ∈ (List.range 155).filter fun t => Tryd.prog.rowNamed t [101, 114, 114, 111, 114] := List.mem_filter.2 ⟨List.mem_range.2 (by rw [← hSize]; exact e3), e4⟩
  rw [hOne] at hm
  obtain rfl := List.mem_singleton.1 hm
  have hh : typeHandle Tryd.prog 27 = .pointer (some ⟨1, 27, none⟩) := by kernel_rfl
  rw [hh] at e5
  unfold Handle
  simpa using World.var?_cell hEt e5 0
/-- A world that holds it. -/
noncomputable def laidWorld (os : Os) : World :=
  { World.holding Tryd.prog os ⟨#[], #[], []⟩ with heap := (World.holding Tryd.prog os ⟨#[], #[], []⟩).heap.modify 0 fun
      | .cells _ t frozen => .cells #[.iface 93 (.agg #[.pointer (some ⟨1, 27, none⟩)])] t frozen
      | o => o }
theorem laidWorld_met (os : Os) (args : Array Value) : laidMetH Tryd.prog laidList ((laidWorld os).forCall (fun _ _ => 0) ⟨#[], args, []⟩).memory :=
  laidMetH_of_parts (laidMet_nil _ _) (by kernel_rfl)

theorem kids : Kids Tryd.prog (· < Tryd.prog.types.size) := kids_rows (by kernel_rfl) (by kernel_rfl)
theorem full : ∀ t e, t < Tryd.prog.types.size → Tryd.prog.underlying t = some (.slice e) → 0 < Tryd.prog.cellsOf e := slices_full_of Tryd.prog (by kernel_rfl)

section
variable {H : Type} {enc : TypeId × Value → H}
/-- Arguments read as they did, in a world in which what was there is as it was. -/
theorem trodAll_below {W W' : World} (hb : Below W.heap.size W W') (sp : Nat → Bool) : ∀ {ts : List TypeId} {vs : List Value} {ds : List (DataW H)} {ps : List MemPlace}, (∀ t ∈ ts, t < Tryd.prog.types.size) →
    DataW.TrodAll enc Tryd.prog W 0 (fun _ => true) true ts vs ds ps → (∀ p ∈ ps, p.block < W.heap.size) → (∀ p ∈ ps, sp p.block = true) → DataW.TrodAll enc Tryd.prog W' 0 sp true ts vs ds ps
  | [], [], [], _, _, h, _, _ => h
  | t :: ts, v :: vs, d :: ds, ps, hT, ⟨p, q, h1, h2, e⟩, hl, hs => by
    obtain ⟨n, hn⟩ := h1
    refine ⟨p, q, ⟨n, ?_⟩, trodAll_below hb sp (fun t ht => hT t (List.mem_cons.2 (.inr ht))) h2 (fun x hx => hl x (by rw [e]; exact List.mem_append_right _ hx)) (fun x hx => hs x (by rw [e]; exact List.mem_append_right _ hx)), e⟩
    exact DataW.trod_stays kids (fun {t e} ht hu => full t e ht hu) (fun hh => by cases hh) (hT t (List.mem_cons.2 (.inl rfl))) hn
      (fun x hx => hb.same (hl x (by rw [e]; exact List.mem_append_left _ hx))) (fun x hx => hs x (by rw [e]; exact List.mem_append_left _ hx))
/-- The answer 'true', where what was there is as it was. -/
theorem post_true {f : Func} {s : ChangeSpec} {W W' : World} {args : Array Value} {ds gs : List (DataW H)} {before : List MemPlace}
    (hT : ∀ t ∈ f.params.toList, t < Tryd.prog.types.size) (hr : f.resultTypes = #[4]) (hv : s.vars = []) (hs : s.fn H (ds ++ gs) = { results := [.lit (.bool true)], args := ds })
    (hW : DataW.Whole enc Tryd.prog f.params.toList s.vars false W args.toList ds gs before) (hb : Below W.heap.size W W') :
    s.post enc Tryd.prog f false true false false W args (.bool true) W' := by
  have hlt : ∀ p ∈ before, p.block < W.heap.size := fun p hp => hW.lt p hp
  have hW2 := hW
  obtain ⟨p, q, hA, hV, rfl, hz, hn⟩ := hW
  rw [hv] at hV
  obtain ⟨rfl, rfl⟩ := trodVars_none hV
  refine ⟨ds, [], _, [], p, [], hW2, ?_, ?_, ?_, hb.frame _, fun h => by cases h⟩
  · rw [hr, hs]
    exact trodAll_mk1 (shut_bool Tryd.underlying4 true)
  · rw [hs]
    exact trodAll_below hb _ hT hA (fun x hx => hlt x (by simp [hx])) (fun x hx => by simpa using hlt x (by simp [hx]))
  · rw [hv, hs]; rfl

theorem wf_u8 {n : Int} (h : (Lit.int .u8 n).wf = true) : 0 ≤ n ∧ n ≤ 255 := by
  simpa [Lit.wf, IntKind.min, IntKind.max, IntKind.signed, IntKind.bits] using h
set_option maxRecDepth 100000 in
/-- A slice of bytes that came in. -/
theorem open_bs {W : World} {base n : Nat} {v : Value} {y : DataW H × List MemPlace} (hc : Cell.okWide Tryd.prog W .any base 22 v) (h : DataW.trod enc Tryd.prog W 0 (fun _ => true) true n 22 [v] = some y) : ∃ xs : List UInt8, Bs W v xs := by
  rcases open_ints Tryd.underlying22 Tryd.underlying5 (by kernel_rfl) h with ⟨he, _⟩ | ⟨a, len, cap, zs, he, _, hl, hm, hzl, _, hcell, hwf⟩
  · obtain rfl : v = .slice none 0 0 := by simpa using he
    exact ⟨[], Bs.nil W⟩
  · obtain rfl : v = .slice (some a) len cap := by simpa using he
    simp only [if_true] at hzl
    have hh : len ≤ cap ∧ (cap : Int) ≤ IntKind.i64.max ∧ W.has Tryd.prog .any base a 5 cap := by
      simpa [Cell.okWide, Cell.ok, Tryd.underlying22] using hc
    obtain ⟨g, off, spot⟩ := a
    obtain ⟨_, _, _, hsp, row, cells, hshape, _⟩ := hh
    simp only at hsp
    subst hsp
    have hg : g < W.heap.size := by
      rcases Nat.lt_or_ge g W.heap.size with h1 | h1
      · exact h1
      · simp [World.shape?, Array.getElem?_eq_none h1] at hshape
    have hlen : ((zs.take len).map fun n => UInt8.ofNat n.toNat).length = len := by simp; omega
    refine ⟨(zs.take len).map fun n => UInt8.ofNat n.toNat, ⟨⟨some ⟨g, off, none⟩, cap, by rw [hlen], fun _ => ⟨g, off, rfl, fun j hj => ?_⟩⟩, fun b hb => ?_, fun A m c e => ?_⟩⟩
    · rw [hlen] at hj
      have h1 := hcell j (by omega)
      have hadd : (⟨g, off, none⟩ : Addr).add j = ⟨g, off + j, none⟩ := by unfold Addr.add; split <;> simp_all
      rw [hadd] at h1
      rw [h1]
      have hin : j < zs.length := by omega
      have h2 := wf_u8 (hwf (zs.getD j 0) (by rw [List.getD_eq_getElem?_getD, List.getElem?_eq_getElem hin]; exact List.getElem_mem hin))
      have h3 : ((zs.take len).map fun n => UInt8.ofNat n.toNat).getD j 0 = UInt8.ofNat (zs.getD j 0).toNat := by
        simp [List.getD_eq_getElem?_getD, hj, hin]
      rw [h3, UInt8.toNat_ofNat']
      congr 2
      omega
    · obtain rfl : g = b := Option.some.inj hb
      exact hg
    · injection e with e1 e2 e3
      subst e2 e3
      exact ⟨hl, by rw [maxLen_eq] at hm; exact hm⟩
set_option maxRecDepth 100000 in
theorem okCell {W : World} {base : Nat} {t e : TypeId} {v : Value} (ht : Tryd.prog.underlying t = some (.slice e)) (h : Value.okWide Tryd.prog W .any base t v) : Cell.okWide Tryd.prog W .any base t v := by
  simpa [Value.okWide, ht] using h
set_option maxRecDepth 100000 in
theorem agg_cell {W : World} {base : Nat} {t : TypeId} {fs : Array Field} {cs : Array Value} {ts : List TypeId} (hu : Tryd.prog.underlying t = some (.struct fs)) (hct : Tryd.prog.cellTypes Tryd.prog.depth t = some ts) (h : Value.okWide Tryd.prog W .any base t (.agg cs))
    (i : Nat) {v : Value} {u : TypeId} (hv : cs[i]? = some v) (hi : ts[i % ts.length]? = some u) : Cell.okWide Tryd.prog W .any base u v := by
  unfold Value.okWide at h
  rw [hu] at h
  obtain ⟨cs', e, _, ts', hts, _, hcell⟩ := h
  injection e with e
  subst e
  rw [hct] at hts
  injection hts with hts
  subst hts
  obtain ⟨u', hu', hc⟩ := hcell i v hv
  rw [hi] at hu'
  injection hu' with hu'
  subst hu'
  exact hc
set_option maxRecDepth 100000 in
theorem plain_of {g : FuncId} {fn0 : Func} {name : String} (hn : Tryd.prog.funcNamed name = some g) (hg : Tryd.prog.funcs[g]? = some fn0) (hl : Tryd.pinned.checked.prog.looks [] = true) (hp : fn0.params.toList.all (fun t => Tryd.prog.wantsStandIn t == false) = true)
    (f : FuncId) (fn : Func) (hf : Tryd.pinned.checked.prog.funcNamed name = some f) (hfn : Tryd.pinned.checked.prog.funcs[f]? = some fn) :
    true = Tryd.pinned.checked.prog.looks [] ∧ ∀ (j : Nat) t, fn.params[j]? = some t → Tryd.pinned.checked.prog.wantsStandIn t = false := by
  obtain rfl : g = f := Option.some.inj (hn.symm.trans hf)
  obtain rfl : fn0 = fn := Option.some.inj (hg.symm.trans hfn)
  refine ⟨hl.symm, fun j t ht => ?_⟩
  have hm : t ∈ fn0.params.toList := by
    rw [← Array.mem_def]
    exact Array.mem_of_getElem? ht
  have h1 := List.all_eq_true.1 hp t hm
  exact beq_iff_eq.1 h1
end
end Go.Proofs.YtojffibjjicddaaDoor
