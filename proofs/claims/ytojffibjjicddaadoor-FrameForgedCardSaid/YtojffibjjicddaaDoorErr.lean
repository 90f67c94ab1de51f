/- errors.As at an error that is an api.Errno, and api.Code of it. (Began as lines of the kit's worked toy on errors.As, turned to api.Errno.) -/
import Derived.Test.YtojffibjjicddaaDoorOwn
import Derived.LaidEql
import Derived.Test.YtojffibjjicddaaDoorHash4
import Derived.Stop.Asserts
import Derived.RowKitTokens
namespace Go.Proofs.YtojffibjjicddaaDoor
open Go.RowKit Go.Extern.Stop Go.Stop Go.Extern

/-- The variable that errors.As reads. -/
def Handle (w : World) : Prop := w.cell? ⟨0, 0, none⟩ = some (.iface 93 (.agg #[.pointer (some ⟨1, 27, none⟩)]))
theorem Handle.below {w w' : World} (h : Handle w) (hb : Below w.heap.size w w') : Handle w' :=
  (But.of_below (S := fun _ => False) hb).cell h (fun hf => hf)
theorem Handle.drewN {w : World} (h : Handle w) (n : Nat) : Handle (w.drewN n) := h
theorem Er.valueOf27 (t : Addr) (w : World) : (ReflectliteValue.unpack (.iface 67 (.pointer (some t)))).run Tryd.prog w
    = .ok (.agg #[.pointer (some ⟨1, 67, none⟩), .pointer (some ⟨w.heap.size, 0, none⟩), .int .u64 150]) (w.alloc (.cells #[.pointer (some t)] 67)) := by kernel_rfl
theorem Er.type27 (a : Addr) (w : World) : (ReflectliteValue.methodAny (ReflectliteValue.valueError "reflectlite.Value.Type" 0) (fun t _ _ _ => ReflectliteType.toType t) #[.agg #[.pointer (some ⟨1, 67, none⟩), .pointer (some a), .int .u64 150]]).run Tryd.prog w
    = .ok (.iface 93 (.agg #[.pointer (some ⟨1, 67, none⟩)])) w := by kernel_rfl
theorem Er.methodKind (h : Value) (w : World) : (Go.method 255 93 (.agg #[h]) "Kind").run Tryd.prog w = .ok (76, h) w := by kernel_rfl
theorem Er.kind27 (w : World) : ((ReflectliteType.abiMethod fun t => (fun a : Nat => Value.int IntKind.u8 (a : Int)) <$> Rtype.kind t) #[.pointer (some ⟨1, 67, none⟩)]).run Tryd.prog w = .ok (.int .u8 22) w := by kernel_rfl
theorem Er.kind25 (w : World) : ((ReflectliteType.abiMethod fun t => (fun a : Nat => Value.int IntKind.u8 (a : Int)) <$> Rtype.kind t) #[.pointer (some ⟨1, 61, none⟩)]).run Tryd.prog w = .ok (.int .u8 2) w := by kernel_rfl

theorem rlm (z : Sem Value) (f : TypeId → Addr → Nat → Nat → Sem Value) (v : Value) :
    ReflectliteValue.method z f #[v] = (do match ← ReflectliteValue.parts v with | none => z | some (t, a, fl) => f t a fl (fl % 32)) := rfl
theorem Er.parts27 (a : Addr) (w : World) : (ReflectliteValue.parts (.agg #[.pointer (some ⟨1, 67, none⟩), .pointer (some a), .int .u64 150])).run Tryd.prog w = .ok (some (67, a, 150)) w := by kernel_rfl
theorem Er.isNil27 (a p : Addr) (W : World) (ha : W.cell? a = some (.pointer (some p))) :
    (ReflectliteValue.method (ReflectliteValue.valueError "reflectlite.Value.IsNil" 0) ReflectliteValue.isNil #[.agg #[.pointer (some ⟨1, 67, none⟩), .pointer (some a), .int .u64 150]]).run Tryd.prog W = .ok (.bool false) W := by
  rw [rlm]
  simp only [Sem.run_bind, Er.parts27, Result.andThen]
  simp [ReflectliteValue.isNil, loadVar, isAgg, underlying, Tryd.underlying67, ha, Result.andThen]

theorem Er.methodElem (h : Value) (w : World) : (Go.method 255 93 (.agg #[h]) "Elem").run Tryd.prog w = .ok (86, .agg #[h]) w := by kernel_rfl
theorem Er.methodImplements (h : Value) (w : World) : (Go.method 255 93 (.agg #[h]) "Implements").run Tryd.prog w = .ok (87, .agg #[h]) w := by kernel_rfl
theorem Er.methodAssignableTo (h : Value) (w : World) : (Go.method 255 93 (.agg #[h]) "AssignableTo").run Tryd.prog w = .ok (84, .agg #[h]) w := by kernel_rfl
theorem Er.elem27 (w : World) : (ReflectliteType.method ReflectliteType.elem #[.agg #[.pointer (some ⟨1, 67, none⟩)]]).run Tryd.prog w = .ok (.iface 93 (.agg #[.pointer (some ⟨1, 61, none⟩)])) w := by kernel_rfl
theorem Er.implements25 (w : World) : (ReflectliteType.relation "Implements" ReflectliteType.implements_ #[.agg #[.pointer (some ⟨1, 61, none⟩)], .iface 93 (.agg #[.pointer (some ⟨1, 27, none⟩)])]).run Tryd.prog w = .ok (.bool true) w := by kernel_rfl
theorem Er.typeOf25 (v : Value) (w : World) : (ReflectliteType.typeOf #[.iface 61 v]).run Tryd.prog w = .ok (.iface 93 (.agg #[.pointer (some ⟨1, 61, none⟩)])) w := by kernel_rfl
theorem Er.assignable25 (w : World) : (ReflectliteType.relation "AssignableTo" ReflectliteType.assignableTo #[.agg #[.pointer (some ⟨1, 61, none⟩)], .iface 93 (.agg #[.pointer (some ⟨1, 61, none⟩)])]).run Tryd.prog w = .ok (.bool true) w := by kernel_rfl
theorem Er.valueOf25 (e : Int) (w : World) : (ReflectliteValue.unpack (.iface 61 (.int .i64 e))).run Tryd.prog w
    = .ok (.agg #[.pointer (some ⟨1, 61, none⟩), .pointer (some ⟨w.heap.size, 0, none⟩), .int .u64 130]) (w.alloc (.cells #[.int .i64 e] 61)) := by kernel_rfl

theorem Er.elemOf27 (w : World) : (Rtype.elem? 67).run Tryd.prog w = .ok (some 61) w := by kernel_rfl
theorem Er.mk25 (p : Addr) (w : World) : (ReflectliteValue.mk 61 p ReflectliteValue.flagAddr).run Tryd.prog w = .ok (.agg #[.pointer (some ⟨1, 61, none⟩), .pointer (some p), .int .u64 386]) w := by kernel_rfl
theorem Er.elemV27 (a p : Addr) (W : World) (ha : W.cell? a = some (.pointer (some p))) :
    (ReflectliteValue.method (ReflectliteValue.valueError "reflectlite.Value.Elem" 0) ReflectliteValue.elem #[.agg #[.pointer (some ⟨1, 67, none⟩), .pointer (some a), .int .u64 150]]).run Tryd.prog W
      = .ok (.agg #[.pointer (some ⟨1, 61, none⟩), .pointer (some p), .int .u64 386]) W := by
  rw [rlm]
  simp only [Sem.run_bind, Er.parts27, Result.andThen]
  simp [ReflectliteValue.elem, loadVar, isAgg, underlying, Tryd.underlying67, ha, Result.andThen, Er.elemOf27, Er.mk25]
theorem rls (v x : Value) : ReflectliteValue.set #[v, x] = (do
    let (some (dst, a, fl), some (src, b, _)) := (← ReflectliteValue.parts v, ← ReflectliteValue.parts x)
      | unsupported (.noEntry "extern/(internal/reflectlite.Value).Set.zeroValue")
    if fl / ReflectliteValue.flagAddr % 2 == 0 then unsupported (.noEntry "extern/(internal/reflectlite.Value).Set.unaddressable")
    let val ← loadVar src b
    if ← Rtype.directlyAssignable dst src then storeVar dst a val
    else if ← Rtype.implements dst src then
      if (← Rtype.kind src) == 20 then
        match val with
        | .nilIface => unsupported (.noEntry "extern/reflectlite: a nil value of one interface type handed on as a value of another")
        | _ => storeVar dst a val
      else storeVar dst a (.iface src val)
    else panicString ("reflectlite.Set: value of type " ++ (← Rtype.spelt src) ++ " is not assignable to type " ++ (← Rtype.spelt dst))
    pure (.tuple #[])) := rfl
theorem Er.parts25a (a : Addr) (w : World) : (ReflectliteValue.parts (.agg #[.pointer (some ⟨1, 61, none⟩), .pointer (some a), .int .u64 386])).run Tryd.prog w = .ok (some (61, a, 386)) w := by kernel_rfl
theorem Er.parts25 (a : Addr) (w : World) : (ReflectliteValue.parts (.agg #[.pointer (some ⟨1, 61, none⟩), .pointer (some a), .int .u64 130])).run Tryd.prog w = .ok (some (61, a, 130)) w := by kernel_rfl
theorem Er.direct25 (w : World) : (Rtype.directlyAssignable 61 61).run Tryd.prog w = .ok true w := by kernel_rfl
theorem Er.size25 (w : World) : (sizeOf 61).run Tryd.prog w = .ok 1 w := by kernel_rfl
theorem Er.set25 (ta b : Addr) (e : Int) (old : Value) (W : World) (hb : W.cell? b = some (.int .i64 e)) (ht : W.cell? ta = some old) (hf : W.frozen? ta = false) :
    (ReflectliteValue.set #[.agg #[.pointer (some ⟨1, 61, none⟩), .pointer (some ta), .int .u64 386], .agg #[.pointer (some ⟨1, 61, none⟩), .pointer (some b), .int .u64 130]]).run Tryd.prog W
      = .ok (.tuple #[]) (W.setCell ta (.int .i64 e)) := by
  rw [rls]
  simp only [Sem.run_bind, Er.parts25a, Er.parts25, Result.andThen]
  simp [ReflectliteValue.flagAddr, loadVar, isAgg, underlying, Tryd.underlying61, hb, Result.andThen, Er.direct25, storeVar, Value.cells, storeCells, Addr.add]
  rw [run_store Tryd.prog W ta _ _ (by rfl)]
  simp [ht, hf]

set_option maxHeartbeats 4000000 in
theorem as_hit (e : Int) (t : Addr) (old : Value) (w : World) (hg : w.cell? ⟨0, 0, none⟩ = some (.iface 93 (.agg #[.pointer (some ⟨1, 27, none⟩)]))) (ht0 : w.cell? t = some old) (hf0 : w.frozen? t = false) :
    Calls Tryd.prog 28 #[.iface 61 (.int .i64 e), .iface 67 (.pointer (some t))] w fun ev w' => ev = .returned (.bool true) ∧ w' = ((((w.alloc (.cells #[.pointer (some t)] 67)).alloc (.cells #[.pointer (some ⟨1, 67, none⟩), .pointer (some ⟨w.heap.size, 0, none⟩), .int .u64 150] 77)).alloc (.cells #[.pointer (some ⟨1, 67, none⟩), .pointer (some ⟨w.heap.size, 0, none⟩), .int .u64 150] 77)).alloc (.cells #[.int .i64 e] 61)).setCell t (.int .i64 e) := by
  have h6 := @run_callFunc_extern Tryd.prog 32 _ (fun args => ReflectliteValue.unpack (args.getD 0 (.tuple #[]))) Tryd.func32 (by kernel_rfl) (by kernel_rfl) (by kernel_rfl) (by kernel_rfl)
  have h7 := @run_callFunc_extern Tryd.prog 33 _ (ReflectliteValue.methodAny (ReflectliteValue.valueError "reflectlite.Value.Type" 0) (fun t _ _ _ => ReflectliteType.toType t)) Tryd.func33 (by kernel_rfl) (by kernel_rfl) (by kernel_rfl) (by kernel_rfl)
  have h8 := @run_callFunc_extern Tryd.prog 34 _ (ReflectliteValue.method (ReflectliteValue.valueError "reflectlite.Value.IsNil" 0) ReflectliteValue.isNil) Tryd.func34 (by kernel_rfl) (by kernel_rfl) (by kernel_rfl) (by kernel_rfl)
  have h27 := @run_callFunc_extern Tryd.prog 76 _ (ReflectliteType.abiMethod fun t => do pure (.int .u8 (← Rtype.kind t))) Tryd.func76 (by kernel_rfl) (by kernel_rfl) (by kernel_rfl) (by kernel_rfl)
  have h37 := @run_callFunc_extern Tryd.prog 86 _ (ReflectliteType.method ReflectliteType.elem) Tryd.func86 (by kernel_rfl) (by kernel_rfl) (by kernel_rfl) (by kernel_rfl)
  have h38 := @run_callFunc_extern Tryd.prog 87 _ (ReflectliteType.relation "Implements" ReflectliteType.implements_) Tryd.func87 (by kernel_rfl) (by kernel_rfl) (by kernel_rfl) (by kernel_rfl)
  have h10 := @run_callFunc_extern Tryd.prog 42 _ ReflectliteType.typeOf Tryd.func42 (by kernel_rfl) (by kernel_rfl) (by kernel_rfl) (by kernel_rfl)
  have h35 := @run_callFunc_extern Tryd.prog 84 _ (ReflectliteType.relation "AssignableTo" ReflectliteType.assignableTo) Tryd.func84 (by kernel_rfl) (by kernel_rfl) (by kernel_rfl) (by kernel_rfl)
  have h11 := @run_callFunc_extern Tryd.prog 43 _ (ReflectliteValue.method (ReflectliteValue.valueError "reflectlite.Value.Elem" 0) ReflectliteValue.elem) Tryd.func43 (by kernel_rfl) (by kernel_rfl) (by kernel_rfl) (by kernel_rfl)
  have h12 := @run_callFunc_extern Tryd.prog 44 _ ReflectliteValue.set Tryd.func44 (by kernel_rfl) (by kernel_rfl) (by kernel_rfl) (by kernel_rfl)
  have tO := Er.typeOf25
  have mA := Er.methodAssignableTo
  have a25 := Er.assignable25
  have v25 := Er.valueOf25
  have f6 := Er.valueOf27
  have f7 := Er.type27
  have mK := Er.methodKind
  have mE := Er.methodElem
  have mI := Er.methodImplements
  have k27 := Er.kind27
  have k25 := Er.kind25
  have e27 := Er.elem27
  have i25 := Er.implements25
  have n8 := Er.isNil27 ⟨w.heap.size, 0, none⟩ t ((w.alloc (.cells #[.pointer (some t)] 67)).alloc (.cells #[.pointer (some ⟨1, 67, none⟩), .pointer (some ⟨w.heap.size, 0, none⟩), .int .u64 150] 77)) (by simp)
  have hlt : 0 < w.heap.size := by
    rcases Nat.eq_zero_or_pos w.heap.size with h0 | h
    · simp [World.cell?, h0] at hg
    · exact h
  have hg2 : ((w.alloc (.cells #[.pointer (some t)] 67)).alloc (.cells #[.pointer (some ⟨1, 67, none⟩), .pointer (some ⟨w.heap.size, 0, none⟩), .int .u64 150] 77)).cell? ⟨0, 0, none⟩ = some (.iface 93 (.agg #[.pointer (some ⟨1, 27, none⟩)])) := by
    rw [World.cell?_alloc_lt _ _ ⟨0, 0, none⟩ (by simp), World.cell?_alloc_lt _ _ ⟨0, 0, none⟩ hlt]; exact hg
  have htl : t.block < w.heap.size := by
    rcases Nat.lt_or_ge t.block w.heap.size with h | h
    · exact h
    · simp [World.cell?, Array.getElem?_eq_none h] at ht0
  have el := Er.elemV27 ⟨w.heap.size, 0, none⟩ t (((w.alloc (.cells #[.pointer (some t)] 67)).alloc (.cells #[.pointer (some ⟨1, 67, none⟩), .pointer (some ⟨w.heap.size, 0, none⟩), .int .u64 150] 77)).alloc (.cells #[.pointer (some ⟨1, 67, none⟩), .pointer (some ⟨w.heap.size, 0, none⟩), .int .u64 150] 77)) (by rw [World.cell?_alloc_lt _ _ ⟨w.heap.size, 0, none⟩ (by simp; omega)]; simp)
  have st := Er.set25 t ⟨w.heap.size + 1 + 1 + 1, 0, none⟩ e old ((((w.alloc (.cells #[.pointer (some t)] 67)).alloc (.cells #[.pointer (some ⟨1, 67, none⟩), .pointer (some ⟨w.heap.size, 0, none⟩), .int .u64 150] 77)).alloc (.cells #[.pointer (some ⟨1, 67, none⟩), .pointer (some ⟨w.heap.size, 0, none⟩), .int .u64 150] 77)).alloc (.cells #[.int .i64 e] 61))
    (by rw [World.cell?_alloc_at _ _ _ _ (by simp)]; rfl)
    (by rw [World.cell?_alloc_lt _ _ t (by simp; omega), World.cell?_alloc_lt _ _ t (by simp; omega), World.cell?_alloc_lt _ _ t (by simp; omega), World.cell?_alloc_lt _ _ t htl]; exact ht0)
    (by rw [World.frozen?_alloc_old _ _ t (by simp; omega), World.frozen?_alloc_old _ _ t (by simp; omega), World.frozen?_alloc_old _ _ t (by simp; omega), World.frozen?_alloc_old _ _ t (Nat.ne_of_lt htl)]; exact hf0)
  go_enter Tryd.func28, Tryd.ntmps28
  go_wp2
  refine wp_loop_rounds 1 ?_
  rw [rounds_succ]
  go_wp2
  go_ret
  exact ⟨rfl, rfl⟩

theorem as_nil (t : Value) (w : World) :
    Calls Tryd.prog 28 #[.nilIface, t] w fun e w' => e = .returned (.bool false) ∧ w' = w := by
  go_enter Tryd.func28, Tryd.ntmps28
  go_wp2
  go_ret
  exact ⟨rfl, rfl⟩
end Go.Proofs.YtojffibjjicddaaDoor
