/- Walk: errors.As of one error number, at a number and at a fault; mootlaw03.Why; mootlaw05.number. (After the worked example Toyas.) Walk: mootlaw03.Why, mootlaw05.number. -/
import Derived.Test.YtikkebjhnechdaaDoorErrIs
import Derived.WalkKit
import Derived.LaidEql
import Derived.Stop.Asserts
import Derived.RowKitTokens
import Derived.Test.YtikkebjhnechdaaDoorMtRow
namespace Go.Proofs.YtikkebjhnechdaaDoor
open Go.RowKit Go.Mt Go.Extern.Stop Go.Stop Go.Extern
theorem asValueOfN (t : Addr) (w : World) : (ReflectliteValue.unpack (.iface 110 (.pointer (some t)))).run Tryd.prog w
    = .ok (.agg #[.pointer (some ⟨4, 110, none⟩), .pointer (some ⟨w.heap.size, 0, none⟩), .int .u64 150]) (w.alloc (.cells #[.pointer (some t)] 110)) := by kernel_rfl
theorem asValueOfF (t : Addr) (w : World) : (ReflectliteValue.unpack (.iface 112 (.pointer (some t)))).run Tryd.prog w
    = .ok (.agg #[.pointer (some ⟨4, 112, none⟩), .pointer (some ⟨w.heap.size, 0, none⟩), .int .u64 150]) (w.alloc (.cells #[.pointer (some t)] 112)) := by kernel_rfl
theorem asValueOfE (k : Int) (w : World) : (ReflectliteValue.unpack (.iface 44 (.int .i64 k))).run Tryd.prog w
    = .ok (.agg #[.pointer (some ⟨4, 44, none⟩), .pointer (some ⟨w.heap.size, 0, none⟩), .int .u64 130]) (w.alloc (.cells #[.int .i64 k] 44)) := by kernel_rfl
theorem asTypeN (a : Addr) (w : World) : (ReflectliteValue.methodAny (ReflectliteValue.valueError "reflectlite.Value.Type" 0) (fun t _ _ _ => ReflectliteType.toType t) #[.agg #[.pointer (some ⟨4, 110, none⟩), .pointer (some a), .int .u64 150]]).run Tryd.prog w
    = .ok (.iface 99 (.agg #[.pointer (some ⟨4, 110, none⟩)])) w := by kernel_rfl
theorem asTypeF (a : Addr) (w : World) : (ReflectliteValue.methodAny (ReflectliteValue.valueError "reflectlite.Value.Type" 0) (fun t _ _ _ => ReflectliteType.toType t) #[.agg #[.pointer (some ⟨4, 112, none⟩), .pointer (some a), .int .u64 150]]).run Tryd.prog w
    = .ok (.iface 99 (.agg #[.pointer (some ⟨4, 112, none⟩)])) w := by kernel_rfl
theorem asMethodKind (h : Value) (w : World) : (Go.method 261 99 (.agg #[h]) "Kind").run Tryd.prog w = .ok (72, h) w := by kernel_rfl
def kindExt : Array Value → Sem Value := ReflectliteType.abiMethod fun t => do pure (.int .u8 (← Rtype.kind t))
theorem asKind (t : Nat) (n : Int) (h : ∀ w, ((ReflectliteType.abiMethod fun t => (fun a : Nat => Value.int IntKind.u8 (a : Int)) <$> Rtype.kind t) #[.pointer (some ⟨4, t, none⟩)]).run Tryd.prog w = .ok (.int .u8 n) w) (w : World) :
    ((ReflectliteType.abiMethod fun t => (fun a : Nat => Value.int IntKind.u8 (a : Int)) <$> Rtype.kind t) #[.pointer (some ⟨4, t, none⟩)]).run Tryd.prog w = .ok (.int .u8 n) w := h w
theorem asKindN (w : World) : ((ReflectliteType.abiMethod fun t => (fun a : Nat => Value.int IntKind.u8 (a : Int)) <$> Rtype.kind t) #[.pointer (some ⟨4, 110, none⟩)]).run Tryd.prog w = .ok (.int .u8 22) w := by kernel_rfl
theorem asKindE (w : World) : ((ReflectliteType.abiMethod fun t => (fun a : Nat => Value.int IntKind.u8 (a : Int)) <$> Rtype.kind t) #[.pointer (some ⟨4, 44, none⟩)]).run Tryd.prog w = .ok (.int .u8 2) w := by kernel_rfl
theorem asKindF (w : World) : ((ReflectliteType.abiMethod fun t => (fun a : Nat => Value.int IntKind.u8 (a : Int)) <$> Rtype.kind t) #[.pointer (some ⟨4, 112, none⟩)]).run Tryd.prog w = .ok (.int .u8 22) w := by kernel_rfl
theorem asKindP (w : World) : ((ReflectliteType.abiMethod fun t => (fun a : Nat => Value.int IntKind.u8 (a : Int)) <$> Rtype.kind t) #[.pointer (some ⟨4, 111, none⟩)]).run Tryd.prog w = .ok (.int .u8 22) w := by kernel_rfl
theorem asRlm (z : Sem Value) (f : TypeId → Addr → Nat → Nat → Sem Value) (v : Value) :
    ReflectliteValue.method z f #[v] = (do match ← ReflectliteValue.parts v with | none => z | some (t, a, fl) => f t a fl (fl % 32)) := rfl
theorem asPartsN (a : Addr) (w : World) : (ReflectliteValue.parts (.agg #[.pointer (some ⟨4, 110, none⟩), .pointer (some a), .int .u64 150])).run Tryd.prog w = .ok (some (110, a, 150)) w := by kernel_rfl
theorem asPartsF (a : Addr) (w : World) : (ReflectliteValue.parts (.agg #[.pointer (some ⟨4, 112, none⟩), .pointer (some a), .int .u64 150])).run Tryd.prog w = .ok (some (112, a, 150)) w := by kernel_rfl
theorem asIsNilN (a p : Addr) (W : World) (ha : W.cell? a = some (.pointer (some p))) :
    (ReflectliteValue.method (ReflectliteValue.valueError "reflectlite.Value.IsNil" 0) ReflectliteValue.isNil #[.agg #[.pointer (some ⟨4, 110, none⟩), .pointer (some a), .int .u64 150]]).run Tryd.prog W = .ok (.bool false) W := by
  rw [asRlm]
  simp only [Sem.run_bind, asPartsN, Result.andThen]
  simp [ReflectliteValue.isNil, loadVar, isAgg, underlying, Tryd.underlying110, ha, Result.andThen]
theorem asIsNilF (a p : Addr) (W : World) (ha : W.cell? a = some (.pointer (some p))) :
    (ReflectliteValue.method (ReflectliteValue.valueError "reflectlite.Value.IsNil" 0) ReflectliteValue.isNil #[.agg #[.pointer (some ⟨4, 112, none⟩), .pointer (some a), .int .u64 150]]).run Tryd.prog W = .ok (.bool false) W := by
  rw [asRlm]
  simp only [Sem.run_bind, asPartsF, Result.andThen]
  simp [ReflectliteValue.isNil, loadVar, isAgg, underlying, Tryd.underlying112, ha, Result.andThen]
theorem asMethodElem (h : Value) (w : World) : (Go.method 261 99 (.agg #[h]) "Elem").run Tryd.prog w = .ok (79, .agg #[h]) w := by kernel_rfl
theorem asMethodImplements (h : Value) (w : World) : (Go.method 261 99 (.agg #[h]) "Implements").run Tryd.prog w = .ok (80, .agg #[h]) w := by kernel_rfl
theorem asMethodAssignableTo (h : Value) (w : World) : (Go.method 261 99 (.agg #[h]) "AssignableTo").run Tryd.prog w = .ok (77, .agg #[h]) w := by kernel_rfl
theorem asElemN (w : World) : (ReflectliteType.method ReflectliteType.elem #[.agg #[.pointer (some ⟨4, 110, none⟩)]]).run Tryd.prog w = .ok (.iface 99 (.agg #[.pointer (some ⟨4, 44, none⟩)])) w := by kernel_rfl
theorem asElemF (w : World) : (ReflectliteType.method ReflectliteType.elem #[.agg #[.pointer (some ⟨4, 112, none⟩)]]).run Tryd.prog w = .ok (.iface 99 (.agg #[.pointer (some ⟨4, 111, none⟩)])) w := by kernel_rfl
theorem asImplE (w : World) : (ReflectliteType.relation "Implements" ReflectliteType.implements_ #[.agg #[.pointer (some ⟨4, 44, none⟩)], .iface 99 (.agg #[.pointer (some ⟨4, 40, none⟩)])]).run Tryd.prog w = .ok (.bool true) w := by kernel_rfl
theorem asImplP (w : World) : (ReflectliteType.relation "Implements" ReflectliteType.implements_ #[.agg #[.pointer (some ⟨4, 111, none⟩)], .iface 99 (.agg #[.pointer (some ⟨4, 40, none⟩)])]).run Tryd.prog w = .ok (.bool true) w := by kernel_rfl
theorem asAssEE (w : World) : (ReflectliteType.relation "AssignableTo" ReflectliteType.assignableTo #[.agg #[.pointer (some ⟨4, 44, none⟩)], .iface 99 (.agg #[.pointer (some ⟨4, 44, none⟩)])]).run Tryd.prog w = .ok (.bool true) w := by kernel_rfl
theorem asAssEP (w : World) : (ReflectliteType.relation "AssignableTo" ReflectliteType.assignableTo #[.agg #[.pointer (some ⟨4, 44, none⟩)], .iface 99 (.agg #[.pointer (some ⟨4, 111, none⟩)])]).run Tryd.prog w = .ok (.bool false) w := by kernel_rfl
theorem asElemOfN (w : World) : (Rtype.elem? 110).run Tryd.prog w = .ok (some 44) w := by kernel_rfl
theorem asMkE (p : Addr) (w : World) : (ReflectliteValue.mk 44 p ReflectliteValue.flagAddr).run Tryd.prog w = .ok (.agg #[.pointer (some ⟨4, 44, none⟩), .pointer (some p), .int .u64 386]) w := by kernel_rfl
theorem asElemVN (a p : Addr) (W : World) (ha : W.cell? a = some (.pointer (some p))) :
    (ReflectliteValue.method (ReflectliteValue.valueError "reflectlite.Value.Elem" 0) ReflectliteValue.elem #[.agg #[.pointer (some ⟨4, 110, none⟩), .pointer (some a), .int .u64 150]]).run Tryd.prog W
      = .ok (.agg #[.pointer (some ⟨4, 44, none⟩), .pointer (some p), .int .u64 386]) W := by
  rw [asRlm]
  simp only [Sem.run_bind, asPartsN, Result.andThen]
  simp [ReflectliteValue.elem, loadVar, isAgg, underlying, Tryd.underlying110, ha, Result.andThen, asElemOfN, asMkE]
theorem asRls (v x : Value) : ReflectliteValue.set #[v, x] = (do
    let (some (dst, a, fl), some (src, b, _)) := (← ReflectliteValue.parts v, ← ReflectliteValue.parts x)
      | unsupported (.noEntry "extern/(internal/reflectlite.Value).Set.zeroValue")
    if fl / ReflectliteValue.flagAddr % 2 == 0 then unsupported (.noEntry "extern/(internal/reflectlite.Value).Set.unaddressable")
    let val ← loadVar src b
    if ← Rtype.directlyAssignable dst src then storeVar dst a val
    else if ← Rtype.implements dst src then
      if (← Rtype.kind src) == 20 then
        match val with
        | .nilIface => unsupported (.noEntry "extern/reflectlite: a nil value of one interface type handed on as a value of another")
        | _ => storeVar dst a val
      else storeVar dst a (.iface src val)
    else panicString ("reflectlite.Set: value of type " ++ (← Rtype.spelt src) ++ " is not assignable to type " ++ (← Rtype.spelt dst))
    pure (.tuple #[])) := rfl
theorem asPartsEa (a : Addr) (w : World) : (ReflectliteValue.parts (.agg #[.pointer (some ⟨4, 44, none⟩), .pointer (some a), .int .u64 386])).run Tryd.prog w = .ok (some (44, a, 386)) w := by kernel_rfl
theorem asPartsE (a : Addr) (w : World) : (ReflectliteValue.parts (.agg #[.pointer (some ⟨4, 44, none⟩), .pointer (some a), .int .u64 130])).run Tryd.prog w = .ok (some (44, a, 130)) w := by kernel_rfl
theorem asDirectE (w : World) : (Rtype.directlyAssignable 44 44).run Tryd.prog w = .ok true w := by kernel_rfl
theorem asSizeE (w : World) : (sizeOf 44).run Tryd.prog w = .ok 1 w := by kernel_rfl
theorem asSet (ta b : Addr) (k : Int) (old : Value) (W : World) (hb : W.cell? b = some (.int .i64 k)) (ht : W.cell? ta = some old) (hf : W.frozen? ta = false) :
    (ReflectliteValue.set #[.agg #[.pointer (some ⟨4, 44, none⟩), .pointer (some ta), .int .u64 386], .agg #[.pointer (some ⟨4, 44, none⟩), .pointer (some b), .int .u64 130]]).run Tryd.prog W
      = .ok (.tuple #[]) (W.setCell ta (.int .i64 k)) := by
  rw [asRls]
  simp only [Sem.run_bind, asPartsEa, asPartsE, Result.andThen]
  simp [ReflectliteValue.flagAddr, loadVar, isAgg, underlying, Tryd.underlying44, hb, Result.andThen, asDirectE, storeVar, Value.cells, storeCells, Addr.add]
  rw [run_store Tryd.prog W ta _ _ (by rfl)]
  simp [ht, hf]
/-- The variable of errors that holds what the interface error is. -/
def ErrT (w : World) : Prop := w.cell? ⟨3, 0, none⟩ = some (.iface 99 (.agg #[.pointer (some ⟨4, 40, none⟩)]))
theorem ErrT.lt {w : World} (h : ErrT w) : 3 < w.heap.size := by
  have := World.block_lt_of_cell? w _ h
  simpa using this
theorem ErrT.below {B : Nat} {w w' : World} (h : ErrT w) (hb : Below B w w') (hB : 3 < B) : ErrT w' := by
  unfold ErrT at *
  rw [hb.cell (p := ⟨3, 0, none⟩) hB]; exact h

set_option maxHeartbeats 4000000 in
theorem as_hit (k : Int) (t : Addr) (old : Value) (w : World) (hg : ErrT w) (ht0 : w.cell? t = some old) (hf0 : w.frozen? t = false) :
    Calls Tryd.prog 51 #[.iface 44 (.int .i64 k), .iface 110 (.pointer (some t))] w fun ev w' => ev = .returned (.bool true) ∧ w' = ((((w.alloc (.cells #[.pointer (some t)] 110)).alloc (.cells #[.pointer (some ⟨4, 110, none⟩), .pointer (some ⟨w.heap.size, 0, none⟩), .int .u64 150] 118)).alloc (.cells #[.pointer (some ⟨4, 110, none⟩), .pointer (some ⟨w.heap.size, 0, none⟩), .int .u64 150] 118)).alloc (.cells #[.int .i64 k] 44)).setCell t (.int .i64 k) := by
  have h52 := @run_callFunc_extern Tryd.prog 52 _ (fun args => ReflectliteValue.unpack (args.getD 0 (.tuple #[]))) Tryd.func52 (by kernel_rfl) (by kernel_rfl) (by kernel_rfl) (by kernel_rfl)
  have h53 := @run_callFunc_extern Tryd.prog 53 _ (ReflectliteValue.methodAny (ReflectliteValue.valueError "reflectlite.Value.Type" 0) (fun t _ _ _ => ReflectliteType.toType t)) Tryd.func53 (by kernel_rfl) (by kernel_rfl) (by kernel_rfl) (by kernel_rfl)
  have h54 := @run_callFunc_extern Tryd.prog 54 _ (ReflectliteValue.method (ReflectliteValue.valueError "reflectlite.Value.IsNil" 0) ReflectliteValue.isNil) Tryd.func54 (by kernel_rfl) (by kernel_rfl) (by kernel_rfl) (by kernel_rfl)
  have h72 := @run_callFunc_extern Tryd.prog 72 _ (ReflectliteType.abiMethod fun t => do pure (.int .u8 (← Rtype.kind t))) Tryd.func72 (by kernel_rfl) (by kernel_rfl) (by kernel_rfl) (by kernel_rfl)
  have h79 := @run_callFunc_extern Tryd.prog 79 _ (ReflectliteType.method ReflectliteType.elem) Tryd.func79 (by kernel_rfl) (by kernel_rfl) (by kernel_rfl) (by kernel_rfl)
  have h80 := @run_callFunc_extern Tryd.prog 80 _ (ReflectliteType.relation "Implements" ReflectliteType.implements_) Tryd.func80 (by kernel_rfl) (by kernel_rfl) (by kernel_rfl) (by kernel_rfl)
  have h41 := @run_callFunc_extern Tryd.prog 41 _ Extern.ReflectliteType.typeOf Tryd.func41 (by kernel_rfl) (by kernel_rfl) (by kernel_rfl) (by kernel_rfl)
  have h77 := @run_callFunc_extern Tryd.prog 77 _ (ReflectliteType.relation "AssignableTo" ReflectliteType.assignableTo) Tryd.func77 (by kernel_rfl) (by kernel_rfl) (by kernel_rfl) (by kernel_rfl)
  have h56 := @run_callFunc_extern Tryd.prog 56 _ (ReflectliteValue.method (ReflectliteValue.valueError "reflectlite.Value.Elem" 0) ReflectliteValue.elem) Tryd.func56 (by kernel_rfl) (by kernel_rfl) (by kernel_rfl) (by kernel_rfl)
  have h57 := @run_callFunc_extern Tryd.prog 57 _ ReflectliteValue.set Tryd.func57 (by kernel_rfl) (by kernel_rfl) (by kernel_rfl) (by kernel_rfl)
  have tO := isTypeOf
  have mA := asMethodAssignableTo
  have mK := asMethodKind
  have mE := asMethodElem
  have mI := asMethodImplements
  have a25 := asAssEE
  have v25 := asValueOfE
  have f6 := asValueOfN
  have f7 := asTypeN
  have k27 := asKindN
  have k25 := asKindE
  have e27 := asElemN
  have i25 := asImplE
  have hlt := hg.lt
  unfold ErrT at hg
  have n8 := asIsNilN ⟨w.heap.size, 0, none⟩ t ((w.alloc (.cells #[.pointer (some t)] 110)).alloc (.cells #[.pointer (some ⟨4, 110, none⟩), .pointer (some ⟨w.heap.size, 0, none⟩), .int .u64 150] 118)) (by simp)
  have hg2 : ((w.alloc (.cells #[.pointer (some t)] 110)).alloc (.cells #[.pointer (some ⟨4, 110, none⟩), .pointer (some ⟨w.heap.size, 0, none⟩), .int .u64 150] 118)).cell? ⟨3, 0, none⟩ = some (.iface 99 (.agg #[.pointer (some ⟨4, 40, none⟩)])) := by
    rw [World.cell?_alloc_lt _ _ ⟨3, 0, none⟩ (by simp; omega), World.cell?_alloc_lt _ _ ⟨3, 0, none⟩ hlt]; exact hg
  have htl : t.block < w.heap.size := by
    rcases Nat.lt_or_ge t.block w.heap.size with h | h
    · exact h
    · simp [World.cell?, Array.getElem?_eq_none h] at ht0
  have el := asElemVN ⟨w.heap.size, 0, none⟩ t (((w.alloc (.cells #[.pointer (some t)] 110)).alloc (.cells #[.pointer (some ⟨4, 110, none⟩), .pointer (some ⟨w.heap.size, 0, none⟩), .int .u64 150] 118)).alloc (.cells #[.pointer (some ⟨4, 110, none⟩), .pointer (some ⟨w.heap.size, 0, none⟩), .int .u64 150] 118)) (by rw [World.cell?_alloc_lt _ _ ⟨w.heap.size, 0, none⟩ (by simp; omega)]; simp)
  have st := asSet t ⟨w.heap.size + 1 + 1 + 1, 0, none⟩ k old ((((w.alloc (.cells #[.pointer (some t)] 110)).alloc (.cells #[.pointer (some ⟨4, 110, none⟩), .pointer (some ⟨w.heap.size, 0, none⟩), .int .u64 150] 118)).alloc (.cells #[.pointer (some ⟨4, 110, none⟩), .pointer (some ⟨w.heap.size, 0, none⟩), .int .u64 150] 118)).alloc (.cells #[.int .i64 k] 44))
    (by rw [World.cell?_alloc_at _ _ _ _ (by simp)]; rfl)
    (by rw [World.cell?_alloc_lt _ _ t (by simp; omega), World.cell?_alloc_lt _ _ t (by simp; omega), World.cell?_alloc_lt _ _ t (by simp; omega), World.cell?_alloc_lt _ _ t htl]; exact ht0)
    (by rw [World.frozen?_alloc_old _ _ t (by simp; omega), World.frozen?_alloc_old _ _ t (by simp; omega), World.frozen?_alloc_old _ _ t (by simp; omega), World.frozen?_alloc_old _ _ t (Nat.ne_of_lt htl)]; exact hf0)
  go_enter Tryd.func51, Tryd.ntmps51
  go_wp2
  refine wp_loop_rounds 1 ?_
  rw [rounds_succ]
  go_wp2
  go_ret
  exact ⟨rfl, rfl⟩

set_option maxHeartbeats 4000000 in
theorem as_miss (k : Int) (t : Addr) (w : World) (hg : ErrT w) :
    Calls Tryd.prog 51 #[.iface 44 (.int .i64 k), .iface 112 (.pointer (some t))] w fun ev w' => ev = .returned (.bool false) ∧ Below w.heap.size w w' := by
  have h52 := @run_callFunc_extern Tryd.prog 52 _ (fun args => ReflectliteValue.unpack (args.getD 0 (.tuple #[]))) Tryd.func52 (by kernel_rfl) (by kernel_rfl) (by kernel_rfl) (by kernel_rfl)
  have h53 := @run_callFunc_extern Tryd.prog 53 _ (ReflectliteValue.methodAny (ReflectliteValue.valueError "reflectlite.Value.Type" 0) (fun t _ _ _ => ReflectliteType.toType t)) Tryd.func53 (by kernel_rfl) (by kernel_rfl) (by kernel_rfl) (by kernel_rfl)
  have h54 := @run_callFunc_extern Tryd.prog 54 _ (ReflectliteValue.method (ReflectliteValue.valueError "reflectlite.Value.IsNil" 0) ReflectliteValue.isNil) Tryd.func54 (by kernel_rfl) (by kernel_rfl) (by kernel_rfl) (by kernel_rfl)
  have h72 := @run_callFunc_extern Tryd.prog 72 _ (ReflectliteType.abiMethod fun t => do pure (.int .u8 (← Rtype.kind t))) Tryd.func72 (by kernel_rfl) (by kernel_rfl) (by kernel_rfl) (by kernel_rfl)
  have h79 := @run_callFunc_extern Tryd.prog 79 _ (ReflectliteType.method ReflectliteType.elem) Tryd.func79 (by kernel_rfl) (by kernel_rfl) (by kernel_rfl) (by kernel_rfl)
  have h80 := @run_callFunc_extern Tryd.prog 80 _ (ReflectliteType.relation "Implements" ReflectliteType.implements_) Tryd.func80 (by kernel_rfl) (by kernel_rfl) (by kernel_rfl) (by kernel_rfl)
  have h41 := @run_callFunc_extern Tryd.prog 41 _ Extern.ReflectliteType.typeOf Tryd.func41 (by kernel_rfl) (by kernel_rfl) (by kernel_rfl) (by kernel_rfl)
  have h77 := @run_callFunc_extern Tryd.prog 77 _ (ReflectliteType.relation "AssignableTo" ReflectliteType.assignableTo) Tryd.func77 (by kernel_rfl) (by kernel_rfl) (by kernel_rfl) (by kernel_rfl)
  have tO := isTypeOf
  have mA := asMethodAssignableTo
  have mK := asMethodKind
  have mE := asMethodElem
  have mI := asMethodImplements
  have a25 := asAssEP
  have f6 := asValueOfF
  have f7 := asTypeF
  have k27 := asKindF
  have k25 := asKindP
  have e27 := asElemF
  have i25 := asImplP
  have hlt := hg.lt
  unfold ErrT at hg
  have n8 := asIsNilF ⟨w.heap.size, 0, none⟩ t ((w.alloc (.cells #[.pointer (some t)] 112)).alloc (.cells #[.pointer (some ⟨4, 112, none⟩), .pointer (some ⟨w.heap.size, 0, none⟩), .int .u64 150] 118)) (by simp)
  have hg2 : ((w.alloc (.cells #[.pointer (some t)] 112)).alloc (.cells #[.pointer (some ⟨4, 112, none⟩), .pointer (some ⟨w.heap.size, 0, none⟩), .int .u64 150] 118)).cell? ⟨3, 0, none⟩ = some (.iface 99 (.agg #[.pointer (some ⟨4, 40, none⟩)])) := by
    rw [World.cell?_alloc_lt _ _ ⟨3, 0, none⟩ (by simp; omega), World.cell?_alloc_lt _ _ ⟨3, 0, none⟩ hlt]; exact hg
  have ta1 := fun (v : Value) (w : World) => run_typeAssert_lacksB (P := Tryd.prog) (t := 44) (asserted := 127) (z := .nilIface) Tryd.underlying127 (by kernel_rfl) (by kernel_rfl) v 40 w
  have ta2 := fun (v : Value) (w : World) => run_typeAssert_lacksB (P := Tryd.prog) (t := 44) (asserted := 104) (z := .nilIface) Tryd.underlying104 (by kernel_rfl) (by kernel_rfl) v 40 w
  have ta3 := fun (v : Value) (w : World) => run_typeAssert_lacksB (P := Tryd.prog) (t := 44) (asserted := 106) (z := .nilIface) Tryd.underlying106 (by kernel_rfl) (by kernel_rfl) v 40 w
  go_enter Tryd.func51, Tryd.ntmps51
  go_wp2
  refine wp_loop_rounds 1 ?_
  rw [rounds_succ]
  go_wp2
  go_ret
  exact ⟨rfl, (((Below.refl _ _).alloc (Nat.le_refl _) _).alloc (by simp) _).alloc (by simp; omega) _⟩
end Go.Proofs.YtikkebjhnechdaaDoor
namespace Go.Proofs.YtikkebjhnechdaaDoor
open Go.RowKit Go.Mt
theorem as_hit' (k : Int) (b : Nat) (old : Value) (w : World) (hg : ErrT w) (ht0 : w.heap[b]? = some (.cells #[old] 44 (0, 0))) :
    Calls Tryd.prog 51 #[.iface 44 (.int .i64 k), .iface 110 (.pointer (some ⟨b, 0, none⟩))] w fun ev w' => ev = .returned (.bool true) ∧ w'.cell? ⟨b, 0, none⟩ = some (.int .i64 k) ∧ Keeps (· = b) w w' := by
  refine (as_hit k ⟨b, 0, none⟩ old w hg (by rw [cell_of_row w b 0 _ _ (0, 0) ht0]; rfl) (frozen_of_row _ _ _ _ _ ht0)).mono fun e w' ⟨h1, h2⟩ => ⟨h1, ?_, ?_⟩
  · rw [h2]
    have h3 := keep_alloc (keep_alloc (keep_alloc (keep_alloc ht0 (.cells #[.pointer (some ⟨b, 0, none⟩)] 110 (0, 0))) (.cells #[.pointer (some ⟨4, 110, none⟩), .pointer (some ⟨w.heap.size, 0, none⟩), .int .u64 150] 118 (0, 0))) (.cells #[.pointer (some ⟨4, 110, none⟩), .pointer (some ⟨w.heap.size, 0, none⟩), .int .u64 150] 118 (0, 0))) (.cells #[.int .i64 k] 44 (0, 0))
    have h4 := heap_setCell_same _ b 0 _ _ (.int .i64 k) h3
    rw [cell_of_row _ b 0 _ _ (0, 0) h4]; rfl
  · rw [h2]; exact ((((((Keeps.refl (· = b) w).alloc _).alloc _).alloc _).alloc _).setCell (p := ⟨b, 0, none⟩) (.inl rfl) _)

set_option maxHeartbeats 1000000 in
theorem why_any (k : Int) (w : World) (hg : ErrT w) :
    Calls Tryd.prog 49 #[.iface 44 (.int .i64 k)] w fun e w' => e = .returned (.tuple #[.int .i64 k, .int .i64 (-1)]) ∧ Below w.heap.size w w' := by
  have hb1 : Below w.heap.size w (w.alloc (.cells #[.int .i64 0] 44)) := (Below.refl _ _).alloc (Nat.le_refl _) _
  have hg1 := hg.below hb1 hg.lt
  have hlt := hg.lt
  have hneq : ∀ w, (binOp .eql 40 (.iface 44 (.int .i64 k)) .nilIface).run Tryd.prog w = .ok (.bool false) w := fun w => by kernel_rfl
  have H1 := Lib.hid (as_hit' k w.heap.size (.int .i64 0) (w.alloc (.cells #[.int .i64 0] 44)) hg1 (at_alloc _ rfl))
  have Hg := Lib.hid hg
  clear hg hg1
  go_enter Tryd.func49, Tryd.ntmps49
  go_wp2_with (first
    | (go_at_call 51; refine H1.out.mono ?_; rintro e w2 ⟨rfl, hc2, hk2⟩; have hb2 : Below w.heap.size w w2 := hb1.trans (hk2.below (by simp) (fun q hq h => by omega)); have hs2 : w.heap.size < w2.heap.size := Nat.lt_of_lt_of_le (by simp) hk2.size; have hb3 : Below w.heap.size w (w2.alloc (.cells #[.pointer none] 111)) := hb2.alloc hb2.size _; have hc3 : (w2.alloc (.cells #[.pointer none] 111)).cell? ⟨w.heap.size, 0, none⟩ = some (.int .i64 k) := (by rw [World.cell?_of_block (a := ⟨w.heap.size, 0, none⟩) (heap_alloc_old _ _ hs2)]; exact hc2); clear H1 hk2)
    | (go_at_call 51; refine (as_miss k _ _ (Hg.out.below hb3 hlt)).mono ?_; rintro e w4 ⟨rfl, hb4⟩; have hc4 : w4.cell? ⟨w.heap.size, 0, none⟩ = some (.int .i64 k) := (by rw [hb4.cell (p := ⟨w.heap.size, 0, none⟩) (by simp; omega)]; exact hc3); have hb4' := hb3.trans (hb4.mono hb3.size); clear hc2 hc3))
  go_ret2
  exact ⟨rfl, hb4'⟩
theorem why_nil (w : World) : Calls Tryd.prog 49 #[.nilIface] w fun e w' => e = .returned (.tuple #[.int .i64 0, .int .i64 (-1)]) ∧ w' = w := by
  go_enter Tryd.func49, Tryd.ntmps49
  go_wp2_with fail
  go_ret2
  exact ⟨rfl, rfl⟩
theorem number_any (k : Int) (w : World) (hg : ErrT w) : Calls Tryd.prog 31 #[.iface 44 (.int .i64 k)] w fun e w' => e = .returned (.int .i64 k) ∧ Below w.heap.size w w' := by
  have H1 := Lib.hid (why_any k w hg)
  clear hg
  go_enter Tryd.func31, Tryd.ntmps31
  go_wp2_with (go_at_call 49; refine H1.out.mono ?_; rintro e w2 ⟨rfl, hb2⟩)
  go_ret
  exact ⟨rfl, hb2⟩
theorem number_nil (w : World) : Calls Tryd.prog 31 #[.nilIface] w fun e w' => e = .returned (.int .i64 0) ∧ w' = w := by
  go_enter Tryd.func31, Tryd.ntmps31
  go_wp2_with (go_at_call 49; refine (why_nil w).mono ?_; rintro e w2 ⟨rfl, rfl⟩)
  go_ret
  exact ⟨rfl, rfl⟩
end Go.Proofs.YtikkebjhnechdaaDoor
