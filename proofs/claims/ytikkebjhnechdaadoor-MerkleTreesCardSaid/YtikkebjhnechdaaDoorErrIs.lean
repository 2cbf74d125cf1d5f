/- Walk: errors.Is of one error number with itself; a nil hasher. -/
import Derived.Test.YtikkebjhnechdaaDoorChecked
import Derived.Test.YtikkebjhnechdaaDoorKecSum
import Derived.Test.YtikkebjhnechdaaDoorMtPad
import Derived.WalkKit
import Derived.LaidEql
import Derived.Lib.IfaceEq
import Derived.Stop.Asserts
import Derived.RowKitTokens
namespace Go.Proofs.YtikkebjhnechdaaDoor
open Go.RowKit Go.Mt Go.Extern.Stop Go.Stop Go.Extern

theorem isTypeOf (v : Value) (w : World) : (Extern.ReflectliteType.typeOf #[.iface 44 v]).run Tryd.prog w = .ok (.iface 99 (.agg #[.pointer (some ⟨4, 44, none⟩)])) w := by kernel_rfl
/-- What '(rtype).Comparable' is. -/
def cmpExt : Array Value → Sem Value := Extern.ReflectliteType.method fun t => do Go.Extern.Rtype.noPackHeld "Comparable" t; pure (.bool (← typeInfo t).comparable)
theorem isComparable (w : World) : (cmpExt #[.agg #[.pointer (some ⟨4, 44, none⟩)]]).run Tryd.prog w = .ok (.bool true) w := by kernel_rfl
theorem isMethodComparable (v : Value) (w : World) : (Go.method 261 99 v "Comparable").run Tryd.prog w = .ok (78, v) w := by kernel_rfl
theorem isComp : (Tryd.prog.info? 44).map (·.comparable) = some true := by kernel_rfl

set_option maxRecDepth 100000 in
/-- errors.Is(x, x), x an error number. -/
theorem is_same (k : Int) (w : World) :
    Calls Tryd.prog 21 #[.iface 44 (.int .i64 k), .iface 44 (.int .i64 k)] w fun e w' => e = .returned (.bool true) ∧ w' = w := by
  have h8 := @run_callFunc_extern Tryd.prog 41 _ Extern.ReflectliteType.typeOf Tryd.func41 (by kernel_rfl) (by kernel_rfl) (by kernel_rfl) (by kernel_rfl)
  have h32 := @run_callFunc_extern Tryd.prog 78 _ cmpExt Tryd.func78 (by kernel_rfl) (by kernel_rfl) (by kernel_rfl) (by kernel_rfl)
  have tT := isTypeOf
  have cT := isComparable
  have mR := isMethodComparable
  have heq : (binOp .eql 40 (.iface 44 (.int .i64 k)) (.iface 44 (.int .i64 k))).run Tryd.prog w = .ok (.bool true) w := by
    rw [Lib.run_eql_iface_int (P := Tryd.prog) w k k Tryd.underlying40 isComp Tryd.underlying44]; simp
  go_enter Tryd.func21, Tryd.ntmps21
  go_wp2
  refine wp_loop_rounds 1 ?_
  rw [rounds_succ]
  go_wp2
  go_ret
  exact ⟨rfl, rfl⟩

theorem hsum_nil0 (w : World) :
    Calls Tryd.prog 20 #[.pointer none] w fun e w' => e = .returned (.tuple #[.agg z32, .iface 44 (.int .i64 1)]) ∧ Below w.heap.size w w' := by
  have infh : ∀ f, (Tryd.prog.info? 27).map (·.size) = some (arr 32 (ub f)).size := fun f => by rw [arr_size]; kernel_rfl
  have infz : (Tryd.prog.info? 27).map (·.size) = some z32.size := by kernel_rfl
  have hz1 : z32.all (·.oneCell') = true := by kernel_rfl
  have hr := at_z32 (w := w) 27 rfl
  have hb : Below w.heap.size w (w.alloc (.cells z32 27)) := (Below.refl _ _).alloc (Nat.le_refl _) _
  go_enter Tryd.func20, Tryd.ntmps20
  go_wp2_with (refine wpList_store_mid rfl 27 (.tmp 2) (.tmp 7) rfl w.heap.size 0 z32 rfl rfl (there_row hr (by rw [arr_size]; decide)) infz hz1 ?_; have hr2 := setCells_all hr z32 (by rw [arr_size]; rfl))
  refine bodyPost_ret (results_row_tmp (p := 2) (u := 3) (ty := 27) rfl _ _ w.heap.size 27 _ (0, 0) _ rfl hr2 Tryd.underlying27 rfl infz) rfl ⟨rfl, ?_⟩
  exact hb.trans (below_only (only_setCells _ _ _ (only_refl _ _)) (Nat.le_refl _) (by simp))
theorem hsum_nil (w : World) :
    Calls Tryd.prog 20 #[.pointer none] w fun e w' => e = .returned (.tuple #[.agg (arr 32 (ub fun _ => 0)), .iface 44 (.int .i64 1)]) ∧ Below w.heap.size w w' := by
  rw [← z32_eq]; exact hsum_nil0 w
theorem add_nil (sp : Option Addr) (n c : Nat) (w : World) :
    Calls Tryd.prog 22 #[.pointer none, .slice sp n c] w fun e w' => e = .returned (.iface 44 (.int .i64 1)) ∧ w = w' := by
  go_enter Tryd.func22, Tryd.ntmps22
  go_wp2_with fail
  exact bodyPost_ret (results_tmp (t := 4) rfl _ _ _) rfl ⟨rfl, rfl⟩
end Go.Proofs.YtikkebjhnechdaaDoor
