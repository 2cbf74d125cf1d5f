/- Walk: merkle.Zero. -/
import Derived.Test.YtikkebjhnechdaaDoorMerNought
import Derived.Test.YtikkebjhnechdaaDoorErrIs
namespace Go.Mt
/-- A digest of an array of digests. -/
theorem run_index_hrow {P : Program} {T E E1 : TypeId} {n : Nat} (hu : P.underlying T = some (.array n E)) (he : P.underlying E = some (.array 32 E1)) (hs : (P.info? E).map (·.size) = some 32)
    (ik : IntKind) (F : Nat → Dg) (i : Nat) (hi : i < n) (w : World) : (Instr.index T (.agg (hrow n F)) (.int ik (i : Int))).run P w = .ok (.agg (arr 32 (ub (F i)))) w := by
  cases hq : P.info? E with
  | none => simp [hq] at hs
  | some j =>
    have hj : j.size = 32 := by simpa [hq] using hs
    have e : (hrow n F).extract (i * 32) (i * 32 + 32) = arr 32 (ub (F i)) := by
      apply Array.ext_getElem?
      intro k
      rw [arr_get, Array.getElem?_extract]
      by_cases hk : k < 32
      · rw [if_pos (by simp; omega), if_pos hk, Nat.mul_comm, hrow_get F hi hk]; rfl
      · rw [if_neg (by simp; omega), if_neg hk]
    simp [Instr.index, part, asIntOf, run_underlying hu, run_underlying he, sizeOf, typeInfo, hq, hj, isAgg]
    rw [if_pos hi, e]
end Go.Mt
namespace Go.Proofs.YtikkebjhnechdaaDoor
open Go.RowKit Go.Mt

set_option maxRecDepth 100000 in
set_option maxHeartbeats 2000000 in
theorem zero_any (k : Nat) (hk : k ≤ 16) (w : World) (hT : Tabs w) :
    Calls Tryd.prog 26 #[.int .i64 k] w fun e w' => e = .returned (.tuple #[.agg (arr 32 (ub (zr k))), .nilIface]) ∧ Below w.heap.size w w' := by
  have infh : ∀ f, (Tryd.prog.info? 27).map (·.size) = some (arr 32 (ub f)).size := fun f => by rw [arr_size]; kernel_rfl
  have hres : (w.alloc (.cells z32 27)).heap[w.heap.size]? = some (.cells (arr 32 (ub fun _ => 0)) 27 (0, 0)) := at_z32 _ rfl
  have hb0 : Below w.heap.size w (w.alloc (.cells z32 27)) := (Below.refl _ _).alloc (Nat.le_refl _) _
  have hz := hT.2.2.2
  have hix := run_index_hrow (P := Tryd.prog) Tryd.underlying89 (show Tryd.prog.underlying 27 = some (.array 32 5) from Tryd.underlying27) (by kernel_rfl) .i64 zr k (show k < 17 by omega)
  have HT := Lib.hid hT
  clear hT
  go_enter Tryd.func26, Tryd.ntmps26
  go_wp2_with (first | (go_at_call 47; refine (noughts_any _ (HT.out.below hb0 hz)).mono ?_; rintro e w2 ⟨rfl, hb2⟩; have hr2 := keep_below hb2 hres (by simp); have hbw := hb0.trans (hb2.mono (by simp))) | (refine wpList_store_mid rfl 27 (.tmp 2) (.tmp 14) rfl w.heap.size 0 (arr 32 (ub (zr k))) rfl rfl (there_row hr2 (by simp)) (infh _) (bytes_one 32 _) ?_))
  refine bodyPost_ret (results_row_tmp (p := 2) (u := 3) (ty := 27) rfl _ _ w.heap.size 27 _ (0, 0) _ rfl (setCells_all hr2 _ (by simp)) Tryd.underlying27 rfl (infh _)) rfl ⟨rfl, ?_⟩
  exact hbw.trans (below_only (only_setCells _ _ _ (only_refl _ _)) (Nat.le_refl _) hbw.size)
end Go.Proofs.YtikkebjhnechdaaDoor
