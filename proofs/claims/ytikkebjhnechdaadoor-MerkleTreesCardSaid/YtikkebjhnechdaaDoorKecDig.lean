/- Walk: keccak.digest is dig. -/
import Derived.Test.YtikkebjhnechdaaDoorKecPerm
import Derived.Test.YtikkebjhnechdaaDoorMtRow
namespace Go.Proofs.YtikkebjhnechdaaDoor
open Go.RowKit Go.Mt

set_option maxRecDepth 100000 in
set_option maxHeartbeats 2000000 in
theorem digest_any (f : St) (w : World) :
    Calls Tryd.prog 39 #[.agg (arr 25 (uw f))] w fun e w' => e = .returned (.agg (arr 32 (ub (dig f)))) ∧ Below w.heap.size w w' := by
  have inf : ∀ f, (Tryd.prog.info? 27).map (·.size) = some (arr 32 (ub f)).size := fun f => by rw [arr_size]; kernel_rfl
  have e1 : ((((w.alloc (.cells (arr 25 (uw f)) 24)).alloc (.cells (arr 32 (ub fun _ => 0)) 27))).alloc (.cells (arr 32 (ub fun _ => 0)) 27)).heap[w.heap.size]? = some (.cells (arr 25 (uw f)) 24 (0, 0)) := keep_alloc (keep_alloc (at_alloc _ rfl) _) _
  have e2 : ((((w.alloc (.cells (arr 25 (uw f)) 24)).alloc (.cells (arr 32 (ub fun _ => 0)) 27))).alloc (.cells (arr 32 (ub fun _ => 0)) 27)).heap[w.heap.size + 1]? = some (.cells (arr 32 (ub fun _ => 0)) 27 (0, 0)) := keep_alloc (at_alloc _ (by simp)) _
  have e3 : ((((w.alloc (.cells (arr 25 (uw f)) 24)).alloc (.cells (arr 32 (ub fun _ => 0)) 27))).alloc (.cells (arr 32 (ub fun _ => 0)) 27)).heap[w.heap.size + 2]? = some (.cells (arr 32 (ub (digTo f 0))) 27 (0, 0)) := at_alloc _ (by simp)
  have hb0 : Below w.heap.size w ((((w.alloc (.cells (arr 25 (uw f)) 24)).alloc (.cells (arr 32 (ub fun _ => 0)) 27))).alloc (.cells (arr 32 (ub fun _ => 0)) 27)) := (((Below.refl _ _).alloc (Nat.le_refl _) _).alloc (by simp) _).alloc (by simp; omega) _
  go_enter Tryd.func39, Tryd.ntmps39
  go_wp2_with fail
  go_loopw [5] (fun i wr => ∃ k : Nat, k ≤ 32 ∧ i = .int .i64 k ∧ wr.heap[w.heap.size]? = some (.cells (arr 25 (uw f)) 24 (0, 0)) ∧ wr.heap[w.heap.size + 1]? = some (.cells (arr 32 (ub fun _ => 0)) 27 (0, 0)) ∧ wr.heap[w.heap.size + 2]? = some (.cells (arr 32 (ub (digTo f k))) 27 (0, 0)) ∧ Below w.heap.size w wr) (fun i _ => 32 - (intOf i).toNat)
  case atStart => exact ⟨0, by omega, rfl, e1, e2, e3, hb0⟩
  case round =>
    obtain ⟨i, hi, rfl, hA, hR, hZ, hbe⟩ := hrel
    clear e1 e2 e3 hb0
    have Hb := Lib.hid hbe
    clear hbe
    by_cases hlt : i < 32
    · clear inf
      have hca := words_of hA (i / 8) (by omega)
      have hcz := bytes_of hZ i (by omega)
      have hfr : ∀ j, wr.frozen? ⟨w.heap.size + 2, j, none⟩ = false := fun j => frozen_of_row _ _ _ _ _ hZ
      go_wp2_with fail
      refine ⟨⟨i + 1, by omega, by go_num, keep_set hA (by show w.heap.size + 1 + 1 ≠ w.heap.size; omega) _, keep_set hR (by simp) _, ?_, ?_⟩, by simp [intOf]; omega⟩
      · rw [set_bytes hZ, ← digTo_step]; rfl
      · exact (Hb.out).setCell (by show w.heap.size ≤ w.heap.size + 1 + 1; omega) _
    · obtain rfl : i = 32 := by omega
      go_wp2_with (first | (refine wpList_load_row rfl 27 (.tmp 3) rfl (w.heap.size + 2) rfl 27 (arr 32 (ub (digTo f 32))) (0, 0) _ hZ Tryd.underlying27 rfl (inf _) ?_) | (refine wpList_store_mid rfl 27 (.tmp 2) (.tmp 20) rfl (w.heap.size + 1) 0 (arr 32 (ub (digTo f 32))) rfl rfl (there_row hR (by simp)) (inf _) (bytes_one 32 _) ?_))
      refine bodyPost_ret (v := .agg (arr 32 (ub (dig f)))) (results_cell_row rfl _ _ (w.heap.size + 1) 27 _ (0, 0) _ rfl ((setCells_all hR _ (by simp)).trans (by rw [bytes_ext (digTo_end f)])) Tryd.underlying27 rfl (inf _)) rfl ⟨rfl, ?_⟩
      exact (Hb.out).trans (below_only (only_setCells _ _ _ (only_refl _ _)) (Nat.le_succ _) (Hb.out).size)
end Go.Proofs.YtikkebjhnechdaaDoor
