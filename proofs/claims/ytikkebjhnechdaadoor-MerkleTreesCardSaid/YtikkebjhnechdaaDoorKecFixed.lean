/- Walk: mootlaw02.fixed. -/
import Derived.Test.YtikkebjhnechdaaDoorKecKsum
import Derived.Test.YtikkebjhnechdaaDoorMtEmpty
namespace Go.Mt
theorem empty_xin : Eq25 (xin (fun _ => 0) (pad [])) (ofL em0) := eq25_of_map (by decide +kernel)
theorem sumB_nil {i : Nat} (h : i < 32) : sumB [] i = dig (ofL em24) i := by
  unfold sumB absorb
  rw [feed_end (by simp)]
  show dig (perm (xin (fun _ => 0) (pad []))) i = _
  rw [dig_congr (perm_congr empty_xin) h, dig_congr empty_perm h]
theorem sumB_nil0 : sumB [] 0 = 197#8 := (sumB_nil (by decide)).trans (by decide +kernel)
theorem sumB_nil1 : sumB [] 1 = 210#8 := (sumB_nil (by decide)).trans (by decide +kernel)
theorem sumB_nil31 : sumB [] 31 = 112#8 := (sumB_nil (by decide)).trans (by decide +kernel)
end Go.Mt
namespace Go.Proofs.YtikkebjhnechdaaDoor
open Go.RowKit Go.Mt

set_option maxRecDepth 100000 in
set_option maxHeartbeats 2000000 in
theorem fixed_any (w : World) (hT : Tabs w) :
    Calls Tryd.prog 13 #[] w fun e w' => e = .returned (.bool true) ∧ Below w.heap.size w w' := by
  have infh : ∀ f, (Tryd.prog.info? 27).map (·.size) = some (arr 32 (ub f)).size := fun f => by rw [arr_size]; kernel_rfl
  obtain ⟨x, hx⟩ : ∃ x, x = sumB [] := ⟨_, rfl⟩
  have Hsum := Lib.hid (show Calls Tryd.prog 14 #[.slice none 0 0] w fun e w' => e = .returned (.agg (arr 32 (ub x))) ∧ Below w.heap.size w w' from by
    rw [hx]; exact ksum_any none 0 0 [] w hT rfl (Src.nil _ _) (fun a h => by cases h) (fun _ => rfl) (by omega))
  have h0 : x 0 = 197#8 := hx ▸ sumB_nil0
  have h1 : x 1 = 210#8 := hx ▸ sumB_nil1
  have h31 : x 31 = 112#8 := hx ▸ sumB_nil31
  clear hx
  go_enter Tryd.func13, Tryd.ntmps13
  go_wp2_with (first | (go_at_call 14; refine Hsum.out.mono ?_; rintro e w4 ⟨rfl, hb4⟩; have hr5 : (w4.alloc (.cells z32 27)).heap[w4.heap.size]? = some (.cells (arr 32 (ub fun _ => 0)) 27 (0, 0)) := z32_eq ▸ at_alloc _ rfl) | (refine wpList_store_mid rfl 27 (.tmp 1) (.tmp 2) rfl w4.heap.size 0 (arr 32 (ub x)) rfl rfl (there_row hr5 (by simp)) (infh _) (bytes_one 32 _) ?_; generalize hw6 : (World.setCells _ w4.heap.size 0 (arr 32 (ub x)).toList) = w6; have hr6 : w6.heap[w4.heap.size]? = some (.cells (arr 32 (ub x)) 27 (0, 0)) := hw6 ▸ setCells_all hr5 (arr 32 (ub x)) (by simp); have hb6 : Below w4.heap.size w4 w6 := hw6 ▸ (((Below.refl _ _).alloc (Nat.le_refl _) (.cells z32 27)).trans ((below_only (only_setCells (g := w4.heap.size) (arr 32 (ub x)).toList 0 _ (only_refl (w4.alloc (.cells z32 27)) _)) (Nat.le_refl _) (by simp)).mono (Nat.le_refl _))); have hc0 : w6.cell? ⟨w4.heap.size, 0, none⟩ = some (.int .u8 197) := ((bytes_of hr6 0 (by omega)).trans (by rw [h0]; rfl)); have hc1 : w6.cell? ⟨w4.heap.size, 1, none⟩ = some (.int .u8 210) := ((bytes_of hr6 1 (by omega)).trans (by rw [h1]; rfl)); have hc31 : w6.cell? ⟨w4.heap.size, 31, none⟩ = some (.int .u8 112) := ((bytes_of hr6 31 (by omega)).trans (by rw [h31]; rfl)); clear hw6))
  exact bodyPost_ret (results_tmp (t := 0) rfl _ _ _) rfl ⟨rfl, hb4.trans (hb6.mono hb4.size)⟩
end Go.Proofs.YtikkebjhnechdaaDoor
