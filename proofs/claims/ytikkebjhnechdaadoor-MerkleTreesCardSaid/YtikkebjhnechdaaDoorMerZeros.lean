/- Walk: mootref05.Zeros. -/
import Derived.Test.YtikkebjhnechdaaDoorMerOrd
namespace Go.Proofs.YtikkebjhnechdaaDoor
open Go.RowKit Go.Mt

set_option maxRecDepth 100000 in
set_option maxHeartbeats 400000 in
theorem zeros_any (w : World) :
    Calls Tryd.prog 46 #[] w fun e w' => ∃ g cap, e = .returned (.slice (some ⟨g, 0, none⟩) 17 cap) ∧ w.heap.size ≤ g ∧ g < w'.heap.size ∧ DgsAt w' g 0 17 zr ∧ Below w.heap.size w w' := by
  have hmk : ∀ w, (Instr.makeSlice 48 (.int .i64 1) (.int .i64 1)).run Tryd.prog w = .ok (.slice (some ⟨w.heap.size, 0, none⟩) 1 1) (w.alloc (.cells z32 26)) := fun w => by kernel_rfl
  have ho0 : (w.alloc (.cells z32 26)).ownsRow w.heap.size 26 32 (.slice (some ⟨w.heap.size, 0, none⟩) 1 1) (firstL zr 1).length (dl (firstL zr 1)) := by
    have e : dl (firstL zr 1) = z32.toList := by kernel_rfl
    rw [firstL_length, e]
    exact ⟨by kernel_rfl, .inr ⟨w.heap.size, 1, z32, rfl, Nat.le_refl _, heap_alloc_new _ _, Nat.le_refl _, by decide, by kernel_rfl, by kernel_rfl⟩⟩
  have hb0 : Below w.heap.size w (w.alloc (.cells z32 26)) := (Below.refl _ _).alloc (Nat.le_refl _) _
  go_enter Tryd.func46, Tryd.ntmps46
  go_wp2_with fail
  go_loopw [1, 2] (fun v x wr => ∃ k : Nat, k ≤ 16 ∧ x = .int .i64 k ∧ wr.ownsRow w.heap.size 26 32 v (firstL zr (k + 1)).length (dl (firstL zr (k + 1))) ∧ Below w.heap.size w wr) (fun _ x _ => 16 - (intOf x).toNat)
  case atStart => exact ⟨0, by omega, rfl, ho0, hb0⟩
  case round =>
    obtain ⟨k, hk, rfl, ho, hb⟩ := hrel
    clear ho0 hb0 hmk
    have ho' := ho
    rw [firstL_length] at ho'
    obtain ⟨g, cap, rfl, -, hg1, hg2, hcap, hF⟩ := own_dgs ho' (by omega)
    clear ho'
    by_cases hlt : k < 16
    · obtain ⟨x, hx⟩ : ∃ x, x = zr k := ⟨_, rfl⟩
      obtain ⟨y, hy⟩ : ∃ y, y = zr (k + 1) := ⟨_, rfl⟩
      have hrg : ∀ w', w' = wr.drew → w'.rangeAt g (k * 32) (arr 32 (ub x)).toList := fun w' h => by
        rw [h, hx]; have := hF k (by omega); rw [Nat.zero_add] at this; exact this
      have hnx : firstL zr (k + 1 + 1) = firstL zr (k + 1) ++ [y] := by rw [hy]; exact firstL_succ zr (k + 1)
      have Hpair := Lib.hid (show ∀ w, Calls Tryd.prog 18 #[.agg (arr 32 (ub x)), .agg (arr 32 (ub x))] w fun e w' => e = .returned (.agg (arr 32 (ub y))) ∧ Below w.heap.size w w' from fun w => by
        have := refpair_any x x w
        rw [arr_pr, hx] at this
        rw [hx, hy]; exact this)
      have hlim : (firstL zr (k + 1)).length + [y].length ≤ 4398046511104 := by rw [firstL_length]; simp; omega
      have Ho := Lib.hid ho
      have Hnx := Lib.hid hnx
      have Hb := Lib.hid hb
      clear hx hy hnx ho hb hF
      go_wp2_with (first
        | (guard_target = Code.wp _ (Code.region 5 _ _) _ _ _; (refine MtOrd.wp_region_ord_in (id := 5) (fun _ => True) [(1, .head), (2, .head), (3, .head), (4, .head), (5, .head), (6, .head), (7, .head), (8, .head), (0, .free), (9, .loud), (10, .loud), (11, .loud), (12, .head)] (by kernel_rfl) (by kernel_rfl) (by intro c a d v w h; first | exact h | (cases d <;> exact h)) trivial ?_))
        | (guard_target = MtOrd.Ord _ _ _ _ ((10, _) :: _) _ _; refine ord_build1B (i := 10) rfl rfl (.tmp 17) rfl y rfl w1.heap.size rfl trivial ?_)
        | (guard_target = MtOrd.Ord _ _ _ _ ((11, _) :: _) _ _; refine ord_appendB (i := 11) rfl rfl (.tmp 8) (.tmp 18) rfl w.heap.size _ (firstL zr (k + 1)) [y] rfl ho2 ⟨w1.heap.size, 0, none⟩ 1 rfl (src_one (src_new w1 y _)) hlim hs2 ?_; intro v' w3 hv3 hk3 hat3; rw [← Hnx.out] at hv3; have hb3 : Below w.heap.size w w3 := hb2.trans (hk3.below hs2 (fun q hq h => by have := ho2.lt q h; omega)); clear ho2 hb2 hs2 hk3 hat3; refine ⟨trivial, ?_⟩)
        | (guard_target = MtOrd.Ord _ _ _ _ _ _ _; first | (refine MtOrd.ord_nil ?_) | (refine MtOrd.ord_head rfl rfl ?_; intro K hK; first | (first | (refine quiet_load_arr 26 (.tmp 11) rfl g (k * 32) rfl (arr 32 (ub x)) _ hrg Tryd.underlying26 rfl (infB' _) ?_) | (refine quiet_load_arr 26 (.tmp 15) rfl g (k * 32) rfl (arr 32 (ub x)) _ hrg Tryd.underlying26 rfl (infB' _) ?_); refine hK _ ?_; clear hK K) | (go_big_quiet_op; first | (refine hK _ ?_; clear hK K) | (apply Exists.intro; refine ⟨?_, ?_⟩; (fail); refine hK _ ?_; clear hK K))) | (refine MtOrd.ord_free rfl rfl ?_; intro K hK; first | (first | (refine quiet_load_arr 26 (.tmp 11) rfl g (k * 32) rfl (arr 32 (ub x)) _ hrg Tryd.underlying26 rfl (infB' _) ?_) | (refine quiet_load_arr 26 (.tmp 15) rfl g (k * 32) rfl (arr 32 (ub x)) _ hrg Tryd.underlying26 rfl (infB' _) ?_); refine hK _ ?_; clear hK K) | (go_big_quiet_op; refine hK _ ?_; clear hK K)) | (refine MtOrd.ord_skip rfl rfl ?_) | (refine MtOrd.ord_loud rfl rfl ?_; intro K hK))
        | (go_at_call 18; refine (Hpair.out wr.drew).mono ?_; rintro e w1 ⟨rfl, hb1⟩; have hb1' : Below w.heap.size w w1 := Hb.out.drew.trans (hb1.mono Hb.out.size); have ho2 := (own_below Ho.out (((Below.refl wr.heap.size wr).drew).trans hb1) (Nat.le_refl _)).alloc (.cells (arr 32 (ub y)) 26); have hb2 := hb1'.alloc hb1'.size (.cells (arr 32 (ub y)) 26); have hs2 := hb2.size; clear hb1 hb1'; refine hK _ _ trivial ?_; clear hK K))
      exact ⟨⟨k + 1, by omega, by go_num, hv3, hb3⟩, by simp [intOf]; omega⟩
    · obtain rfl : k = 16 := by omega
      go_wp2_with fail
      exact bodyPost_ret (results_tmp (t := 0) rfl _ _ _) rfl ⟨g, cap, rfl, hg1, hg2, hF, hb⟩
end Go.Proofs.YtikkebjhnechdaaDoor
