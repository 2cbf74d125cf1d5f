/- Walk: merkle.noughts. -/
import Derived.Test.YtikkebjhnechdaaDoorMtMerkle
namespace Go.Mt
def zTo (k : Nat) : Nat → Dg := fun i => if i < k then zr i else fun _ => 0
end Go.Mt
namespace Go.Proofs.YtikkebjhnechdaaDoor
open Go.RowKit Go.Mt

set_option maxRecDepth 100000 in
set_option maxHeartbeats 2000000 in
theorem noughts_any (w : World) (hT : Tabs w) :
    Calls Tryd.prog 47 #[] w fun e w' => e = .returned (.agg (hrow 17 zr)) ∧ Below w.heap.size w w' := by
  have hz := hT.2.2.2
  have HT := Lib.hid hT
  clear hT
  have ez : Tryd.zeroCells89 = hrow 17 (zTo 1) := by kernel_rfl
  have e1 : ((w.alloc (.cells Tryd.zeroCells89 89)).alloc (.cells Tryd.zeroCells89 89)).heap[w.heap.size + 1]? = some (.cells (hrow 17 (zTo 1)) 89 (0, 0)) := by rw [← ez]; exact at_alloc _ (by simp)
  have e0 : ((w.alloc (.cells Tryd.zeroCells89 89)).alloc (.cells Tryd.zeroCells89 89)).heap[w.heap.size]? = some (.cells (hrow 17 (zTo 1)) 89 (0, 0)) := by rw [← ez]; exact keep_alloc (at_alloc _ rfl) _
  have hb0 : Below w.heap.size w ((w.alloc (.cells Tryd.zeroCells89 89)).alloc (.cells Tryd.zeroCells89 89)) := ((Below.refl _ _).alloc (Nat.le_refl _) _).alloc (by simp) _
  have inf : ∀ f, (Tryd.prog.info? 27).map (·.size) = some (arr 32 (ub f)).toList.length := fun f => by rw [Array.length_toList, arr_size]; kernel_rfl
  go_enter Tryd.func47, Tryd.ntmps47
  go_wp2_with fail
  go_loopw [2] (fun x wr => ∃ k : Nat, k ≤ 16 ∧ x = .int .i64 ((k : Int) + 1) ∧ wr.heap[w.heap.size + 1]? = some (.cells (hrow 17 (zTo (k + 1))) 89 (0, 0)) ∧ wr.heap[w.heap.size]? = some (.cells (hrow 17 (zTo 1)) 89 (0, 0)) ∧ Below w.heap.size w wr) (fun x _ => 17 - (intOf x).toNat)
  case atStart => exact ⟨0, by omega, rfl, e1, e0, hb0⟩
  case round =>
    obtain ⟨k, hk, rfl, hA, hZ, hb⟩ := hrel
    clear e1 e0 hb0
    by_cases hlt : k < 16
    · have hTr := HT.out.below hb hz
      have ek : zTo (k + 1) k = zr k := by unfold zTo; rw [if_pos (Nat.lt_succ_self k)]
      obtain ⟨a, ha⟩ : ∃ a, a = zr k := ⟨_, rfl⟩
      obtain ⟨y, hy⟩ : ∃ y, y = zr (k + 1) := ⟨_, rfl⟩
      have hrg : ∀ w', w' = wr.drew → w'.rangeAt (w.heap.size + 1) (k * 32) (arr 32 (ub a)).toList := fun w' h => by rw [h, ha, ← ek, Nat.mul_comm]; exact hrow_range (show wr.drew.heap[w.heap.size + 1]? = _ from hA) (by omega)
      have Hpair := Lib.hid (show ∀ w, Tabs w → Calls Tryd.prog 17 #[.agg (arr 32 (ub a)), .agg (arr 32 (ub a))] w fun e w' => e = .returned (.agg (arr 32 (ub y))) ∧ Below w.heap.size w w' from fun w h => by
        have := kecpair_any a a w h
        rw [arr_pr, ha] at this
        rw [ha, hy]; exact this)
      have Hy := Lib.hid hy
      have hset : ∀ w' : World, w'.heap[w.heap.size + 1]? = some (.cells (hrow 17 (zTo (k + 1))) 89 (0, 0)) → (w'.setCells (w.heap.size + 1) ((k + 1) * 32) (arr 32 (ub y)).toList).heap[w.heap.size + 1]? = some (.cells (hrow 17 (zTo (k + 1 + 1))) 89 (0, 0)) := fun w' h => by
        rw [Nat.mul_comm, hrow_set h (k := k + 1) (by omega) y]
        have e : (fun i => if i = k + 1 then y else zTo (k + 1) i) = zTo (k + 1 + 1) := by
          funext i
          unfold zTo
          by_cases h1 : i = k + 1
          · subst h1; rw [if_pos rfl, if_pos (Nat.lt_succ_self _), hy]
          · rw [if_neg h1]
            by_cases h2 : i < k + 1
            · rw [if_pos h2, if_pos (by omega)]
            · rw [if_neg h2, if_neg (by omega)]
        rw [e]
      have Hset := Lib.hid hset
      clear hset ek ha hy
      have hAd : wr.drew.heap[w.heap.size + 1]? = some (.cells (hrow 17 (zTo (k + 1))) 89 (0, 0)) := hA
      have hZd : wr.drew.heap[w.heap.size]? = some (.cells (hrow 17 (zTo 1)) 89 (0, 0)) := hZ
      have hl := lt_row hAd
      clear hA hZ
      go_wp2_with (first
        | (refine ord_store (i := 11) rfl rfl 27 (.tmp 17) (.tmp 16) rfl (w.heap.size + 1) ((k + 1) * 32) (arr 32 (ub y)) rfl rfl (by rw [arr_size, Nat.mul_comm]; exact hrow_there hA2 (by omega)) (by rw [arr_size]; exact (inf y).trans (by rw [Array.length_toList, arr_size])) (bytes_one 32 _) ?_; have hA3 := Hset.out _ hA2; have hZ3 := ((only_setCells (g := w.heap.size + 1) (arr 32 (ub y)).toList ((k + 1) * 32) w2 (only_refl w2 _)).block w.heap.size (lt_row hZ2) (by simp)).trans hZ2; have hb3 := hbw2.trans (below_only (only_setCells (g := w.heap.size + 1) (arr 32 (ub y)).toList ((k + 1) * 32) w2 (only_refl w2 _)) (Nat.le_succ _) (Nat.le_of_lt (lt_row hZ2))); generalize (w2.setCells (w.heap.size + 1) ((k + 1) * 32) (arr 32 (ub y)).toList) = w3 at hA3 hZ3 hb3 ⊢)
        | (refine MtOrd.wp_region_ord_lit (id := 5) [(1, .head), (2, .head), (3, .head), (4, .head), (5, .head), (6, .head), (7, .head), (8, .head), (0, .free), (9, .loud), (10, .head), (11, .loud)] (by kernel_rfl) (by kernel_rfl) (by intro c a d v w h; cases d <;> exact h) ?_)
        | (guard_target = MtOrd.Ord _ _ _ _ _ _ _; first | (refine MtOrd.ord_nil ?_) | (refine MtOrd.ord_head rfl rfl ?_; intro K hK; first | ((first | (refine quiet_load_arr 27 (.tmp 10) rfl (w.heap.size + 1) (k * 32) rfl (arr 32 (ub a)) _ hrg Tryd.underlying27 rfl (inf _) ?_) | (refine quiet_load_arr 27 (.tmp 14) rfl (w.heap.size + 1) (k * 32) rfl (arr 32 (ub a)) _ hrg Tryd.underlying27 rfl (inf _) ?_)); refine hK _ ?_; clear hK K) | (go_big_quiet_op; first | (refine hK _ ?_; clear hK K) | (apply Exists.intro; refine ⟨?_, ?_⟩; (fail); refine hK _ ?_; clear hK K))) | (refine MtOrd.ord_free rfl rfl ?_; intro K hK; go_big_quiet_op; (refine hK _ ?_; clear hK K)) | (refine MtOrd.ord_skip rfl rfl ?_) | (refine MtOrd.ord_loud0 rfl rfl ?_; intro K hK))
        | (go_at_call 17; refine (Hpair.out wr.drew hTr.drew).mono ?_; rintro e w2 ⟨rfl, hb2⟩; have hA2 := keep_below hb2 hAd hl; have hZ2 := keep_below hb2 hZd (lt_row hZd); have hbw2 := hb.drew.trans (hb2.mono hb.size); refine hK _ _ ?_; clear hK K))
      exact ⟨⟨k + 1, by omega, by go_num, hA3, hZ3, hb3⟩, by simp [intOf]; omega⟩
    · obtain rfl : k = 16 := by omega
      have ezr : hrow 17 (zTo 17) = hrow 17 zr := by
        unfold hrow
        exact arr_ext fun i hi => by unfold zTo; rw [if_pos (by omega)]
      rw [ezr] at hA
      have infr : ∀ F, (Tryd.prog.info? 89).map (·.size) = some (hrow 17 F).size := fun F => by rw [hrow_size]; kernel_rfl
      have h1 : (hrow 17 zr).all (·.oneCell') = true := by
        rw [Array.all_eq_true_iff_forall_mem]
        intro v hv
        obtain ⟨i, hi⟩ := Array.getElem?_of_mem hv
        unfold hrow at hi
        rw [arr_get] at hi
        split at hi
        · cases hi; rfl
        · cases hi
      go_wp2_with (first | (refine wpList_load_row rfl 89 (.tmp 1) rfl (w.heap.size + 1) rfl 89 (hrow 17 zr) (0, 0) _ hA Tryd.underlying89 rfl (infr _) ?_; clear hA) | (refine wpList_store_mid rfl 89 (.tmp 0) (.tmp 18) rfl w.heap.size 0 (hrow 17 zr) rfl rfl (there_row hZ (by simp)) (infr _) h1 ?_))
      refine bodyPost_ret (results_cell_row (p := 0) (ty := 89) rfl _ _ w.heap.size 89 _ (0, 0) _ rfl (setCells_all hZ _ (by simp)) Tryd.underlying89 rfl (infr _)) rfl ⟨rfl, ?_⟩
      exact hb.trans (below_only (only_setCells _ _ _ (only_refl _ _)) (Nat.le_refl _) hb.size)
end Go.Proofs.YtikkebjhnechdaaDoor
