/- Walks: merkle.levels, Root, Path where they refuse. -/
import Derived.Test.YtikkebjhnechdaaDoorMerRoot
import Derived.Test.YtikkebjhnechdaaDoorMerPath
namespace Go.Proofs.YtikkebjhnechdaaDoor
open Go.RowKit Go.Mt
/-- What is wrong with a tree. -/
def Bad (D : Int) (n : Nat) (k : Int) : Prop := ((D < 0 ∨ 16 < D) ∧ k = 2) ∨ (0 ≤ D ∧ D ≤ 16 ∧ pw D < (n : Int) ∧ k = 5)

set_option maxRecDepth 100000 in
set_option maxHeartbeats 2000000 in
theorem levels_bad (D : Int) (n : Nat) (pp : Option Addr) (c : Nat) (k : Int) (w : World) (hT : Tabs w) (hk : Bad D n k) :
    Calls Tryd.prog 44 #[.int .i64 D, .slice pp n c] w fun e w' => e = .returned (.tuple #[.slice none 0 0, .agg (hrow 17 zr), .iface 44 (.int .i64 k)]) ∧ Below w.heap.size w w' := by
  have hz := hT.2.2.2
  have hb0 : Below w.heap.size w (w.alloc (.cells Tryd.zeroCells89 89)) := (Below.refl _ _).alloc (Nat.le_refl _) _
  have hr0 : (w.alloc (.cells Tryd.zeroCells89 89)).heap[w.heap.size]? = some (.cells Tryd.zeroCells89 89 (0, 0)) := at_alloc _ rfl
  have HT := Lib.hid hT
  clear hT
  have hpost : ∀ w2 w5 : World, Below w.heap.size w w2 → Keeps (· = w.heap.size) (w2.alloc (.cells (hrow 17 zr) 89)) w5 → Below w.heap.size w w5 := fun w2 w5 h1 h2 =>
    (h1.alloc h1.size _).trans (h2.below (h1.alloc h1.size _).size (fun k hk h => by omega))
  have Hpost := Lib.hid hpost
  clear hpost
  rcases hk with ⟨hD, rfl⟩ | ⟨h0, h1, h2, rfl⟩
  · rcases hD with hD | hD
    all_goals
      go_enter Tryd.func44, Tryd.ntmps44
      go_wp2_with (first
        | (guard_target = Code.wp _ (Code.region 3 _ _) _ (Act.put _ _ _) _; simp only [Act.put, List.setIfInBounds_toArray, List.set_cons_succ, List.set_cons_zero])
        | (go_at_call 47; refine (noughts_any _ (HT.out.below hb0 hz)).mono ?_; rintro e w2 ⟨rfl, hb2⟩; have hr2 := keep_below hb2 hr0 (lt_row hr0); have hbw := hb0.trans (hb2.mono hb0.size); clear hb0 hr0)
        | (guard_target = wpList _ _ _ (⟨_, Op.store _ (.tmp 7) _, _, _, _, _⟩ :: _) _ _; refine wpList_store_new rfl 89 (.tmp 7) (.tmp 14) rfl w2.heap.size _ (hrow 17 zr) 89 rfl rfl rfl (zc_size _) (infZ _) (hrow_one 17 _) ?_; have hZd : (w2.alloc (.cells (hrow 17 zr) 89)).drew.heap[w2.heap.size]? = some (.cells (hrow 17 zr) 89 (0, 0)) := at_alloc _ rfl; have hRd : (w2.alloc (.cells (hrow 17 zr) 89)).drew.heap[w.heap.size]? = some (.cells Tryd.zeroCells89 89 (0, 0)) := keep_alloc hr2 _; have hrgZ : ∀ w', w' = (w2.alloc (.cells (hrow 17 zr) 89)).drew → w'.rangeAt w2.heap.size 0 (hrow 17 zr).toList := (fun w' hw' => by rw [hw']; exact range_of_row hZd); have hth : (w2.alloc (.cells (hrow 17 zr) 89)).drew.there w.heap.size 0 (hrow 17 zr).size := there_row hRd (by rw [zc_size zr]; exact Nat.le_refl _); have HRd := Lib.hid hRd; clear hRd hZd hr2)
        | (guard_target = Code.wp _ (Code.region 3 _ _) _ _ _; (refine MtOrd.wp_region_ord_lit (id := 3) [(0, .head), (2, .head), (1, .free), (3, .loud), (4, .head)] (by kernel_rfl) (by kernel_rfl) (by intro c a d v w h; cases d <;> exact h) ?_))
        | (guard_target = MtOrd.Ord _ _ _ _ ((3, _) :: _) _ _; refine ord_store (i := 3) rfl rfl 89 (.tmp 5) (.tmp 22) rfl w.heap.size 0 (hrow 17 zr) rfl rfl hth (infZ _) (hrow_one 17 _) ?_; clear hrgZ hth; have hR5 := setCells_all HRd.out (hrow 17 zr) (zc_size zr); have hk5 := only_setCells (g := w.heap.size) (hrow 17 zr).toList 0 (w2.alloc (.cells (hrow 17 zr) 89)).drew (only_refl (w2.alloc (.cells (hrow 17 zr) 89)).drew _); generalize (w2.alloc (.cells (hrow 17 zr) 89)).drew.setCells w.heap.size 0 (hrow 17 zr).toList = w5 at hR5 hk5 ⊢; have hb5 := Hpost.out w2 w5 hbw (Keeps.trans (Keeps.refl _ _).drew (keeps_only hk5 fun k h => by cases h; rfl) (fun _ _ h => h)); clear hk5)
        | (guard_target = MtOrd.Ord _ _ _ _ _ _ _; first | (refine MtOrd.ord_nil ?_) | (refine MtOrd.ord_head rfl rfl ?_; intro K hK; first | ((refine quiet_load_arr 89 (.tmp 7) rfl w2.heap.size 0 rfl (hrow 17 zr) _ hrgZ Tryd.underlying89 rfl (by rw [Array.length_toList]; exact infZ _) ?_); refine hK _ ?_; clear hK K) | (go_big_quiet_op; first | (refine hK _ ?_; clear hK K) | (apply Exists.intro; refine ⟨?_, ?_⟩; (fail); refine hK _ ?_; clear hK K))) | (refine MtOrd.ord_free rfl rfl ?_; intro K hK; go_big_quiet_op; (refine hK _ ?_; clear hK K)) | (refine MtOrd.ord_skip rfl rfl ?_) | (refine MtOrd.ord_loud0 rfl rfl ?_; intro K hK)))
      exact bodyPost_ret (results_tmp_row_tmp (s := 4) (p := 5) (u := 6) (ty := 89) rfl _ _ w.heap.size 89 _ (0, 0) _ rfl hR5 Tryd.underlying89 rfl (infZ _)) rfl ⟨rfl, hb5⟩
  · have hd62 : D ≤ 62 := by omega
    go_enter Tryd.func44, Tryd.ntmps44
    go_wp2_with (first
      | (guard_target = Code.wp _ (Code.region 5 _ _) _ (Act.put _ _ _) _; simp only [Act.put, List.setIfInBounds_toArray, List.set_cons_succ, List.set_cons_zero])
      | (go_at_call 47; refine (noughts_any _ (HT.out.below hb0 hz)).mono ?_; rintro e w2 ⟨rfl, hb2⟩; have hr2 := keep_below hb2 hr0 (lt_row hr0); have hbw := hb0.trans (hb2.mono hb0.size); clear hb0 hr0)
      | (guard_target = wpList _ _ _ (⟨_, Op.store _ (.tmp 7) _, _, _, _, _⟩ :: _) _ _; refine wpList_store_new rfl 89 (.tmp 7) (.tmp 14) rfl w2.heap.size _ (hrow 17 zr) 89 rfl rfl rfl (zc_size _) (infZ _) (hrow_one 17 _) ?_; have hZd : (w2.alloc (.cells (hrow 17 zr) 89)).drew.heap[w2.heap.size]? = some (.cells (hrow 17 zr) 89 (0, 0)) := at_alloc _ rfl; have hRd : (w2.alloc (.cells (hrow 17 zr) 89)).drew.heap[w.heap.size]? = some (.cells Tryd.zeroCells89 89 (0, 0)) := keep_alloc hr2 _; have hrgZ : ∀ w', w' = (w2.alloc (.cells (hrow 17 zr) 89)).drew → w'.rangeAt w2.heap.size 0 (hrow 17 zr).toList := (fun w' hw' => by rw [hw']; exact range_of_row hZd); have hth : (w2.alloc (.cells (hrow 17 zr) 89)).drew.there w.heap.size 0 (hrow 17 zr).size := there_row hRd (by rw [zc_size zr]; exact Nat.le_refl _); have HRd := Lib.hid hRd; clear hRd hZd hr2)
      | (guard_target = Code.wp _ (Code.region 5 _ _) _ _ _; (refine MtOrd.wp_region_ord_lit (id := 5) [(0, .head), (2, .head), (1, .free), (3, .loud), (4, .head)] (by kernel_rfl) (by kernel_rfl) (by intro c a d v w h; cases d <;> exact h) ?_))
      | (guard_target = MtOrd.Ord _ _ _ _ ((3, _) :: _) _ _; refine ord_store (i := 3) rfl rfl 89 (.tmp 5) (.tmp 30) rfl w.heap.size 0 (hrow 17 zr) rfl rfl hth (infZ _) (hrow_one 17 _) ?_; clear hrgZ hth; have hR5 := setCells_all HRd.out (hrow 17 zr) (zc_size zr); have hk5 := only_setCells (g := w.heap.size) (hrow 17 zr).toList 0 (w2.alloc (.cells (hrow 17 zr) 89)).drew (only_refl (w2.alloc (.cells (hrow 17 zr) 89)).drew _); generalize (w2.alloc (.cells (hrow 17 zr) 89)).drew.setCells w.heap.size 0 (hrow 17 zr).toList = w5 at hR5 hk5 ⊢; have hb5 := Hpost.out w2 w5 hbw (Keeps.trans (Keeps.refl _ _).drew (keeps_only hk5 fun k h => by cases h; rfl) (fun _ _ h => h)); clear hk5)
      | (guard_target = MtOrd.Ord _ _ _ _ _ _ _; first | (refine MtOrd.ord_nil ?_) | (refine MtOrd.ord_head rfl rfl ?_; intro K hK; first | ((refine quiet_load_arr 89 (.tmp 7) rfl w2.heap.size 0 rfl (hrow 17 zr) _ hrgZ Tryd.underlying89 rfl (by rw [Array.length_toList]; exact infZ _) ?_); refine hK _ ?_; clear hK K) | (go_big_quiet_op; first | (refine hK _ ?_; clear hK K) | (apply Exists.intro; refine ⟨?_, ?_⟩; (fail); refine hK _ ?_; clear hK K))) | (refine MtOrd.ord_free rfl rfl ?_; intro K hK; go_big_quiet_op; (refine hK _ ?_; clear hK K)) | (refine MtOrd.ord_skip rfl rfl ?_) | (refine MtOrd.ord_loud0 rfl rfl ?_; intro K hK)))
    exact bodyPost_ret (results_tmp_row_tmp (s := 4) (p := 5) (u := 6) (ty := 89) rfl _ _ w.heap.size 89 _ (0, 0) _ rfl hR5 Tryd.underlying89 rfl (infZ _)) rfl ⟨rfl, hb5⟩

set_option maxRecDepth 100000 in
set_option maxHeartbeats 1000000 in
theorem root_bad (D : Int) (n : Nat) (pp : Option Addr) (c : Nat) (k : Int) (w : World) (hT : Tabs w) (hk : Bad D n k) :
    Calls Tryd.prog 24 #[.int .i64 D, .slice pp n c] w fun e w' => e = .returned (.tuple #[.agg (arr 32 (ub fun _ => 0)), .iface 44 (.int .i64 k)]) ∧ Below w.heap.size w w' := by
  have hz := hT.2.2.2
  have hb0 : Below w.heap.size w (w.alloc (.cells z32 27)) := (Below.refl _ _).alloc (Nat.le_refl _) _
  have hr0 : (w.alloc (.cells z32 27)).heap[w.heap.size]? = some (.cells z32 27 (0, 0)) := at_alloc _ rfl
  have infz : (Tryd.prog.info? 27).map (·.size) = some z32.size := by kernel_rfl
  have hz1 : z32.all (·.oneCell') = true := by kernel_rfl
  have Hlv := Lib.hid (levels_bad D n pp c k (w.alloc (.cells z32 27)) (hT.below hb0 hz) hk)
  clear hT hk
  rw [← z32_eq]
  go_enter Tryd.func24, Tryd.ntmps24
  go_wp2_with (first
    | (go_at_call 44; refine Hlv.out.mono ?_; rintro e w2 ⟨rfl, hb2⟩; have hr2 := keep_below hb2 hr0 (lt_row hr0); have hbw := hb0.trans (hb2.mono hb0.size); clear hb0 hr0 Hlv)
    | (guard_target = wpList _ _ _ (⟨_, Op.store _ (.tmp 7) _, _, _, _, _⟩ :: _) _ _; refine wpList_store_new rfl 89 (.tmp 7) (.tmp 14) rfl w2.heap.size _ (hrow 17 zr) 89 rfl rfl rfl (zc_size _) (infZ _) (hrow_one 17 _) ?_; have hr3 := keep_alloc hr2 (.cells (hrow 17 zr) 89 (0, 0)); have hb3 := hbw.alloc hbw.size (.cells (hrow 17 zr) 89))
    | (guard_target = wpList _ _ _ (⟨_, Op.store _ (.tmp 4) _, _, _, _, _⟩ :: _) _ _; refine wpList_store_mid rfl 27 (.tmp 4) (.tmp 19) rfl w.heap.size 0 z32 rfl rfl (there_row hr3 (Nat.le_refl _)) infz hz1 ?_))
  refine bodyPost_ret (results_row_tmp (p := 4) (u := 5) (ty := 27) rfl _ _ w.heap.size 27 _ (0, 0) _ rfl (setCells_all hr3 _ rfl) Tryd.underlying27 rfl infz) rfl ⟨rfl, ?_⟩
  exact hb3.trans (below_only (only_setCells _ _ _ (only_refl _ _)) (Nat.le_refl _) hb3.size)

set_option maxRecDepth 100000 in
set_option maxHeartbeats 1000000 in
theorem path_bad (D : Int) (n : Nat) (i : Int) (pp : Option Addr) (c : Nat) (k : Int) (w : World) (hT : Tabs w) (hk : Bad D n k) :
    Calls Tryd.prog 27 #[.int .i64 D, .slice pp n c, .int .i64 i] w fun e w' => e = .returned (.tuple #[.slice none 0 0, .iface 44 (.int .i64 k)]) ∧ Below w.heap.size w w' := by
  have Hlv := Lib.hid (levels_bad D n pp c k w hT hk)
  clear hT hk
  go_enter Tryd.func27, Tryd.ntmps27
  go_wp2_with (first
    | (go_at_call 44; refine Hlv.out.mono ?_; rintro e w2 ⟨rfl, hb2⟩)
    | (guard_target = wpList _ _ _ (⟨_, Op.store _ (.tmp 9) _, _, _, _, _⟩ :: _) _ _; refine wpList_store_new rfl 89 (.tmp 9) (.tmp 20) rfl w2.heap.size _ (hrow 17 zr) 89 rfl rfl rfl (zc_size _) (infZ _) (hrow_one 17 _) ?_))
  go_ret2
  exact ⟨rfl, hb2.alloc hb2.size _⟩
end Go.Proofs.YtikkebjhnechdaaDoor
