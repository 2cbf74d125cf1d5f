/- Walk: mootlaw02.KeccakPermutes. -/
import Derived.Test.YtikkebjhnechdaaDoorRefPerm
import Derived.Test.YtikkebjhnechdaaDoorKecFixed
import Derived.Test.YtikkebjhnechdaaDoorMtEq
import Derived.Test.YtikkebjhnechdaaDoorMtPad
namespace Go.Proofs.YtikkebjhnechdaaDoor
open Go.RowKit Go.Mt

set_option maxRecDepth 100000 in
set_option maxHeartbeats 4000000 in
theorem permutes_law (a b : St) (w : World) (hT : Tabs w) :
    Calls Tryd.prog 4 #[.agg (arr 25 (uw a)), .agg (arr 25 (uw b))] w fun e w' => e = .returned (.bool true) ∧ Below w.heap.size w w' := by
  have inf : ∀ f, (Tryd.prog.info? 24).map (·.size) = some (arr 25 (uw f)).size := fun f => by rw [arr_size]; kernel_rfl
  have infl : ∀ f, (Tryd.prog.info? 24).map (·.size) = some (arr 25 (uw f)).toList.length := fun f => by rw [Array.length_toList]; exact inf f
  obtain ⟨bb, hbb⟩ : ∃ bb : Bool, bb = true ↔ Eq25 a b := ⟨@decide (Eq25 a b) (Classical.propDecidable _), by simp⟩
  have hbp : bb = true ↔ ∀ i, i < 25 → perm a i = perm b i := hbb.trans ⟨fun h => perm_congr h, fun h => perm_inj h⟩
  have e24 := Tryd.underlying24
  have hs1 : ∀ w, (sizeOf 23).run Tryd.prog w = .ok 1 w := fun w => by kernel_rfl
  have hpa := perm_any a
  have hpb := perm_any b
  have hra := refperm_any a
  have heq1 : ∀ w, (binOp .eql 24 (.agg (arr 25 (uw (perm a)))) (.agg (arr 25 (uw (perm a))))).run Tryd.prog w = .ok (.bool true) w := fun w => run_eql_uw w 24 23 25 e24 (by kernel_rfl) hs1 _ _ true (by simp)
  have heq2 : ∀ w, (binOp .eql 24 (.agg (arr 25 (uw (perm a)))) (.agg (arr 25 (uw (perm b))))).run Tryd.prog w = .ok (.bool bb) w := fun w => run_eql_uw w 24 23 25 e24 (by kernel_rfl) hs1 _ _ bb hbp
  have heq3 : ∀ w, (binOp .eql 24 (.agg (arr 25 (uw a))) (.agg (arr 25 (uw b)))).run Tryd.prog w = .ok (.bool bb) w := fun w => run_eql_uw w 24 23 25 e24 (by kernel_rfl) hs1 _ _ bb hbb
  generalize perm a = pa at *
  generalize perm b = pb at *
  have hA : ((w.alloc (.cells (arr 25 (uw a)) 24)).alloc (.cells (arr 25 (uw b)) 24)).heap[w.heap.size]? = some (.cells (arr 25 (uw a)) 24 (0, 0)) := keep_alloc (at_alloc _ rfl) _
  have hB : ((w.alloc (.cells (arr 25 (uw a)) 24)).alloc (.cells (arr 25 (uw b)) 24)).heap[w.heap.size + 1]? = some (.cells (arr 25 (uw b)) 24 (0, 0)) := at_alloc _ (by simp)
  have hb0 : Below w.heap.size w ((w.alloc (.cells (arr 25 (uw a)) 24)).alloc (.cells (arr 25 (uw b)) 24)) := ((Below.refl _ _).alloc (Nat.le_refl _) _).alloc (by simp) _
  have hsz : ((w.alloc (.cells (arr 25 (uw a)) 24)).alloc (.cells (arr 25 (uw b)) 24)).heap.size = w.heap.size + 2 := by simp
  have HT := Lib.hid hT
  have hz := hT.2.2.2
  have Hpa := Lib.hid hpa
  have Hpb := Lib.hid hpb
  have Hra := Lib.hid hra
  clear hT hpa hpb hra hbb hbp
  go_enter Tryd.func4, Tryd.ntmps4
  go_wp2_with (first
    | (refine wpList_load_row rfl 24 (.tmp 2) rfl w.heap.size rfl 24 (arr 25 (uw a)) (0, 0) _ hA Tryd.underlying24 rfl (inf _) ?_)
    | (go_at_call 12; refine (Hpa.out ((w.alloc (.cells (arr 25 (uw a)) 24)).alloc (.cells (arr 25 (uw b)) 24)) (HT.out.below hb0 hz)).mono ?_; rintro e w3 ⟨rfl, hb3⟩; have hA3 := keep_below hb3 hA (by rw [hsz]; omega); have hB3 := keep_below hb3 hB (by rw [hsz]; omega); have hbw3 := hb0.trans (hb3.mono (by rw [hsz]; omega)); clear hA hB; have hl3 := lt_row hB3)
    | (refine wpList_store_mid rfl 24 (.tmp 5) (.tmp 7) rfl w3.heap.size 0 (arr 25 (uw pa)) rfl rfl (there_row (at_z25 _ rfl) (by simp)) (inf _) (words_one 25 _) ?_; have hA4 := (only_setCells (g := w3.heap.size) (arr 25 (uw pa)).toList 0 _ (only_refl (w3.alloc (.cells z25 24)) _)).block w.heap.size (by simp; omega) (by simp; omega); have hA5 := hA4.trans (keep_alloc hA3 _); have hB4 := (only_setCells (g := w3.heap.size) (arr 25 (uw pa)).toList 0 _ (only_refl (w3.alloc (.cells z25 24)) _)).block (w.heap.size + 1) (by simp; omega) (by simp; omega); have hB5 := hB4.trans (keep_alloc hB3 _); have hP5 := setCells_all (at_z25 (w := w3) 24 rfl) (arr 25 (uw pa)) (by simp); have hbw4 := (hbw3.alloc (by omega) (.cells z25 24)).trans (below_only (only_setCells (g := w3.heap.size) (arr 25 (uw pa)).toList 0 _ (only_refl (w3.alloc (.cells z25 24)) _)) (show w.heap.size ≤ w3.heap.size by omega) (by simp; omega)); generalize hw4 : (World.setCells _ w3.heap.size 0 (arr 25 (uw pa)).toList) = w4 at hA5 hB5 hP5 hbw4 ⊢; clear hA4 hB4 hw4))
  obtain ⟨B0, hB0⟩ : ∃ B0, w4.heap.size = B0 := ⟨_, rfl⟩
  have hD0 : Below B0 w4 w4.drew := (Below.refl _ _).drew
  have hk : ∀ (w' : World) (k : Nat) (f : St), Below B0 w4 w' → w4.heap[k]? = some (.cells (arr 25 (uw f)) 24 (0, 0)) → w'.rangeAt k 0 (arr 25 (uw f)).toList := fun w' k f hw' h => range_of_row (keep_below hw' h (hB0 ▸ lt_row h))
  have hBs : w.heap.size ≤ B0 := hB0 ▸ hbw4.size
  generalize w3.heap.size = g5 at *
  have HA5 := Lib.hid hA5
  have HB5 := Lib.hid hB5
  have HP5 := Lib.hid hP5
  have Hbw := Lib.hid hbw4
  clear hA5 hB5 hP5 hbw4
  go_wp2_with (first
    | (refine MtOrd.wp_region_ord_in (id := 2) (fun w' => Below B0 w4 w') [(0, .loud), (1, .head), (3, .head), (2, .free), (4, .loud), (5, .head), (6, .loud), (7, .head), (9, .head), (8, .free), (12, .free), (13, .free), (14, .free), (10, .loud), (11, .head), (15, .head), (16, .loud), (17, .head)] (by kernel_rfl) (by kernel_rfl) (by intro c a d v w h; cases d <;> exact h) hD0 ?_)
    | (refine ord_pick (i := 6) rfl rfl (.tmp 9) (.tmp 13) (.const (.bool false)) true rfl rfl hDx ?_)
    | (refine ord_pick (i := 16) rfl rfl (.tmp 15) (.tmp 23) (.const (.bool false)) true rfl rfl hDy ?_)
    | (guard_target = MtOrd.Ord _ _ _ _ ((14, _) :: _) _ _; refine MtOrd.ord_free rfl rfl ?_; intro K hK; refine quiet_eql 24 24 (.tmp 20) (.tmp 21) rfl (arr 25 (uw a)) (arr 25 (uw b)) bb rfl rfl (by kernel_rfl) heq3 ?_; refine hK _ ?_; clear hK K)
    | (guard_target = MtOrd.Ord _ _ _ _ _ _ _; first | (refine MtOrd.ord_nil ?_) | (refine MtOrd.ord_head rfl rfl ?_; intro K hK; first | ((first | (refine quiet_load_arr 24 (.tmp 5) rfl g5 0 rfl (arr 25 (uw pa)) _ (fun w' hw' => hk w' g5 pa (by first | exact hw' | (subst hw'; assumption)) HP5.out) Tryd.underlying24 rfl (infl _) ?_) | (refine quiet_load_arr 24 (.tmp 2) rfl w.heap.size 0 rfl (arr 25 (uw a)) _ (fun w' hw' => hk w' w.heap.size a (by first | exact hw' | (subst hw'; assumption)) HA5.out) Tryd.underlying24 rfl (infl _) ?_) | (refine quiet_load_arr 24 (.tmp 3) rfl (w.heap.size + 1) 0 rfl (arr 25 (uw b)) _ (fun w' hw' => hk w' (w.heap.size + 1) b (by first | exact hw' | (subst hw'; assumption)) HB5.out) Tryd.underlying24 rfl (infl _) ?_)); refine hK _ ?_; clear hK K) | (go_big_quiet_op; first | (refine hK _ ?_; clear hK K) | (apply Exists.intro; refine ⟨?_, ?_⟩; (fail); refine hK _ ?_; clear hK K))) | (refine MtOrd.ord_free rfl rfl ?_; intro K hK; first | ((first | (refine quiet_load_arr 24 (.tmp 5) rfl g5 0 rfl (arr 25 (uw pa)) _ (fun w' hw' => hk w' g5 pa (by first | exact hw' | (subst hw'; assumption)) HP5.out) Tryd.underlying24 rfl (infl _) ?_) | (refine quiet_load_arr 24 (.tmp 2) rfl w.heap.size 0 rfl (arr 25 (uw a)) _ (fun w' hw' => hk w' w.heap.size a (by first | exact hw' | (subst hw'; assumption)) HA5.out) Tryd.underlying24 rfl (infl _) ?_) | (refine quiet_load_arr 24 (.tmp 3) rfl (w.heap.size + 1) 0 rfl (arr 25 (uw b)) _ (fun w' hw' => hk w' (w.heap.size + 1) b (by first | exact hw' | (subst hw'; assumption)) HB5.out) Tryd.underlying24 rfl (infl _) ?_)); refine hK _ ?_; clear hK K) | (go_big_quiet_op; refine hK _ ?_; clear hK K)) | (refine MtOrd.ord_skip rfl rfl ?_) | (refine MtOrd.ord_loud rfl rfl ?_; intro K hK))
    | (go_at_call 13; refine (fixed_any w4.drew (HT.out.below Hbw.out hz).drew).mono ?_; rintro e w5 ⟨rfl, hb5⟩; have hD5 : Below B0 w4 w5 := hD0.trans (hb5.mono (Nat.le_of_eq hB0.symm)); have hs5 : B0 ≤ w5.heap.size := (hB0 ▸ hb5.size); refine hK _ _ hD5 ?_; clear hK K)
    | (go_at_call 15; refine (Hra.out w5).mono ?_; rintro e w6 ⟨rfl, hb6⟩; have hDx : Below B0 w4 w6 := hD5.trans (hb6.mono hs5); have hs6 : B0 ≤ w6.heap.size := Nat.le_trans hs5 hb6.size; refine hK _ _ hDx ?_; clear hK K)
    | (go_at_call 12; refine (Hpb.out w6 (HT.out.below (Hbw.out.trans (hDx.mono hBs)) hz)).mono ?_; rintro e w7 ⟨rfl, hb7⟩; have hDy : Below B0 w4 w7 := hDx.trans (hb7.mono hs6); refine hK _ _ hDy ?_; clear hK K))
  exact bodyPost_ret (results_tmp (t := 4) rfl _ _ _) rfl ⟨rfl, Hbw.out.trans (hDy.mono hBs)⟩
end Go.Proofs.YtikkebjhnechdaaDoor
