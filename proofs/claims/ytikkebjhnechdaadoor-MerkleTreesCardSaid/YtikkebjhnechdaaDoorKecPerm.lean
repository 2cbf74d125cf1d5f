/- Walk: keccak.Permute computes perm. -/
import Derived.Test.YtikkebjhnechdaaDoorKecRot
import Derived.Test.YtikkebjhnechdaaDoorMtKec
import Derived.Deep.MidRow
import Derived.Deep.CutBlock
import Derived.Test.YtikkebjhnechdaaDoorKecTheta
import Derived.Test.YtikkebjhnechdaaDoorKecChi
import Derived.Test.YtikkebjhnechdaaDoorKecRp
namespace Go.Proofs.YtikkebjhnechdaaDoor
open Go.RowKit Go.Mt

def Tabs (w : World) : Prop := w.rangeAt 0 0 roundsV ∧ w.rangeAt 1 0 lanesV ∧ w.rangeAt 2 0 turnsV ∧ 3 ≤ w.heap.size
theorem Tabs.below {B : Nat} {w w' : World} (h : Tabs w) (hb : Below B w w') (h3 : 3 ≤ B) : Tabs w' := by
  obtain ⟨a, b, c, d⟩ := h
  refine ⟨fun j v hv => ?_, fun j v hv => ?_, fun j v hv => ?_, Nat.le_trans d hb.size⟩
  · rw [hb.cell (by show 0 < B; omega)]; exact a j v hv
  · rw [hb.cell (by show 1 < B; omega)]; exact b j v hv
  · rw [hb.cell (by show 2 < B; omega)]; exact c j v hv
theorem Tabs.turn {w : World} (h : Tabs w) (i : Nat) (hi : i < 24) : w.cell? ⟨2, i, none⟩ = some (.int .i64 (turn i)) := by
  have := h.2.2.1 i _ (turns_at i hi)
  rwa [Nat.zero_add] at this
set_option maxRecDepth 100000 in
set_option maxHeartbeats 4000000 in
theorem perm_any (f : St) (w : World) (hT : Tabs w) :
    Calls Tryd.prog 12 #[.agg (arr 25 (uw f))] w fun e w' => e = .returned (.agg (arr 25 (uw (perm f)))) ∧ Below w.heap.size w w' := by
  have ty69 := Tryd.underlying69
  have inf69 : (Tryd.prog.info? 69).map (·.size) = some roundsV.length := by kernel_rfl
  have inf73 : (Tryd.prog.info? 73).map (·.size) = some lanesV.length := by kernel_rfl
  have inf23 : (Tryd.prog.info? 23).map (·.size) = some 1 := by kernel_rfl
  have inf24 : (Tryd.prog.info? 24).map (·.size) = some 25 := by kernel_rfl
  have inf24' : ∀ f, (Tryd.prog.info? 24).map (·.size) = some (arr 25 (uw f)).toList.length := fun f => by rw [inf24]; simp
  have inf24s : ∀ f, (Tryd.prog.info? 24).map (·.size) = some (arr 25 (uw f)).size := fun f => by rw [inf24]; simp
  have hz := hT.2.2.2
  have e1 : (((w.alloc (.cells (arr 25 (uw f)) 24)).alloc (.cells (arr 25 (uw fun _ => 0)) 24))).heap[w.heap.size]? = some (.cells (arr 25 (uw (permTo f 0))) 24 (0, 0)) := by
    rw [heap_alloc2_old]; rfl
  have e2 : ((w.alloc (.cells (arr 25 (uw f)) 24)).alloc (.cells (arr 25 (uw fun _ => 0)) 24)).heap[w.heap.size + 1]? = some (.cells (arr 25 (uw fun _ => 0)) 24 (0, 0)) := heap_alloc2_new _ _ _
  have hb0 : Below w.heap.size w ((w.alloc (.cells (arr 25 (uw f)) 24)).alloc (.cells (arr 25 (uw fun _ => 0)) 24)) := ((Below.refl _ _).alloc (Nat.le_refl _) _).alloc (by simp) _
  go_enter Tryd.func12, Tryd.ntmps12
  go_wp2_with (refine wpList_load_mid rfl 69 (.global 0) rfl 0 0 rfl roundsV _ (World.rangeAt_alloc (World.rangeAt_alloc hT.1 _) _) ty69 rfl inf69 ?_)
  go_loopw [28] (fun i wr => ∃ k : Nat, k ≤ 24 ∧ i = .int .i64 k ∧ wr.heap[w.heap.size]? = some (.cells (arr 25 (uw (permTo f k))) 24 (0, 0)) ∧ wr.heap[w.heap.size + 1]? = some (.cells (arr 25 (uw fun _ => 0)) 24 (0, 0)) ∧ Below w.heap.size w wr) (fun i _ => 24 - (intOf i).toNat)
  case atStart => exact ⟨0, by omega, rfl, e1, e2, hb0⟩
  case round =>
    obtain ⟨k, hk, rfl, hA, hZ, hbe⟩ := hrel
    clear e1 e2 hb0
    have HT := Lib.hid hT
    clear hT
    have Hb := Lib.hid hbe
    clear hbe
    generalize hg : permTo f k = g at hA
    have Hg := Lib.hid hg
    clear hg
    have hQQ : True := trivial
    by_cases hlt : k < 24
    · have hc := words_of hA
      have hix := run_index_arr ty69 Tryd.underlying23 inf23 .i64 roundsV.toArray k hlt _ (rounds_at k hlt)
      go_upto_block 2 with (first | (refine MtOrd.wp_region_ord_lit (id := 4) [(0, .head), (1, .head), (2, .head), (3, .head), (4, .head), (5, .head), (6, .head), (7, .head), (8, .head), (9, .head), (10, .head), (11, .head), (12, .head), (13, .head), (14, .head), (15, .head), (16, .head), (17, .head), (18, .head), (19, .head), (20, .head), (21, .head), (22, .head), (23, .head), (24, .head), (25, .head), (26, .head), (27, .head), (28, .head), (29, .head), (30, .head), (31, .head), (32, .head), (33, .head), (34, .head), (35, .head), (36, .head), (37, .head), (38, .head), (39, .head), (40, .head), (41, .head), (42, .head), (43, .head), (44, .head), (45, .head), (46, .head), (47, .head), (48, .head), (49, .head), (50, .head), (51, .head), (52, .head), (53, .head), (54, .head), (55, .head), (56, .head), (57, .head), (58, .head), (59, .head), (60, .head), (61, .head), (62, .head), (63, .head), (64, .head), (65, .head), (66, .head), (67, .head), (68, .head), (69, .head), (70, .head), (71, .head), (72, .head), (73, .head), (74, .head)] (by kernel_rfl) (by kernel_rfl) (by intro c a d v w h; cases d <;> exact h) ?_) | (guard_target = MtOrd.Ord _ _ _ _ _ _ _; first | (refine MtOrd.ord_nil ?_) | (refine MtOrd.ord_head rfl rfl ?_; intro K hK; first | ((fail); refine hK _ ?_; clear hK K) | (go_big_quiet_op; first | (refine hK _ ?_; clear hK K) | (apply Exists.intro; refine ⟨?_, ?_⟩; (fail); refine hK _ ?_; clear hK K))) | (refine MtOrd.ord_free rfl rfl ?_; intro K hK; go_big_quiet_op; (refine hK _ ?_; clear hK K)) | (refine MtOrd.ord_skip rfl rfl ?_) | (refine MtOrd.ord_loud0 rfl rfl ?_; intro K hK)) | (go_at_call 35; refine (rot_any _ _ _ (by omega) (by omega)).mono ?_; rintro e w2 ⟨rfl, rfl⟩))
      (refine theta_loop g w.heap.size _ _ _ _ _ (dd_0 g) (dd_1 g) (dd_2 g) (dd_3 g) (dd_4 g) _ _ _ _ _ _ _ _ _ _ _ _ _ _ _ _ _ _ _ _ _ _ _ _ _ _ _ _ _ _ _ _ _ _ _ _ _ _ _ _ _ _ _ _ _ _ _ _ _ _ _ _ _ _ _ _ _ _ _ _ _ _ _ _ _ _ _ _ _ _ _ _ _ _ _ _ _ _ _ _ _ _ _ _ _ _ _ _ _ _ _ _ _ _ _ _ _ _ _ _ _ _ _ _ _ _ _ _ _ _ _ _ _ _ _ _ _ _ _ _ _ _ _ _ _ _ _ _ _ _ _ _ _ _ _ _ _ _ _ _ _ _ _ _ _ _ _ _ _ _ _ _ _ _ _ _ _ _ _ _ _ _ _ _ _ _ _ _ _ _ _ _ _ _ _ _ _ _ _ _ _ _ _ _ _ _ _ _ _ _ _ _ _ _ _ _ _ _ _ _ _ _ _ _ _ _ _ _ _ _ _ _ _ _ _ _ _ _ _ _ _ _ _ _ _ _ _ _ _ _ _ _ _ _ _ _ _ _ _ _ _ _ _ _ _ _ _ _ _ _ _ _ _ _ _ _ _ _ _ _ _ _ _ _ _ (by intro c a d v w h; cases d <;> exact h) hA ?_; intro y15 y16 y121 y122 y123 y124 y125 y126 y127 y128 y129 y130 y131 y132 y133 y134 y135 y136 y137 y138 y139 y140 y141 y142 y143 y144 y145 y146 y147 y148 y149 y150 y151 y152 y153 y154 y155 y156 y157 y158 y159 y160 y161 y162 y163 y164 y165 y166 y167 y168 y169 y170 y171 y172 w2 hA2 hg2; have Hb2 := Lib.hid ((Hb.out).drew.trans (below_only hg2 (Nat.le_refl _) (Hb.out).drew.size)); have HT2 := Lib.hid ((HT.out).below Hb2.out hz); have hZ2 := (hg2.block (w.heap.size + 1) (lt_of_block hZ) (by simp)).trans hZ; have hc1 := words_of hA2 1 (by omega); have hl2 := (HT2.out).2.1; clear hc hA hZ hg2)
      trace "theta"
      go_upto_block 4 with (first | (refine wpList_load_mid rfl 73 (.global 1) rfl 1 0 rfl lanesV _ hl2 Tryd.underlying73 rfl inf73 ?_) | (guard_target = MtOrd.Ord _ _ _ _ _ _ _; first | (refine MtOrd.ord_nil ?_) | (refine MtOrd.ord_head rfl rfl ?_; intro K hK; first | ((fail); refine hK _ ?_; clear hK K) | (go_big_quiet_op; first | (refine hK _ ?_; clear hK K) | (apply Exists.intro; refine ⟨?_, ?_⟩; (fail); refine hK _ ?_; clear hK K))) | (refine MtOrd.ord_free rfl rfl ?_; intro K hK; go_big_quiet_op; (refine hK _ ?_; clear hK K)) | (refine MtOrd.ord_skip rfl rfl ?_) | (refine MtOrd.ord_loud0 rfl rfl ?_; intro K hK)))
      (refine rp_loop (thetaTo g 5) w.heap.size _ _ _ _ _ _ _ _ _ _ _ _ _ _ _ _ _ _ _ _ _ _ _ _ _ _ _ _ _ _ _ _ _ _ _ _ _ _ _ _ _ _ _ _ _ _ _ _ _ _ _ _ _ _ _ _ _ _ _ _ _ _ _ _ _ _ _ _ _ _ _ _ _ _ _ _ _ _ _ _ _ _ _ _ _ _ _ _ _ _ _ _ _ _ _ _ _ _ _ _ _ _ _ _ _ _ _ _ _ _ _ _ _ _ _ _ _ _ _ _ _ _ _ _ _ _ _ _ _ _ _ _ _ _ _ _ _ _ _ _ _ _ _ _ _ _ _ _ _ _ _ _ _ _ _ _ _ _ _ _ _ _ _ _ _ _ _ _ _ _ _ _ _ _ _ _ _ _ _ _ _ _ _ _ _ _ _ _ _ _ _ _ _ _ _ _ _ _ _ _ _ _ _ _ _ _ _ _ _ _ _ _ _ _ _ _ _ _ _ _ _ _ _ _ _ _ _ _ _ _ _ _ _ _ _ _ _ _ _ _ _ _ _ _ _ _ _ _ _ _ _ _ _ _ _ _ _ _ _ _ _ _ _ _ _ _ _ _ (by intro c a d v w h; cases d <;> exact h) (fun i hi => (HT2.out).turn i hi) (by omega) hA2 ?_; intro y17 y18 y19 y176 y177 y178 y179 y180 y181 y182 y183 y184 y185 y186 y187 y188 y189 y190 w3 hA3 hg3; have Hb3 := Lib.hid ((Hb2.out).trans (below_only hg3 (Nat.le_refl _) (Hb2.out).size)); have hZ3 := (hg3.block (w.heap.size + 1) (lt_of_block hZ2) (by simp)).trans hZ2; clear hc1 hA2 hZ2 hg3 hl2)
      trace "rp"
      go_upto_block 6 with (fail)
      (refine chi_loop (rp (thetaTo g 5) 24).2 w.heap.size _ _ _ _ _ _ _ _ _ _ _ _ _ _ _ _ _ _ _ _ _ _ _ _ _ _ _ _ _ _ _ _ _ _ _ _ _ _ _ _ _ _ _ _ _ _ _ _ _ _ _ _ _ _ _ _ _ _ _ _ _ _ _ _ _ _ _ _ _ _ _ _ _ _ _ _ _ _ _ _ _ _ _ _ _ _ _ _ _ _ _ _ _ _ _ _ _ _ _ _ _ _ _ _ _ _ _ _ _ _ _ _ _ _ _ _ _ _ _ _ _ _ _ _ _ _ _ _ _ _ _ _ _ _ _ _ _ _ _ _ _ _ _ _ _ _ _ _ _ _ _ _ _ _ _ _ _ _ _ _ _ _ _ _ _ _ _ _ _ _ _ _ _ _ _ _ _ _ _ _ _ _ _ _ _ _ _ _ _ _ _ _ _ _ _ _ _ _ _ _ _ _ _ _ _ _ _ _ _ _ _ _ _ _ _ _ _ _ _ _ _ _ _ _ _ _ _ _ _ _ _ _ _ _ _ _ _ _ _ _ _ _ _ _ _ _ _ _ _ _ _ _ _ _ _ _ _ _ _ _ _ _ _ _ _ _ _ _ _ _ (by intro c a d v w h; cases d <;> exact h) hA3 ?_; intro y20 y21 y22 y23 y24 y25 y26 y191 y192 y193 y194 y195 y196 y197 y198 y199 y200 y201 y202 y203 y204 y205 y206 y207 y208 y209 y210 y211 y212 y213 y214 y215 y216 y217 y218 y219 y220 y221 y222 y223 y224 y225 y226 y227 y228 y229 y230 y231 y232 y233 y234 y235 y236 y237 y238 y239 y240 y241 y242 y243 y244 y245 y246 y247 y248 y249 y250 y251 y252 y253 y254 y255 y256 y257 y258 y259 y260 y261 y262 w4 hA4 hg4; have Hb4 := Lib.hid ((Hb3.out).trans (below_only hg4 (Nat.le_refl _) (Hb3.out).size)); have hZ4 := (hg4.block (w.heap.size + 1) (lt_of_block hZ3) (by simp)).trans hZ3; have hc0 := words_of hA4 0 (by omega); have hfr : ∀ j, w4.frozen? ⟨w.heap.size, j, none⟩ = false := fun j => frozen_of_row _ _ _ _ _ hA4; clear hA3 hZ3 hg4)
      trace "chi"
      go_wp2_with fail
      trace "end"
      refine ⟨⟨k + 1, by omega, by go_num, ?_, ?_, ?_⟩, by simp [intOf]; omega⟩
      · rw [set_words hA4, ← Hg.out]; rfl
      · rw [heap_setCell_other _ _ _ _ (by simp)]; exact hZ4
      · exact (Hb4.out).setCell (by simp) _
    · obtain rfl : k = 24 := by omega
      clear hlt
      go_wp2_with (first | (refine wpList_load_row rfl 24 (.tmp 1) rfl w.heap.size rfl 24 (arr 25 (uw g)) (0, 0) _ hA Tryd.underlying24 rfl (inf24s g) ?_) | (refine wpList_store_mid rfl 24 (.tmp 2) (.tmp 269) rfl (w.heap.size + 1) 0 (arr 25 (uw g)) rfl rfl (there_row hZ (by simp)) (inf24s g) (words_one 25 g) ?_))
      refine bodyPost_ret (v := .agg (arr 25 (uw g))) (results_cell_row rfl _ _ (w.heap.size + 1) 24 _ (0, 0) _ rfl (setCells_all hZ _ (by simp)) Tryd.underlying24 rfl (inf24s g)) rfl ⟨?_, ?_⟩
      · rw [← Hg.out]; rfl
      · exact (Hb.out).trans (below_only (only_setCells _ _ _ (only_refl _ _)) (Nat.le_succ _) (Hb.out).size)
end Go.Proofs.YtikkebjhnechdaaDoor
