/- Walk: the reference's Permute computes perm. -/
import Derived.Test.YtikkebjhnechdaaDoorRefPermute
import Derived.Test.YtikkebjhnechdaaDoorMtOrdD
namespace Go.Mt
open Go.RowKit
theorem own_rcon {w : World} {base g c : Nat} {e : TypeId} (h : w.ownsRow base e 1 (.slice (some ⟨g, 0, none⟩) 24 c) 24 (nl .u64 roundsL)) : (∀ i, i < 24 → w.cell? ⟨g, i, none⟩ = some (.int .u64 (U (rcon i)))) ∧ (24 ≤ c ∧ c ≤ 9223372036854775807) ∧ g < w.heap.size := by
  refine ⟨fun i hi => ?_, ?_, ?_⟩
  · rw [h.cellAt i (by omega), U_rcon]
    unfold nl
    rw [List.getElem?_map, getElem?_of_lt (by simpa [roundsL] using hi)]; rfl
  · rcases h.2 with ⟨h, _⟩ | ⟨_, _, _, h, _, _, h1, h2, _⟩
    · cases h
    · cases h; exact ⟨h1, h2⟩
  · exact (h.lt g rfl).2
end Go.Mt
namespace Go.Proofs.YtikkebjhnechdaaDoor
open Go.RowKit Go.Mt

set_option maxRecDepth 100000 in
set_option maxHeartbeats 4000000 in
theorem refperm_any (f : St) (w : World) :
    Calls Tryd.prog 15 #[.agg (arr 25 (uw f))] w fun e w' => e = .returned (.agg (arr 25 (uw (perm f)))) ∧ Below w.heap.size w w' := by
  have inf : ∀ f, (Tryd.prog.info? 24).map (·.size) = some (arr 25 (uw f)).size := fun f => by rw [arr_size]; kernel_rfl
  have infl : (Tryd.prog.info? 24).map (·.size) = some (arr 25 (uw f)).toList.length := by rw [Array.length_toList]; exact inf f
  have hA : ((w.alloc (.cells (arr 25 (uw f)) 24)).alloc (.cells z25 24)).heap[w.heap.size]? = some (.cells (arr 25 (uw f)) 24 (0, 0)) := keep_alloc (at_alloc _ rfl) _
  have hZ : ((w.alloc (.cells (arr 25 (uw f)) 24)).alloc (.cells z25 24)).heap[w.heap.size + 1]? = some (.cells (arr 25 (uw fun _ => 0)) 24 (0, 0)) := at_z25 _ (by simp)
  have hb0 : Below w.heap.size w ((w.alloc (.cells (arr 25 (uw f)) 24)).alloc (.cells z25 24)) := ((Below.refl _ _).alloc (Nat.le_refl _) _).alloc (by simp) _
  have hsz : ((w.alloc (.cells (arr 25 (uw f)) 24)).alloc (.cells z25 24)).heap.size = w.heap.size + 2 := by simp
  have hD0 : Below (w.heap.size + 1) ((w.alloc (.cells (arr 25 (uw f)) 24)).alloc (.cells z25 24)) ((w.alloc (.cells (arr 25 (uw f)) 24)).alloc (.cells z25 24)).drew := (Below.refl _ _).drew
  have hrg : ∀ w', Below (w.heap.size + 1) ((w.alloc (.cells (arr 25 (uw f)) 24)).alloc (.cells z25 24)) w' → w'.rangeAt w.heap.size 0 (arr 25 (uw f)).toList := fun w' hw' => range_of_row (keep_below hw' hA (Nat.lt_succ_self _))
  go_enter Tryd.func15, Tryd.ntmps15
  go_wp2_with (first
    | (refine MtOrd.wp_region_ord_in (id := 1) (fun w' => Below (w.heap.size + 1) ((w.alloc (.cells (arr 25 (uw f)) 24)).alloc (.cells z25 24)) w') [(0, .free), (1, .loud), (2, .loud), (3, .loud), (4, .loud)] (by kernel_rfl) (by kernel_rfl) (by intro c a d v w h; cases d <;> exact h) hD0 ?_)
    | (refine ord_storeD (i := 4) rfl rfl 24 (.tmp 2) (.tmp 6) rfl (w.heap.size + 1) 0 (arr 25 (uw (perm f))) rfl rfl (there_row hZ5 (by simp)) (inf _) (words_one 25 _) (hD5.trans (below_only (only_setCells _ _ _ (only_refl _ _)) (Nat.le_refl _) (by omega))) ?_)
    | (guard_target = MtOrd.Ord _ _ _ _ _ _ _; first | (refine MtOrd.ord_nil ?_) | (refine MtOrd.ord_head rfl rfl ?_; intro K hK; first | ((refine quiet_load_mid 24 (.tmp 1) rfl w.heap.size 0 rfl (arr 25 (uw f)).toList _ hrg Tryd.underlying24 rfl infl ?_); refine hK _ ?_; clear hK K) | (go_big_quiet_op; first | (refine hK _ ?_; clear hK K) | (apply Exists.intro; refine ⟨?_, ?_⟩; (fail); refine hK _ ?_; clear hK K))) | (refine MtOrd.ord_free rfl rfl ?_; intro K hK; first | ((refine quiet_load_mid 24 (.tmp 1) rfl w.heap.size 0 rfl (arr 25 (uw f)).toList _ hrg Tryd.underlying24 rfl infl ?_); refine hK _ ?_; clear hK K) | (go_big_quiet_op; refine hK _ ?_; clear hK K)) | (refine MtOrd.ord_skip rfl rfl ?_) | (refine MtOrd.ord_loud rfl rfl ?_; intro K hK))
    | (go_at_call 37; refine (constants_any ((w.alloc (.cells (arr 25 (uw f)) 24)).alloc (.cells z25 24)).drew).mono ?_; rintro e w3 ⟨kb, kc, rfl, hkb, hok, hb3⟩; have hD3 : Below (w.heap.size + 1) ((w.alloc (.cells (arr 25 (uw f)) 24)).alloc (.cells z25 24)) w3 := hD0.trans (hb3.mono (by simp)); have hZ3 := keep_below hb3 (show ((w.alloc (.cells (arr 25 (uw f)) 24)).alloc (.cells z25 24)).drew.heap[w.heap.size + 1]? = _ from hZ) (by simp); refine hK _ _ hD3 ?_; clear hK K)
    | (go_at_call 38; refine (turns_any w3).mono ?_; rintro e w4 ⟨T, rfl, hTl, hT4, hb4⟩; have hl3 := lt_row hZ3; have hD4 := hD3.trans (hb4.mono (Nat.le_of_lt hl3)); have hZ4 := keep_below hb4 hZ3 hl3; have hok4 := own_keep (S := fun _ => False) hok (keeps_below hb4) (fun _ _ h => h); obtain ⟨hrc, hkc, hkl⟩ := own_rcon hok4; refine hK _ _ hD4 ?_; clear hK K)
    | (go_at_call 36; refine (refpermute_any f kb kc T w4 hkl hrc hkc hT4).mono ?_; rintro e w5 ⟨rfl, hb5⟩; have hl4 := lt_row hZ4; have hD5 := hD4.trans (hb5.mono (Nat.le_of_lt hl4)); have hZ5 := keep_below hb5 hZ4 hl4; have hl5 := lt_row hZ5; refine hK _ _ hD5 ?_; clear hK K))
  refine bodyPost_ret (results_cell_row (p := 2) rfl _ _ (w.heap.size + 1) 24 _ (0, 0) _ rfl (setCells_all hZ5 _ (by simp)) Tryd.underlying24 rfl (inf _)) rfl ⟨rfl, ?_⟩
  exact hb0.trans ((hD5.mono (Nat.le_succ _)).trans (below_only (only_setCells _ _ _ (only_refl _ _)) (Nat.le_succ _) (by omega)))
end Go.Proofs.YtikkebjhnechdaaDoor
