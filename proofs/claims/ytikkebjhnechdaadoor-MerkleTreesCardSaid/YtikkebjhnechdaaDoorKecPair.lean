/- Walk: keccak.Pair. -/
import Derived.Test.YtikkebjhnechdaaDoorRefPair
namespace Go.Mt
@[reducible] def z136 : Array Value := #[.int .u8 0, .int .u8 0, .int .u8 0, .int .u8 0, .int .u8 0, .int .u8 0, .int .u8 0, .int .u8 0, .int .u8 0, .int .u8 0, .int .u8 0, .int .u8 0, .int .u8 0, .int .u8 0, .int .u8 0, .int .u8 0, .int .u8 0, .int .u8 0, .int .u8 0, .int .u8 0, .int .u8 0, .int .u8 0, .int .u8 0, .int .u8 0, .int .u8 0, .int .u8 0, .int .u8 0, .int .u8 0, .int .u8 0, .int .u8 0, .int .u8 0, .int .u8 0, .int .u8 0, .int .u8 0, .int .u8 0, .int .u8 0, .int .u8 0, .int .u8 0, .int .u8 0, .int .u8 0, .int .u8 0, .int .u8 0, .int .u8 0, .int .u8 0, .int .u8 0, .int .u8 0, .int .u8 0, .int .u8 0, .int .u8 0, .int .u8 0, .int .u8 0, .int .u8 0, .int .u8 0, .int .u8 0, .int .u8 0, .int .u8 0, .int .u8 0, .int .u8 0, .int .u8 0, .int .u8 0, .int .u8 0, .int .u8 0, .int .u8 0, .int .u8 0, .int .u8 0, .int .u8 0, .int .u8 0, .int .u8 0, .int .u8 0, .int .u8 0, .int .u8 0, .int .u8 0, .int .u8 0, .int .u8 0, .int .u8 0, .int .u8 0, .int .u8 0, .int .u8 0, .int .u8 0, .int .u8 0, .int .u8 0, .int .u8 0, .int .u8 0, .int .u8 0, .int .u8 0, .int .u8 0, .int .u8 0, .int .u8 0, .int .u8 0, .int .u8 0, .int .u8 0, .int .u8 0, .int .u8 0, .int .u8 0, .int .u8 0, .int .u8 0, .int .u8 0, .int .u8 0, .int .u8 0, .int .u8 0, .int .u8 0, .int .u8 0, .int .u8 0, .int .u8 0, .int .u8 0, .int .u8 0, .int .u8 0, .int .u8 0, .int .u8 0, .int .u8 0, .int .u8 0, .int .u8 0, .int .u8 0, .int .u8 0, .int .u8 0, .int .u8 0, .int .u8 0, .int .u8 0, .int .u8 0, .int .u8 0, .int .u8 0, .int .u8 0, .int .u8 0, .int .u8 0, .int .u8 0, .int .u8 0, .int .u8 0, .int .u8 0, .int .u8 0, .int .u8 0, .int .u8 0, .int .u8 0, .int .u8 0, .int .u8 0, .int .u8 0, .int .u8 0]
theorem z136_eq : z136 = arr 136 (ub fun _ => 0) := by kernel_rfl
theorem at_z136 {w : World} {k : Nat} (t : TypeId) (h : w.heap.size = k) : (w.alloc (.cells z136 t)).heap[k]? = some (.cells (arr 136 (ub fun _ => 0)) t (0, 0)) := by
  rw [← z136_eq]; exact at_alloc _ h
end Go.Mt
namespace Go.Proofs.YtikkebjhnechdaaDoor
open Go.RowKit Go.Mt

set_option maxRecDepth 100000 in
set_option maxHeartbeats 4000000 in
theorem kecpair_any (a b : Nat → BitVec 8) (w : World) (hT : Tabs w) :
    Calls Tryd.prog 17 #[.agg (arr 32 (ub a)), .agg (arr 32 (ub b))] w fun e w' => e = .returned (.agg (arr 32 (ub (sumB (bytesL 32 a ++ bytesL 32 b))))) ∧ Below w.heap.size w w' := by
  have infh : ∀ f, (Tryd.prog.info? 27).map (·.size) = some (arr 32 (ub f)).size := fun f => by rw [arr_size]; kernel_rfl
  obtain ⟨P0, hP0⟩ : ∃ P0, P0 = pad0 (bytesL 32 a ++ bytesL 32 b) := ⟨_, rfl⟩
  have hrow : (splice (splice (arr 136 (ub fun _ => 0)).toList 0 (bl (bytesL 32 a))) 32 (bl (bytesL 32 b))).toArray = arr 136 (ub P0) := hP0 ▸ pair_row
  rw [← sumB_pair, ← hP0]
  obtain ⟨P2, hP2d⟩ : ∃ P2, P2 = upd (upd P0 64 1#8) 135 128#8 := ⟨_, rfl⟩
  rw [← hP2d]
  obtain ⟨fa, hfa⟩ : ∃ fa, fa = absorb (fun _ => 0) P2 := ⟨_, rfl⟩
  have Habs := Lib.hid (show ∀ g w, Tabs w → BytesAt w g 0 136 P2 → Calls Tryd.prog 40 #[.agg z25, .slice (some ⟨g, 0, none⟩) 136 136] w fun e w' => e = .returned (.agg (arr 25 (uw fa))) ∧ Below w.heap.size w w' from fun g w h1 h2 => by
    rw [z25_eq, hfa]; exact absorbed_any _ P2 g 0 136 136 w h1 (by omega) (by omega) (by omega) h2)
  rw [← hfa]
  have HP2 := Lib.hid hP2d
  have Hrow := Lib.hid hrow
  clear hfa hP2d hP0 hrow
  obtain ⟨la, hla⟩ : ∃ la, la = bl (bytesL 32 a) := ⟨_, rfl⟩
  obtain ⟨lb, hlb⟩ : ∃ lb, lb = bl (bytesL 32 b) := ⟨_, rfl⟩
  rw [← hla, ← hlb] at Hrow
  have hla1 : la.length = Nat.min 32 136 := by rw [hla, bl_length, bytesL_length]; rfl
  have hlb1 : lb.length = Nat.min 32 104 := by rw [hlb, bl_length, bytesL_length]; rfl
  have hoa : ∀ v ∈ la, v.oneCell' = true := by rw [hla]; exact bl_one _
  have hob : ∀ v ∈ lb, v.oneCell' = true := by rw [hlb]; exact bl_one _
  have hA : ((((w.alloc (.cells (arr 32 (ub a)) 27)).alloc (.cells (arr 32 (ub b)) 27)).alloc (.cells z32 27)).alloc (.cells z136 78)).heap[w.heap.size]? = some (.cells (arr 32 (ub a)) 27 (0, 0)) := keep_alloc (keep_alloc (keep_alloc (at_alloc _ rfl) _) _) _
  have hB : ((((w.alloc (.cells (arr 32 (ub a)) 27)).alloc (.cells (arr 32 (ub b)) 27)).alloc (.cells z32 27)).alloc (.cells z136 78)).heap[w.heap.size + 1]? = some (.cells (arr 32 (ub b)) 27 (0, 0)) := keep_alloc (keep_alloc (at_alloc _ (by simp)) _) _
  have hZ : ((((w.alloc (.cells (arr 32 (ub a)) 27)).alloc (.cells (arr 32 (ub b)) 27)).alloc (.cells z32 27)).alloc (.cells z136 78)).heap[w.heap.size + 1 + 1]? = some (.cells (arr 32 (ub fun _ => 0)) 27 (0, 0)) := keep_alloc (at_z32 _ (by simp)) _
  have hL : ((((w.alloc (.cells (arr 32 (ub a)) 27)).alloc (.cells (arr 32 (ub b)) 27)).alloc (.cells z32 27)).alloc (.cells z136 78)).heap[w.heap.size + 1 + 1 + 1]? = some (.cells (arr 136 (ub fun _ => 0)) 78 (0, 0)) := at_z136 _ (by simp)
  have hb0 : Below w.heap.size w ((((w.alloc (.cells (arr 32 (ub a)) 27)).alloc (.cells (arr 32 (ub b)) 27)).alloc (.cells z32 27)).alloc (.cells z136 78)) := ((((Below.refl _ _).alloc (Nat.le_refl _) _).alloc (by simp) _).alloc (by simp; omega) _).alloc (by simp; omega) _
  have hs0 : ((((w.alloc (.cells (arr 32 (ub a)) 27)).alloc (.cells (arr 32 (ub b)) 27)).alloc (.cells z32 27)).alloc (.cells z136 78)).heap.size = w.heap.size + 4 := by simp
  have hbL : Below (w.heap.size + 1 + 1) ((((w.alloc (.cells (arr 32 (ub a)) 27)).alloc (.cells (arr 32 (ub b)) 27)).alloc (.cells z32 27)).alloc (.cells z136 78)) ((((w.alloc (.cells (arr 32 (ub a)) 27)).alloc (.cells (arr 32 (ub b)) 27)).alloc (.cells z32 27)).alloc (.cells z136 78)).drew := (Below.refl _ _).drew
  have hsA : ∀ j v, la[j]? = some v → ((((w.alloc (.cells (arr 32 (ub a)) 27)).alloc (.cells (arr 32 (ub b)) 27)).alloc (.cells z32 27)).alloc (.cells z136 78)).drew.cell? ((⟨w.heap.size, 0, none⟩ : Addr).add j) = some v := fun j v hv => by
    rw [hla] at hv
    obtain ⟨ad, h1, h2⟩ := src_row hA (by simp)
    cases h1
    exact h2 j v hv
  have hsl := run_sliceAt_arr Tryd.underlying78 (show (Tryd.prog.info? 5).map (·.size) = some 1 by kernel_rfl) .i64 (w.heap.size + 1 + 1 + 1) 0 32 (by omega) 32 (by omega)
  rw [show 0 + 32 * 1 = 32 by omega, show 136 - 32 = 104 by omega] at hsl
  have Hla := Lib.hid hla
  have Hlb := Lib.hid hlb
  have HT := Lib.hid hT
  clear hla hlb hT
  go_enter Tryd.func17, Tryd.ntmps17
  go_wp2_with (first
    | (refine ord_copy (i := 2) (D := fun _ => True) rfl rfl (.tmp 6) (.tmp 7) 22 22 rfl 5 Tryd.underlying22 (by kernel_rfl) (w.heap.size + 1 + 1 + 1) 0 136 136 ⟨w.heap.size, 0, none⟩ 32 32 rfl rfl (arr 136 (ub fun _ => 0)) 78 hL la hla1 hsA (by rw [hla1]; simp) hoa ?_; intro w1 hP1 hbw1 hot1; refine ⟨trivial, ?_⟩; have hB1 := (hot1 (w.heap.size + 1) (by omega)).trans hB; have hZ1 := (hot1 (w.heap.size + 1 + 1) (by omega)).trans hZ; have hb1 := hbw1 w.heap.size w hb0.drew (by omega); have hsB : ∀ j v, lb[j]? = some v → w1.drew.cell? ((⟨w.heap.size + 1, 0, none⟩ : Addr).add j) = some v := (fun j v hv => by rw [Hlb.out] at hv; obtain ⟨ad, h1, h2⟩ := src_row hB1 (by simp); cases h1; exact h2 j v hv); have hl1 : 32 + lb.length ≤ (splice (arr 136 (ub fun _ => 0)).toList 0 la).toArray.size := (by rw [hlb1, List.size_toArray, length_splice _ _ _ (by rw [hla1]; simp)]; simp); clear hsA hL)
    | (refine ord_copy (i := 2) (D := fun _ => True) rfl rfl (.tmp 9) (.tmp 10) 22 22 rfl 5 Tryd.underlying22 (by kernel_rfl) (w.heap.size + 1 + 1 + 1) 32 104 104 ⟨w.heap.size + 1, 0, none⟩ 32 32 rfl rfl (splice (arr 136 (ub fun _ => 0)).toList 0 la).toArray 78 hP1 lb hlb1 hsB hl1 hob ?_; intro w2 hP2 hbw2 hot2; refine ⟨trivial, ?_⟩; have hZ2 := (hot2 (w.heap.size + 1 + 1) (by omega)).trans hZ1; have hb2 := hbw2 w.heap.size w hb1.drew (by omega); rw [show (splice (arr 136 (ub fun _ => 0)).toList 0 la).toArray.toList = splice (arr 136 (ub fun _ => 0)).toList 0 la from rfl, Hrow.out] at hP2; have hc64 := bytes_of hP2 64 (by omega); have hfr2 : ∀ j, w2.frozen? ⟨w.heap.size + 1 + 1 + 1, j, none⟩ = false := (fun j => frozen_of_row _ _ _ _ _ hP2); have hP3 : (w2.setCell ⟨w.heap.size + 1 + 1 + 1, 64, none⟩ (.int .u8 1)).heap[w.heap.size + 1 + 1 + 1]? = some (.cells (arr 136 (ub (upd P0 64 1#8))) 78 (0, 0)) := set_bytes hP2 64 1#8; have hc135 := bytes_of hP3 135 (by omega); have hP4 : ((w2.setCell ⟨w.heap.size + 1 + 1 + 1, 64, none⟩ (.int .u8 1)).setCell ⟨w.heap.size + 1 + 1 + 1, 135, none⟩ (.int .u8 128)).heap[w.heap.size + 1 + 1 + 1]? = some (.cells (arr 136 (ub (upd (upd P0 64 1#8) 135 128#8))) 78 (0, 0)) := set_bytes hP3 135 128#8; rw [← HP2.out] at hP4; have hbt : BytesAt ((w2.setCell ⟨w.heap.size + 1 + 1 + 1, 64, none⟩ (.int .u8 1)).setCell ⟨w.heap.size + 1 + 1 + 1, 135, none⟩ (.int .u8 128)) (w.heap.size + 1 + 1 + 1) 0 136 P2 := (fun j hj => by rw [Nat.zero_add]; exact bytes_of hP4 j hj); have hZ4 := keep_set (keep_set hZ2 (p := ⟨w.heap.size + 1 + 1 + 1, 64, none⟩) (by show w.heap.size + 1 + 1 + 1 ≠ w.heap.size + 1 + 1; omega) (.int .u8 1)) (p := ⟨w.heap.size + 1 + 1 + 1, 135, none⟩) (by show w.heap.size + 1 + 1 + 1 ≠ w.heap.size + 1 + 1; omega) (.int .u8 128); have hb4 := (hb2.setCell (p := ⟨w.heap.size + 1 + 1 + 1, 64, none⟩) (by show w.heap.size ≤ w.heap.size + 1 + 1 + 1; omega) (.int .u8 1)).setCell (p := ⟨w.heap.size + 1 + 1 + 1, 135, none⟩) (by show w.heap.size ≤ w.heap.size + 1 + 1 + 1; omega) (.int .u8 128); have hfr3 : ∀ j, (w2.setCell ⟨w.heap.size + 1 + 1 + 1, 64, none⟩ (.int .u8 1)).frozen? ⟨w.heap.size + 1 + 1 + 1, j, none⟩ = false := (fun j => frozen_of_row _ _ _ _ _ hP3); clear hP1 hB1 hsB)
    | (guard_target = Code.wp _ _ _ (Act.put _ _ _) w1; show Code.wp _ _ _ ⟨#[.agg (arr 32 (ub a)), .agg (arr 32 (ub b)), .pointer (some ⟨w.heap.size, 0, none⟩), .pointer (some ⟨w.heap.size + 1, 0, none⟩), .pointer (some ⟨w.heap.size + 1 + 1, 0, none⟩), .pointer (some ⟨w.heap.size + 1 + 1 + 1, 0, none⟩), .slice (some ⟨w.heap.size + 1 + 1 + 1, 0, none⟩) 136 136, .slice (some ⟨w.heap.size, 0, none⟩) 32 32, goInt la.length, undef, undef, undef, undef, undef, undef, undef, undef, undef], []⟩ w1)
    | (guard_target = Code.wp _ _ _ (Act.put _ _ _) w2; show Code.wp _ _ _ ⟨#[.agg (arr 32 (ub a)), .agg (arr 32 (ub b)), .pointer (some ⟨w.heap.size, 0, none⟩), .pointer (some ⟨w.heap.size + 1, 0, none⟩), .pointer (some ⟨w.heap.size + 1 + 1, 0, none⟩), .pointer (some ⟨w.heap.size + 1 + 1 + 1, 0, none⟩), .slice (some ⟨w.heap.size + 1 + 1 + 1, 0, none⟩) 136 136, .slice (some ⟨w.heap.size, 0, none⟩) 32 32, goInt la.length, .slice (some ⟨w.heap.size + 1 + 1 + 1, 32, none⟩) 104 104, .slice (some ⟨w.heap.size + 1, 0, none⟩) 32 32, goInt lb.length, undef, undef, undef, undef, undef, undef], []⟩ w2)
    | (go_at_call 40; refine (Habs.out (w.heap.size + 1 + 1 + 1) _ (HT.out.below hb4 HT.out.2.2.2) hbt).mono ?_; rintro e w5 ⟨rfl, hb5⟩; have hZ5 := keep_below hb5 hZ4 (lt_row hZ4); have hl5 := lt_row hZ5)
    | (go_at_call 39; refine (digest_any fa w5).mono ?_; rintro e w6 ⟨rfl, hb6⟩; have hZ6 := keep_below hb6 hZ5 hl5; have hl6 := lt_row hZ6)
    | (refine wpList_store_mid rfl 27 (.tmp 4) (.tmp 17) rfl (w.heap.size + 1 + 1) 0 (arr 32 (ub (dig fa))) rfl rfl (there_row hZ6 (by simp)) (infh _) (bytes_one 32 _) ?_)
    | (refine MtOrd.wp_region_ord_lit (id := 2) [(0, .head), (1, .head), (2, .loud)] (by kernel_rfl) (by kernel_rfl) (by intro c a d v w h; cases d <;> exact h) ?_) | (refine MtOrd.wp_region_ord_lit (id := 3) [(0, .head), (1, .head), (2, .loud)] (by kernel_rfl) (by kernel_rfl) (by intro c a d v w h; cases d <;> exact h) ?_) | (guard_target = MtOrd.Ord _ _ _ _ _ _ _; first | (refine MtOrd.ord_nil ?_) | (refine MtOrd.ord_head rfl rfl ?_; intro K hK; first | ((fail); refine hK _ ?_; clear hK K) | (go_big_quiet_op; first | (refine hK _ ?_; clear hK K) | (apply Exists.intro; refine ⟨?_, ?_⟩; (fail); refine hK _ ?_; clear hK K))) | (refine MtOrd.ord_free rfl rfl ?_; intro K hK; go_big_quiet_op; (refine hK _ ?_; clear hK K)) | (refine MtOrd.ord_skip rfl rfl ?_) | (refine MtOrd.ord_loud0 rfl rfl ?_; intro K hK)))
  refine bodyPost_ret (results_cell_row (p := 4) (ty := 27) rfl _ _ (w.heap.size + 1 + 1) 27 _ (0, 0) _ rfl (setCells_all hZ6 _ (by simp)) Tryd.underlying27 rfl (infh _)) rfl ⟨rfl, ?_⟩
  exact hb4.trans ((hb5.mono hb4.size).trans ((hb6.mono (by omega)).trans (below_only (only_setCells _ _ _ (only_refl _ _)) (by omega) (by omega))))
end Go.Proofs.YtikkebjhnechdaaDoor
