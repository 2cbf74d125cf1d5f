/- Walk: keccak.absorbed is absorb. -/
import Derived.Test.YtikkebjhnechdaaDoorKecPerm
namespace Go.Proofs.YtikkebjhnechdaaDoor
open Go.RowKit Go.Mt

/-- The bytes p lie at a slice's first n places. -/
def BytesAt (w : World) (b o n : Nat) (p : Nat → BitVec 8) : Prop := ∀ j, j < n → w.cell? ⟨b, o + j, none⟩ = some (.int .u8 (B (p j)))

set_option maxRecDepth 100000 in
set_option maxHeartbeats 2000000 in
theorem absorbed_any (f : St) (p : Nat → BitVec 8) (pb po len cap : Nat) (w : World) (hT : Tabs w) (hl : 136 ≤ len) (hlc : len ≤ cap) (hcap : cap ≤ 9223372036854775807) (hp : BytesAt w pb po 136 p) :
    Calls Tryd.prog 40 #[.agg (arr 25 (uw f)), .slice (some ⟨pb, po, none⟩) len cap] w fun e w' => e = .returned (.agg (arr 25 (uw (absorb f p)))) ∧ Below w.heap.size w w' := by
  have hz := hT.2.2.2
  have HT := Lib.hid hT
  have hpb : pb < w.heap.size := World.block_lt_of_cell? w _ (hp 0 (by omega))
  have inf : ∀ f, (Tryd.prog.info? 24).map (·.size) = some (arr 25 (uw f)).size := fun f => by rw [arr_size]; kernel_rfl
  have e1 : (((w.alloc (.cells (arr 25 (uw f)) 24)).alloc (.cells (arr 25 (uw fun _ => 0)) 24))).heap[w.heap.size]? = some (.cells (arr 25 (uw (xinTo f p 0 0))) 24 (0, 0)) := by
    rw [heap_alloc2_old, xinTo_zero]
  have e2 : ((w.alloc (.cells (arr 25 (uw f)) 24)).alloc (.cells (arr 25 (uw fun _ => 0)) 24)).heap[w.heap.size + 1]? = some (.cells (arr 25 (uw fun _ => 0)) 24 (0, 0)) := heap_alloc2_new _ _ _
  have hb0 : Below w.heap.size w ((w.alloc (.cells (arr 25 (uw f)) 24)).alloc (.cells (arr 25 (uw fun _ => 0)) 24)) := ((Below.refl _ _).alloc (Nat.le_refl _) _).alloc (by simp) _
  clear hT
  go_enter Tryd.func40, Tryd.ntmps40
  go_wp2_with fail
  go_loopw [8] (fun i wr => ∃ k : Nat, k ≤ 17 ∧ i = .int .i64 k ∧ wr.heap[w.heap.size]? = some (.cells (arr 25 (uw (xinTo f p k 0))) 24 (0, 0)) ∧ wr.heap[w.heap.size + 1]? = some (.cells (arr 25 (uw fun _ => 0)) 24 (0, 0)) ∧ Below w.heap.size w wr) (fun i _ => 17 - (intOf i).toNat)
  case atStart => exact ⟨0, by omega, rfl, e1, e2, hb0⟩
  case round =>
    obtain ⟨i, hi, rfl, hA, hZ, hbe⟩ := hrel
    clear e1 e2 hb0
    have Hb := Lib.hid hbe
    clear hbe
    by_cases hlt : i < 17
    · clear inf
      have h8 : 8 * i + 8 - 8 * i = 8 := by omega
      go_wp2_with fail
      clear h8
      obtain ⟨wo, hwo⟩ : ∃ wo : World, wo = wr := ⟨_, rfl⟩
      have Hwo := Lib.hid hwo
      clear hwo
      go_loopw [19] (fun x wq => ∃ k : Nat, k ≤ 8 ∧ x = .int .i64 k ∧ wq.heap[w.heap.size]? = some (.cells (arr 25 (uw (xinTo f p i k))) 24 (0, 0)) ∧ wq.heap[w.heap.size + 1]? = some (.cells (arr 25 (uw fun _ => 0)) 24 (0, 0)) ∧ Below w.heap.size w wq) (fun x _ => 8 - (intOf x).toNat)
      case atStart => exact ⟨0, by omega, rfl, hA, hZ, Hb.out⟩
      case round =>
        obtain ⟨k, hk, rfl, hAr, hZr, hbr⟩ := hrel
        clear hA hZ Hb
        by_cases hk8 : k < 8
        · have hcb : wr.cell? ⟨pb, po + 8 * i + k, none⟩ = some (.int .u8 (B (p (8 * i + k)))) := by
            rw [hbr.cell (p := ⟨pb, po + 8 * i + k, none⟩) hpb, Nat.add_assoc]; exact hp (8 * i + k) (by omega)
          have hca := words_of hAr i (by omega)
          have hfr : ∀ j, wr.frozen? ⟨w.heap.size, j, none⟩ = false := fun j => frozen_of_row _ _ _ _ _ hAr
          have Hb := Lib.hid hbr
          clear hbr hp
          go_wp2_with (first | (refine MtOrd.wp_region_ord_lit (id := 7) [(0, .head), (1, .head), (2, .head), (3, .head), (4, .head), (5, .head), (6, .head), (7, .head), (8, .head), (9, .head), (10, .loud)] (by kernel_rfl) (by kernel_rfl) (by intro c a d v w h; cases d <;> exact h) ?_) | (guard_target = MtOrd.Ord _ _ _ _ _ _ _; first | (refine MtOrd.ord_nil ?_) | (refine MtOrd.ord_head rfl rfl ?_; intro K hK; first | ((fail); refine hK _ ?_; clear hK K) | (go_big_quiet_op; first | (refine hK _ ?_; clear hK K) | (apply Exists.intro; refine ⟨?_, ?_⟩; (fail); refine hK _ ?_; clear hK K))) | (refine MtOrd.ord_free rfl rfl ?_; intro K hK; go_big_quiet_op; (refine hK _ ?_; clear hK K)) | (refine MtOrd.ord_skip rfl rfl ?_) | (refine MtOrd.ord_loud0 rfl rfl ?_; intro K hK)))
          refine ⟨⟨k + 1, by omega, by go_num, ?_, ?_, ?_⟩, by simp [intOf]; omega⟩
          · rw [heap_drew, set_words hAr, ← xinTo_step]
          · rw [heap_drew, heap_setCell_other _ _ _ _ (by simp)]; exact hZr
          · exact ((Hb.out).setCell (by simp) _).drew
        · obtain rfl : k = 8 := by omega
          have Hb := Lib.hid hbr
          clear hbr
          go_wp2_with fail
          refine ⟨⟨i + 1, by omega, by go_num, ?_, hZr, Hb.out⟩, by simp [intOf]; omega⟩
          rw [hAr, xinTo_next]
    · obtain rfl : i = 17 := by omega
      have HA : wr.heap[w.heap.size]? = some (.cells (arr 25 (uw (xin f p))) 24 (0, 0)) := by rw [hA, words_ext (xinTo_end f p)]
      clear hA hlt hp
      have hTr := (HT.out).below Hb.out hz
      go_wp2_with (first | (refine wpList_load_row rfl 24 (.tmp 2) rfl w.heap.size rfl 24 (arr 25 (uw (xin f p))) (0, 0) _ HA Tryd.underlying24 rfl (inf _) ?_) | (go_at_call 12; refine (perm_any _ _ hTr).mono ?_; rintro e w2 ⟨rfl, hb2⟩; have hZ2 := (hb2.block (w.heap.size + 1) (lt_of_block hZ)).trans hZ) | (refine wpList_store_mid rfl 24 (.tmp 4) (.tmp 37) rfl (w.heap.size + 1) 0 (arr 25 (uw (perm (xin f p)))) rfl rfl (there_row hZ2 (by simp)) (inf _) (words_one 25 _) ?_))
      refine bodyPost_ret (v := .agg (arr 25 (uw (absorb f p)))) (results_cell_row rfl _ _ (w.heap.size + 1) 24 _ (0, 0) _ rfl (setCells_all hZ2 _ (by simp)) Tryd.underlying24 rfl (inf _)) rfl ⟨rfl, ?_⟩
      exact (Hb.out).trans ((hb2.mono (Hb.out).size).trans (below_only (only_setCells _ _ _ (only_refl _ _)) (Nat.le_succ _) (Nat.le_trans (Hb.out).size hb2.size)))
end Go.Proofs.YtikkebjhnechdaaDoor
