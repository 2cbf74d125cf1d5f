/- Walk: the reference's permute computes perm. -/
import Derived.Test.YtikkebjhnechdaaDoorRefTheta
import Derived.Test.YtikkebjhnechdaaDoorRefRho
import Derived.Test.YtikkebjhnechdaaDoorRefChi
import Derived.Test.YtikkebjhnechdaaDoorMtPad
import Derived.Deep.CutBlock
namespace Go.Proofs.YtikkebjhnechdaaDoor
open Go.RowKit Go.Mt

set_option maxRecDepth 100000 in
set_option maxHeartbeats 4000000 in
theorem refpermute_any (f : St) (kb kc T : Nat) (w : World) (hkb : kb < w.heap.size) (hK : ∀ i, i < 24 → w.cell? ⟨kb, i, none⟩ = some (.int .u64 (U (rcon i)))) (hkc : 24 ≤ kc ∧ kc ≤ 9223372036854775807)
    (hT : w.heap[T]? = some (.cells (arr 25 fun i => .int .i64 (turnsOf.getD i 0 : Nat)) 3 (0, 0))) :
    Calls Tryd.prog 36 #[.agg (arr 25 (uw f)), .slice (some ⟨kb, 0, none⟩) 24 kc, .slice (some ⟨T, 0, none⟩) 25 25] w fun e w' => e = .returned (.agg (arr 25 (uw (perm f)))) ∧ Below w.heap.size w w' := by
  have inf : ∀ f, (Tryd.prog.info? 24).map (·.size) = some (arr 25 (uw f)).size := fun f => by rw [arr_size]; kernel_rfl
  have e1 : ((w.alloc (.cells (arr 25 (uw f)) 24)).alloc (.cells z25 24)).heap[w.heap.size]? = some (.cells (arr 25 (uw (rpTo f 0))) 24 (0, 0)) := keep_alloc (at_alloc _ rfl) _
  have e2 : ((w.alloc (.cells (arr 25 (uw f)) 24)).alloc (.cells z25 24)).heap[w.heap.size + 1]? = some (.cells (arr 25 (uw fun _ => 0)) 24 (0, 0)) := at_z25 _ (by simp)
  have hb0 : Below w.heap.size w ((w.alloc (.cells (arr 25 (uw f)) 24)).alloc (.cells z25 24)) := ((Below.refl _ _).alloc (Nat.le_refl _) _).alloc (by simp) _
  have hTw := lt_row hT
  go_enter Tryd.func36, Tryd.ntmps36
  go_wp2_with fail
  go_loopw [7] (fun x wr => ∃ k : Nat, k ≤ 24 ∧ x = .int .i64 k ∧ wr.heap[w.heap.size]? = some (.cells (arr 25 (uw (rpTo f k))) 24 (0, 0)) ∧ wr.heap[w.heap.size + 1]? = some (.cells (arr 25 (uw (fun _ => 0))) 24 (0, 0)) ∧ Below w.heap.size w wr) (fun x _ => 24 - (intOf x).toNat)
  case atStart => exact ⟨0, by omega, rfl, e1, e2, hb0⟩
  case round =>
    obtain ⟨k, hk, rfl, hA, hZ, hb⟩ := hrel
    clear e1 e2 hb0
    obtain ⟨g, hg⟩ : ∃ g, g = rpTo f k := ⟨_, rfl⟩
    rw [← hg] at hA
    have Hg := Lib.hid hg
    clear hg
    have Hb := Lib.hid hb
    have hzr := lt_row hZ
    clear hb
    by_cases hlt : k < 24
    · have hA1 := keep_alloc (keep_alloc hA (.cells z25 24)) (.cells z25 24)
      have hZ1 := keep_alloc (keep_alloc hZ (.cells z25 24)) (.cells z25 24)
      have hB1 : ((wr.alloc (.cells z25 24)).alloc (.cells z25 24)).heap[wr.heap.size]? = some (.cells (arr 25 (uw fun _ => 0)) 24 (0, 0)) := keep_alloc (at_z25 _ rfl) _
      have hC1 : ((wr.alloc (.cells z25 24)).alloc (.cells z25 24)).heap[wr.heap.size + 1]? = some (.cells (arr 25 (uw fun _ => 0)) 24 (0, 0)) := at_z25 _ (by simp)
      have hb1 : Below wr.heap.size wr ((wr.alloc (.cells z25 24)).alloc (.cells z25 24)) := ((Below.refl _ _).alloc (Nat.le_refl _) _).alloc (by simp) _
      have hT1 := keep_below (Hb.out.trans (hb1.mono Hb.out.size)) hT hTw
      have hbs := Hb.out.size
      go_upto_block 2 with (fail)
      generalize hw1 : (World.alloc (World.alloc wr _) _) = w1 at hA1 hZ1 hB1 hC1 hb1 hT1 ⊢
      have hs1 := lt_row hC1
      clear hw1 hA hZ
      generalize hgb : wr.heap.size = gb at *
      (refine rtheta_loop g w.heap.size gb _ _ _ _ _ _ _ _ _ _ _ _ _ _ _ _ _ _ _ _ _ _ _ _ _ _ _ _ _ _ _ _ _ _ _ _ _ _ _ _ _ _ _ _ _ _ _ _ _ _ _ _ _ _ _ _ _ _ _ _ _ _ _ _ _ _ _ _ _ _ _ _ _ _ _ _ _ _ _ _ _ _ _ _ _ _ _ _ _ _ _ _ _ _ _ _ _ _ _ _ _ _ _ _ _ _ _ _ _ _ _ _ _ _ _ _ _ _ _ _ _ _ _ _ _ _ _ _ _ _ _ _ _ _ _ _ _ _ _ _ _ _ _ _ _ (by intro c a d v w h; cases d <;> exact h) (by omega) hA1 hB1 ?_; intro y10 y11 y12 y13 y14 y23 y24 y25 y26 y27 y28 y29 y30 y31 y32 y33 y34 y35 y36 y37 y38 y39 y40 y41 y42 y43 y44 y45 y46 y47 y48 y49 y50 y51 y52 y53 y54 y55 y56 y57 y58 y59 y60 y61 y62 y63 y64 y65 y66 w2 hB2 hg2; have hA2 := (hg2.block w.heap.size (lt_row hA1) (by simp; omega)).trans hA1; have hZ2 := (hg2.block (w.heap.size + 1) (lt_row hZ1) (by simp; omega)).trans hZ1; have hC2 := (hg2.block (gb + 1) (lt_row hC1) (by simp)).trans hC1; have hT2 := (hg2.block T (lt_row hT1) (by simp; omega)).trans hT1; clear hA1 hZ1 hB1 hC1 hT1)
      go_upto_block 8 with (fail)
      (refine rrho_loop g T gb (gb + 1) _ _ _ _ _ _ _ _ _ _ _ _ _ _ _ _ _ _ _ _ _ _ _ _ _ _ _ _ _ _ _ _ _ _ _ _ _ _ _ _ _ _ _ _ _ _ _ _ _ _ _ _ _ _ _ _ _ _ _ _ _ _ _ _ _ _ _ _ _ _ _ _ _ _ _ _ _ _ _ _ _ _ _ _ _ _ _ _ _ _ _ _ _ _ _ _ _ _ _ _ _ _ _ _ _ _ _ _ _ _ _ _ _ _ _ _ _ _ _ _ _ _ _ _ _ _ _ _ _ _ _ _ _ _ _ _ _ _ _ _ _ _ _ _ (by intro c a d v w h; cases d <;> exact h) (by omega) (by omega) hT2 hB2 hC2 ?_; intro y15 y16 y67 y68 y69 y70 y71 y72 y73 y74 y75 y76 y77 y78 y79 y80 y81 y82 y83 y84 y85 y86 y87 y88 y89 y90 y91 y92 y93 y94 y95 y96 y97 y98 w3 hC3 hg3; have hA3 := (hg3.block w.heap.size (lt_row hA2) (by simp; omega)).trans hA2; have hZ3 := (hg3.block (w.heap.size + 1) (lt_row hZ2) (by simp; omega)).trans hZ2; clear hA2 hZ2 hB2 hC2 hT2)
      go_upto_block 12 with (fail)
      (refine rchi_loop g w.heap.size (gb + 1) _ _ _ _ _ _ _ _ _ _ _ _ _ _ _ _ _ _ _ _ _ _ _ _ _ _ _ _ _ _ _ _ _ _ _ _ _ _ _ _ _ _ _ _ _ _ _ _ _ _ _ _ _ _ _ _ _ _ _ _ _ _ _ _ _ _ _ _ _ _ _ _ _ _ _ _ _ _ _ _ _ _ _ _ _ _ _ _ _ _ _ _ _ _ _ _ _ _ _ _ _ _ _ _ _ _ _ _ _ _ _ _ _ _ _ _ _ _ _ _ _ _ _ _ _ _ _ _ _ _ _ _ _ _ _ _ _ _ _ _ _ _ _ _ _ (by intro c a d v w h; cases d <;> exact h) (by omega) hC3 hA3 ?_; intro y17 y18 y99 y100 y101 y102 y103 y104 y105 y106 y107 y108 y109 y110 y111 y112 y113 y114 y115 y116 y117 y118 y119 y120 y121 y122 y123 y124 y125 y126 y127 y128 y129 y130 y131 y132 y133 y134 y135 y136 w4 hA4 hg4; have hZ4 := (hg4.block (w.heap.size + 1) (lt_row hZ3) (by simp)).trans hZ3; clear hA3 hZ3 hC3)
      have hb2 : Below gb w1 w2 := below_only hg2 (Nat.le_refl _) (by omega)
      have hb3 : Below gb w2 w3 := below_only hg3 (Nat.le_succ _) (Nat.le_trans (by omega) hb2.size)
      have hs4 : w.heap.size ≤ w3.heap.size := Nat.le_trans (by omega) (Nat.le_trans hb2.size hb3.size)
      have hb4 : Below w.heap.size w3 w4 := below_only hg4 (Nat.le_refl _) hs4
      have hbw := (Hb.out.trans ((hb1.trans (hb2.trans hb3)).mono hbs)).trans hb4
      have hck : w4.cell? ⟨kb, k, none⟩ = some (.int .u64 (U (rcon k))) := by rw [hbw.cell (p := ⟨kb, k, none⟩) hkb]; exact hK k hlt
      have hc0 := words_of hA4 0 (by omega)
      have hfr : ∀ j, w4.frozen? ⟨w.heap.size, j, none⟩ = false := fun j => frozen_of_row _ _ _ _ _ hA4
      have Hbw := Lib.hid hbw
      have HA4 := Lib.hid hA4
      clear hb1 hb2 hb3 hb4 hbw hg2 hg3 hg4 hA4
      go_wp2_with (first | (refine MtOrd.wp_region_ord_lit (id := 32) [(0, .head), (1, .head), (2, .head), (3, .head), (4, .head), (5, .head), (6, .head), (7, .head), (8, .loud)] (by kernel_rfl) (by kernel_rfl) (by intro c a d v w h; cases d <;> exact h) ?_) | (guard_target = MtOrd.Ord _ _ _ _ _ _ _; first | (refine MtOrd.ord_nil ?_) | (refine MtOrd.ord_head rfl rfl ?_; intro K hK; first | ((fail); refine hK _ ?_; clear hK K) | (go_big_quiet_op; first | (refine hK _ ?_; clear hK K) | (apply Exists.intro; refine ⟨?_, ?_⟩; (fail); refine hK _ ?_; clear hK K))) | (refine MtOrd.ord_free rfl rfl ?_; intro K hK; go_big_quiet_op; (refine hK _ ?_; clear hK K)) | (refine MtOrd.ord_skip rfl rfl ?_) | (refine MtOrd.ord_loud0 rfl rfl ?_; intro K hK)))
      refine ⟨⟨k + 1, by omega, by go_num, ?_, ?_, (Hbw.out.setCell (p := ⟨w.heap.size, 0, none⟩) (Nat.le_refl _) _).drew⟩, by simp [intOf]; omega⟩
      · rw [heap_drew, set_words HA4.out, words_ext fun i hi => round_at _ g i hi, Hg.out]; rfl
      · rw [heap_drew, heap_setCell_other _ _ _ _ (by simp)]; exact hZ4
    · obtain rfl : k = 24 := by omega
      clear hlt
      go_wp2_with (first | (refine wpList_load_row rfl 24 (.tmp 3) rfl w.heap.size rfl 24 (arr 25 (uw g)) (0, 0) _ hA Tryd.underlying24 rfl (inf g) ?_) | (refine wpList_store_mid rfl 24 (.tmp 6) (.tmp 145) rfl (w.heap.size + 1) 0 (arr 25 (uw g)) rfl rfl (there_row hZ (by simp)) (inf g) (words_one 25 g) ?_))
      refine bodyPost_ret (v := .agg (arr 25 (uw g))) (results_cell_row (p := 6) rfl _ _ (w.heap.size + 1) 24 _ (0, 0) _ rfl (setCells_all hZ _ (by simp)) Tryd.underlying24 rfl (inf g)) rfl ⟨?_, ?_⟩
      · rw [Hg.out, words_ext fun i hi => rpTo_perm f 24 i hi]; rfl
      · exact (Hb.out).trans (below_only (only_setCells _ _ _ (only_refl _ _)) (Nat.le_succ _) (Hb.out).size)
end Go.Proofs.YtikkebjhnechdaaDoor
