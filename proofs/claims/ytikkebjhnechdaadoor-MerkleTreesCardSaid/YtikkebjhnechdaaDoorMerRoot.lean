/- Walk: merkle.Root. -/
import Derived.Test.YtikkebjhnechdaaDoorMerLev
namespace Go.Mt
theorem node_pow_zero {L : Nat → Dg} {n d : Nat} (hn : n = 0) : node L n d 0 = zr d := node_zero L n d 0 (by omega)
end Go.Mt
namespace Go.Proofs.YtikkebjhnechdaaDoor
open Go.RowKit Go.Mt

set_option maxRecDepth 100000 in
set_option maxHeartbeats 1000000 in
theorem root_any (d n : Nat) (pp : Option Addr) (pb po c : Nat) (L : Nat → Dg) (w : World) (hT : Tabs w) (hd : d ≤ 16) (hn : n ≤ 2 ^ d) (hpp : 0 < n → pp = some ⟨pb, po, none⟩) (hpb : 0 < n → pb < w.heap.size)
    (hL : DgsAt w pb po n L) (hLn : ∀ k, norm (L k) = L k) :
    Calls Tryd.prog 24 #[.int .i64 d, .slice pp n c] w fun e w' => e = .returned (.tuple #[.agg (arr 32 (ub (node L n d 0))), .nilIface]) ∧ Below w.heap.size w w' := by
  have hz := hT.2.2.2
  have hb0 : Below w.heap.size w (w.alloc (.cells z32 27)) := (Below.refl _ _).alloc (Nat.le_refl _) _
  have hr0 : (w.alloc (.cells z32 27)).heap[w.heap.size]? = some (.cells (arr 32 (ub fun _ => 0)) 27 (0, 0)) := at_z32 _ rfl
  have hn16 : n ≤ 65536 := Nat.le_trans hn (Nat.pow_le_pow_right (n := 2) (by decide) hd)
  have Hlv := Lib.hid (levels_any d n pp pb po c L (w.alloc (.cells z32 27)) (hT.below hb0 hz) hd hn hpp (fun h => Nat.lt_of_lt_of_le (hpb h) hb0.size) (by
    by_cases h0 : 0 < n
    · exact hL.below hb0 (hpb h0)
    · exact fun q hq => by omega) hLn)
  clear hT hL hLn hn
  by_cases h0 : n = 0
  · have hnz := node_pow_zero (L := L) (d := d) h0
    obtain ⟨y, hy⟩ : ∃ y, y = zr d := ⟨_, rfl⟩
    rw [hnz, ← hy]
    have Hy := Lib.hid hy
    clear hnz hy
    have hd17 : d < 17 := by omega
    subst h0
    go_enter Tryd.func24, Tryd.ntmps24
    go_wp2_with (first
      | (go_at_call 44; refine Hlv.out.mono ?_; rintro e w2 ⟨g, cap, vs, rfl, -, -, -, hb2⟩; have hr2 := keep_below hb2 hr0 (lt_row hr0); have hbw := hb0.trans (hb2.mono hb0.size); clear hb0 hr0 Hlv)
      | (guard_target = wpList _ _ _ (⟨_, Op.store _ (.tmp 7) _, _, _, _, _⟩ :: _) _ _; refine wpList_store_new rfl 89 (.tmp 7) (.tmp 14) rfl w2.heap.size _ (hrow 17 zr) 89 rfl rfl rfl (zc_size _) (infZ _) (hrow_one 17 _) ?_; have hr3 := keep_alloc hr2 (.cells (hrow 17 zr) 89 (0, 0)); have hz3 : (w2.alloc (.cells (hrow 17 zr) 89)).rangeAt w2.heap.size (d * 32) (arr 32 (ub y)).toList := (by rw [Nat.mul_comm, Hy.out]; exact hrow_range (at_alloc _ rfl) hd17); have hb3 := hbw.alloc hbw.size (.cells (hrow 17 zr) 89))
      | (guard_target = wpList _ _ _ (⟨_, Op.load _ (.tmp 26), _, _, _, _⟩ :: _) _ _; refine wpList_load_arr rfl 27 (.tmp 26) rfl w2.heap.size (d * 32) rfl (arr 32 (ub y)) _ hz3 Tryd.underlying27 rfl (infH' _) ?_; clear hz3)
      | (guard_target = wpList _ _ _ (⟨_, Op.store _ (.tmp 4) _, _, _, _, _⟩ :: _) _ _; refine wpList_store_mid rfl 27 (.tmp 4) (.tmp 27) rfl w.heap.size 0 (arr 32 (ub y)) rfl rfl (there_row hr3 (by simp)) (infH _) (bytes_one 32 _) ?_))
    refine bodyPost_ret (results_row_tmp (p := 4) (u := 5) (ty := 27) rfl _ _ w.heap.size 27 _ (0, 0) _ rfl (setCells_all hr3 _ (by simp)) Tryd.underlying27 rfl (infH _)) rfl ⟨rfl, ?_⟩
    exact hb3.trans (below_only (only_setCells _ _ _ (only_refl _ _)) (Nat.le_refl _) hb3.size)
  · have hpos : 0 < lenAt n d := lenAt_pos (by omega) d
    obtain ⟨y, hy⟩ : ∃ y, y = node L n d 0 := ⟨_, rfl⟩
    rw [← hy]
    have Hy := Lib.hid hy
    clear hy
    have hnz : ((n : Int) == 0) = false := by simpa using h0
    have hd1 : d < d + 1 := Nat.lt_succ_self d
    go_enter Tryd.func24, Tryd.ntmps24
    go_wp2_with (first
      | (go_at_call 44; refine Hlv.out.mono ?_; rintro e w2 ⟨g, cap, vs, rfl, hg2, hcs, hlv, hb2⟩; have hr2 := keep_below hb2 hr0 (lt_row hr0); have hbw := hb0.trans (hb2.mono hb0.size); obtain ⟨sp, cc, hvd, hlev⟩ := hlv d (Nat.le_refl _); have hcd := hcs d (Nat.le_refl _); rw [hvd] at hcd; obtain ⟨b, o, rfl, hb1, -, hD⟩ := hlev hpos; clear hb0 hr0 Hlv hcs hlv hvd hlev)
      | (guard_target = wpList _ _ _ (⟨_, Op.store _ (.tmp 7) _, _, _, _, _⟩ :: _) _ _; refine wpList_store_new rfl 89 (.tmp 7) (.tmp 14) rfl w2.heap.size _ (hrow 17 zr) 89 rfl rfl rfl (zc_size _) (infZ _) (hrow_one 17 _) ?_; have hr3 := keep_alloc hr2 (.cells (hrow 17 zr) 89 (0, 0)); have hb3 := hbw.alloc hbw.size (.cells (hrow 17 zr) 89); have hz3 : (w2.alloc (.cells (hrow 17 zr) 89)).rangeAt b o (arr 32 (ub y)).toList := (by rw [Hy.out]; have := (hD.below ((Below.refl _ _).alloc (Nat.le_refl _) (.cells (hrow 17 zr) 89)) hb1) 0 hpos; rw [Nat.zero_mul, Nat.add_zero] at this; exact this); have hcd3 : (w2.alloc (.cells (hrow 17 zr) 89)).cell? ⟨g, d, none⟩ = some (.slice (some ⟨b, o, none⟩) (lenAt n d) cc) := (by rw [World.cell?_of_block (a := ⟨g, d, none⟩) (heap_alloc_old _ _ hg2)]; exact hcd); clear hD hcd)
      | (guard_target = wpList _ _ _ (⟨_, Op.load _ (.tmp 32), _, _, _, _⟩ :: _) _ _; refine wpList_load_arr rfl 27 (.tmp 32) rfl b o rfl (arr 32 (ub y)) _ hz3 Tryd.underlying27 rfl (infH' _) ?_; clear hz3)
      | (guard_target = wpList _ _ _ (⟨_, Op.store _ (.tmp 4) _, _, _, _, _⟩ :: _) _ _; refine wpList_store_mid rfl 27 (.tmp 4) (.tmp 33) rfl w.heap.size 0 (arr 32 (ub y)) rfl rfl (there_row hr3 (by simp)) (infH _) (bytes_one 32 _) ?_))
    refine bodyPost_ret (results_row_tmp (p := 4) (u := 5) (ty := 27) rfl _ _ w.heap.size 27 _ (0, 0) _ rfl (setCells_all hr3 _ (by simp)) Tryd.underlying27 rfl (infH _)) rfl ⟨rfl, ?_⟩
    exact hb3.trans (below_only (only_setCells _ _ _ (only_refl _ _)) (Nat.le_refl _) hb3.size)
end Go.Proofs.YtikkebjhnechdaaDoor
