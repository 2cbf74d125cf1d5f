/- Walk: mootlaw02.KeccakSums. -/
import Derived.Test.YtikkebjhnechdaaDoorKecPair
import Derived.Test.YtikkebjhnechdaaDoorKecFixed
import Derived.Test.YtikkebjhnechdaaDoorMtEq
namespace Go.Proofs.YtikkebjhnechdaaDoor
open Go.RowKit Go.Mt

set_option maxRecDepth 100000 in
set_option maxHeartbeats 4000000 in
theorem sums_law (sp : Option Addr) (n c : Nat) (bs : List (BitVec 8)) (a b : Nat → BitVec 8) (w : World) (hT : Tabs w) (hn : bs.length = n) (hsrc : Src w sp bs) (hsb : ∀ a, sp = some a → 0 < bs.length → a.block < w.heap.size) (hnil : sp = none → c = 0) (hlim : n ≤ 140737488351232) :
    Calls Tryd.prog 5 #[.slice sp n c, .agg (arr 32 (ub a)), .agg (arr 32 (ub b))] w fun e w' => e = .returned (.bool true) ∧ Below w.heap.size w w' := by
  subst hn
  have infl : ∀ f, (Tryd.prog.info? 26).map (·.size) = some (arr 32 (ub f)).toList.length := fun f => by rw [Array.length_toList, arr_size]; kernel_rfl
  have hs1 : ∀ w, (sizeOf 5).run Tryd.prog w = .ok 1 w := fun w => by kernel_rfl
  obtain ⟨x, hx⟩ : ∃ x, x = sumB bs := ⟨_, rfl⟩
  obtain ⟨y, hy⟩ : ∃ y, y = sumB (bytesL 32 a ++ bytesL 32 b) := ⟨_, rfl⟩
  have heq1 : ∀ w, (binOp .eql 27 (.agg (arr 32 (ub x))) (.agg (arr 32 (ub x)))).run Tryd.prog w = .ok (.bool true) w := fun w => run_eql_ub w 27 5 32 Tryd.underlying27 (by kernel_rfl) hs1 x x true (by simp)
  have heq2 : ∀ w, (binOp .eql 27 (.agg (arr 32 (ub y))) (.agg (arr 32 (ub y)))).run Tryd.prog w = .ok (.bool true) w := fun w => run_eql_ub w 27 5 32 Tryd.underlying27 (by kernel_rfl) hs1 y y true (by simp)
  have HS1 := Lib.hid (show ∀ sp c w, Tabs w → Src w sp bs → (∀ a, sp = some a → a.block < w.heap.size) → (sp = none → c = 0) → Calls Tryd.prog 14 #[.slice sp bs.length c] w fun e w' => e = .returned (.agg (arr 32 (ub x))) ∧ Below w.heap.size w w' from fun sp c w h0 h1 h2 h3 => by
    rw [hx]; exact ksum_any sp _ c bs w h0 rfl h1 h2 h3 (by omega))
  have HS2 := Lib.hid (show ∀ sp c w, Src w sp bs → (∀ a, sp = some a → 0 < bs.length → a.block < w.heap.size) → (sp = none → c = 0) → Calls Tryd.prog 16 #[.slice sp bs.length c] w fun e w' => e = .returned (.agg (arr 32 (ub x))) ∧ Below w.heap.size w w' from fun sp c w h1 h2 h3 => by
    rw [hx]; exact refsum_any sp _ c bs w rfl h1 h2 h3 hlim)
  have HP1 := Lib.hid (show ∀ w, Tabs w → Calls Tryd.prog 17 #[.agg (arr 32 (ub a)), .agg (arr 32 (ub b))] w fun e w' => e = .returned (.agg (arr 32 (ub y))) ∧ Below w.heap.size w w' from fun w h => by
    rw [hy]; exact kecpair_any a b w h)
  have HP2 := Lib.hid (show ∀ w, Calls Tryd.prog 18 #[.agg (arr 32 (ub a)), .agg (arr 32 (ub b))] w fun e w' => e = .returned (.agg (arr 32 (ub y))) ∧ Below w.heap.size w w' from fun w => by
    rw [hy]; exact refpair_any a b w)
  clear hx hy
  have hA : ((w.alloc (.cells (arr 32 (ub a)) 26)).alloc (.cells (arr 32 (ub b)) 26)).heap[w.heap.size]? = some (.cells (arr 32 (ub a)) 26 (0, 0)) := keep_alloc (at_alloc _ rfl) _
  have hB : ((w.alloc (.cells (arr 32 (ub a)) 26)).alloc (.cells (arr 32 (ub b)) 26)).heap[w.heap.size + 1]? = some (.cells (arr 32 (ub b)) 26 (0, 0)) := at_alloc _ (by simp)
  have hb0 : Below w.heap.size w ((w.alloc (.cells (arr 32 (ub a)) 26)).alloc (.cells (arr 32 (ub b)) 26)) := ((Below.refl _ _).alloc (Nat.le_refl _) _).alloc (by simp) _
  have hsz : ((w.alloc (.cells (arr 32 (ub a)) 26)).alloc (.cells (arr 32 (ub b)) 26)).heap.size = w.heap.size + 2 := by simp
  have ho0 : (((w.alloc (.cells (arr 32 (ub a)) 26)).alloc (.cells (arr 32 (ub b)) 26)).alloc (.cells #[] 5)).ownsRow (w.heap.size + 1 + 1) 5 1 (.slice (some ⟨w.heap.size + 1 + 1, 0, none⟩) 0 0) 0 (bl []) := by
    have := World.ownsRow_lit (e := 5) (size := 1) ((w.alloc (.cells (arr 32 (ub a)) 26)).alloc (.cells (arr 32 (ub b)) 26)) #[] 0 (Nat.le_refl _) (by decide) rfl
    rw [hsz] at this; exact this
  have hbb : Below (w.heap.size + 1 + 1) ((w.alloc (.cells (arr 32 (ub a)) 26)).alloc (.cells (arr 32 (ub b)) 26)) (((w.alloc (.cells (arr 32 (ub a)) 26)).alloc (.cells (arr 32 (ub b)) 26)).alloc (.cells #[] 5)) := (Below.refl _ _).alloc (Nat.le_of_eq hsz.symm) _
  have hb00 : Below w.heap.size w (((w.alloc (.cells (arr 32 (ub a)) 26)).alloc (.cells (arr 32 (ub b)) 26)).alloc (.cells #[] 5)) := hb0.trans (hbb.mono (by omega))
  have hsrc0 : Src (((w.alloc (.cells (arr 32 (ub a)) 26)).alloc (.cells (arr 32 (ub b)) 26)).alloc (.cells #[] 5)) sp bs := hsrc.keepL hb00 hsb
  have hszz : w.heap.size + 1 + 1 ≤ (((w.alloc (.cells (arr 32 (ub a)) 26)).alloc (.cells (arr 32 (ub b)) 26)).alloc (.cells #[] 5)).heap.size := by simp
  have hsb' : ∀ a, sp = some a → 0 < bs.length → a.block < w.heap.size := hsb
  have HT := Lib.hid hT
  have hz := hT.2.2.2
  have Hsrc := Lib.hid hsrc
  have Hsb := Lib.hid hsb'
  have Hnil := Lib.hid hnil
  clear hT hsrc hsb hsb' hnil
  go_enter Tryd.func5, Tryd.ntmps5
  go_wp2_with (first
    | (at_builtin; (refine wpList_append_bytes rfl (.tmp 8) (.tmp 9) 22 rfl (w.heap.size + 1 + 1) 5 Tryd.t5 Tryd.underlying22 (by kernel_rfl) (by kernel_rfl) (by kernel_rfl) (by kernel_rfl) (.slice (some ⟨w.heap.size + 1 + 1, 0, none⟩) 0 0) [] rfl ho0 sp c bs rfl hsrc0 Hnil.out (by simp; omega) hszz ?_; intro v1 w1 hv1 hk1 hat1; rw [List.nil_append] at hv1; have hb1 := hbb.trans (hk1.below hszz (fun k hk h => by cases h; exact absurd hk (Nat.lt_irrefl _))); have hA1 := keep_below hb1 hA (by omega); have hB1 := keep_below hb1 hB (by omega); have hbw1 := hb0.trans (hb1.mono (by omega)); obtain ⟨s1, c1, rfl, hs1', hn1, hc1, ha1⟩ := src_own hv1; have Hbw := Lib.hid hbw1; have HA := Lib.hid hA1; have HB := Lib.hid hB1; have Hs1 := Lib.hid hs1'; have Ha1 := Lib.hid ha1; have Hn1 := Lib.hid hn1; clear hA hB hb0 ho0 hbb hb00 hsrc0 hszz hsz hv1 hk1 hat1 hb1 hA1 hB1 hbw1 hs1' ha1 hn1 hc1)))
  obtain ⟨B0, hB0⟩ : ∃ B0, w1.heap.size = B0 := ⟨_, rfl⟩
  have hD0 : Below B0 w1 w1.drew := (Below.refl _ _).drew
  have hk : ∀ (w' : World) (k : Nat) (f : Nat → BitVec 8), Below B0 w1 w' → w1.heap[k]? = some (.cells (arr 32 (ub f)) 26 (0, 0)) → w'.rangeAt k 0 (arr 32 (ub f)).toList := fun w' k f hw' h => range_of_row (keep_below hw' h (hB0 ▸ lt_row h))
  have hBs : w.heap.size ≤ B0 := hB0 ▸ Hbw.out.size
  have hsm : ∀ w', Below B0 w1 w' → Src w' s1 bs := fun w' h => Hs1.out.keep h (fun a ha => by obtain ⟨g', rfl, _, hh⟩ := Ha1.out a ha; exact hB0 ▸ hh)
  have hso : ∀ w', Below B0 w1 w' → Src w' sp bs := fun w' h => Hsrc.out.keepL (Hbw.out.trans (h.mono hBs)) Hsb.out
  have hle : bs.length ≤ 9223372036854775807 := by omega
  have hba : ∀ w' : World, B0 ≤ w'.heap.size → ∀ a, s1 = some a → a.block < w'.heap.size := fun w' h a ha => by obtain ⟨g', rfl, _, hh⟩ := Ha1.out a ha; exact Nat.lt_of_lt_of_le (hB0 ▸ hh) h
  have hbo : ∀ w' : World, B0 ≤ w'.heap.size → ∀ a, sp = some a → 0 < bs.length → a.block < w'.heap.size := fun w' h a ha hl => Nat.lt_of_lt_of_le (Hsb.out a ha hl) (Nat.le_trans hBs h)
  have hTb : ∀ w', Below B0 w1 w' → Tabs w' := fun w' h => HT.out.below (Hbw.out.trans (h.mono hBs)) hz
  have Hsm := Lib.hid hsm
  have Hso := Lib.hid hso
  have Hba := Lib.hid hba
  have Hbo := Lib.hid hbo
  have HTb := Lib.hid hTb
  clear hsm hso hba hbo hTb
  go_wp2_with (first
    | (refine MtOrd.wp_region_ord_in (id := 2) (fun w' => Below B0 w1 w') [(0, .loud), (1, .head), (2, .head), (4, .free), (3, .loud), (5, .loud), (6, .head), (7, .loud), (8, .head), (9, .head), (10, .head), (11, .head), (12, .head), (13, .head), (14, .loud), (15, .head), (16, .head), (17, .head), (19, .free), (20, .free), (18, .loud), (21, .loud), (22, .head), (23, .loud), (24, .head)] (by kernel_rfl) (by kernel_rfl) (by intro c a d v w h; cases d <;> exact h) hD0 ?_)
    | (refine ord_pick (i := 7) rfl rfl (.tmp 12) (.tmp 17) (.const (.bool false)) true rfl rfl hD7 ?_)
    | (refine ord_pick (i := 14) rfl rfl (.tmp 19) (.tmp 24) (.const (.bool false)) true rfl rfl hD7 ?_)
    | (refine ord_pick (i := 23) rfl rfl (.tmp 26) (.tmp 33) (.const (.bool false)) true rfl rfl hD9 ?_)
    | (guard_target = MtOrd.Ord _ _ _ _ _ _ _; first | (refine MtOrd.ord_nil ?_) | (refine MtOrd.ord_head rfl rfl ?_; intro K hK; first | ((first | (refine quiet_load_arr 26 (.tmp 4) rfl w.heap.size 0 rfl (arr 32 (ub a)) _ (fun w' hw' => hk w' w.heap.size a (by first | exact hw' | (subst hw'; assumption)) HA.out) Tryd.underlying26 rfl (infl _) ?_) | (refine quiet_load_arr 26 (.tmp 5) rfl (w.heap.size + 1) 0 rfl (arr 32 (ub b)) _ (fun w' hw' => hk w' (w.heap.size + 1) b (by first | exact hw' | (subst hw'; assumption)) HB.out) Tryd.underlying26 rfl (infl _) ?_)); refine hK _ ?_; clear hK K) | (go_big_quiet_op; first | (refine hK _ ?_; clear hK K) | (apply Exists.intro; refine ⟨?_, ?_⟩; (fail); refine hK _ ?_; clear hK K))) | (refine MtOrd.ord_free rfl rfl ?_; intro K hK; first | ((first | (refine quiet_load_arr 26 (.tmp 4) rfl w.heap.size 0 rfl (arr 32 (ub a)) _ (fun w' hw' => hk w' w.heap.size a (by first | exact hw' | (subst hw'; assumption)) HA.out) Tryd.underlying26 rfl (infl _) ?_) | (refine quiet_load_arr 26 (.tmp 5) rfl (w.heap.size + 1) 0 rfl (arr 32 (ub b)) _ (fun w' hw' => hk w' (w.heap.size + 1) b (by first | exact hw' | (subst hw'; assumption)) HB.out) Tryd.underlying26 rfl (infl _) ?_)); refine hK _ ?_; clear hK K) | (go_big_quiet_op; refine hK _ ?_; clear hK K)) | (refine MtOrd.ord_skip rfl rfl ?_) | (refine MtOrd.ord_loud rfl rfl ?_; intro K hK))
    | (go_at_call 13; refine (fixed_any w1.drew (HTb.out _ hD0)).mono ?_; rintro e w5 ⟨rfl, hb5⟩; have hD5 : Below B0 w1 w5 := hD0.trans (hb5.mono (Nat.le_of_eq hB0.symm)); have hs5 : B0 ≤ w5.heap.size := (hB0 ▸ hb5.size); refine hK _ _ hD5 ?_; clear hK K)
    | (go_at_call 14; refine (HS1.out s1 c1 w5 (HTb.out _ hD5) (Hsm.out _ hD5) (Hba.out _ hs5) Hn1.out).mono ?_; rintro e w6 ⟨rfl, hb6⟩; have hD6 : Below B0 w1 w6 := hD5.trans (hb6.mono hs5); have hs6 : B0 ≤ w6.heap.size := Nat.le_trans hs5 hb6.size; refine hK _ _ hD6 ?_; clear hK K)
    | (go_at_call 16; refine (HS2.out sp c w6 (Hso.out _ hD6) (Hbo.out _ hs6) Hnil.out).mono ?_; rintro e w7 ⟨rfl, hb7⟩; have hD7 : Below B0 w1 w7 := hD6.trans (hb7.mono hs6); have hs7 : B0 ≤ w7.heap.size := Nat.le_trans hs6 hb7.size; have hc7 := conv_src (P := Tryd.prog) (sp := s1) (c := c1) 22 9 5 Tryd.underlying22 Tryd.underlying5 Tryd.underlying9 (Hsm.out _ hD7) Hn1.out hle; have hc8 := conv_src (P := Tryd.prog) (sp := sp) (c := c) 22 9 5 Tryd.underlying22 Tryd.underlying5 Tryd.underlying9 (Hso.out _ hD7) Hnil.out hle; refine hK _ _ hD7 ?_; clear hK K)
    | (go_at_call 17; refine (HP1.out w7 (HTb.out _ hD7)).mono ?_; rintro e w8 ⟨rfl, hb8⟩; have hD8 : Below B0 w1 w8 := hD7.trans (hb8.mono hs7); have hs8 : B0 ≤ w8.heap.size := Nat.le_trans hs7 hb8.size; refine hK _ _ hD8 ?_; clear hK K)
    | (go_at_call 18; refine (HP2.out w8).mono ?_; rintro e w9 ⟨rfl, hb9⟩; have hD9 : Below B0 w1 w9 := hD8.trans (hb9.mono hs8); refine hK _ _ hD9 ?_; clear hK K))
  exact bodyPost_ret (results_tmp (t := 6) rfl _ _ _) rfl ⟨rfl, Hbw.out.trans (hD9.mono hBs)⟩
end Go.Proofs.YtikkebjhnechdaaDoor
