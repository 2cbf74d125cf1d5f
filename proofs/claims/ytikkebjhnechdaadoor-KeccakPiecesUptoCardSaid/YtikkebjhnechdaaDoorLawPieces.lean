/- Walk: mootlaw02.KeccakPieces. -/
import Derived.Test.YtikkebjhnechdaaDoorRefSum
import Derived.Test.YtikkebjhnechdaaDoorKecFixed
import Derived.Test.YtikkebjhnechdaaDoorErrIs
import Derived.Test.YtikkebjhnechdaaDoorMtPieces
import Derived.Test.YtikkebjhnechdaaDoorMtEq
namespace Go.Proofs.YtikkebjhnechdaaDoor
open Go.RowKit Go.Mt

set_option maxRecDepth 100000 in
set_option maxHeartbeats 4000000 in
theorem pieces_law (pp : Option Addr) (pb po N C : Nat) (SP : Nat → Option Addr) (CP : Nat → Nat) (BS : Nat → List (BitVec 8)) (w : World) (hT : Tabs w) (hpp : 0 < N → pp = some ⟨pb, po, none⟩) (hpb : 0 < N → pb < w.heap.size)
    (hcell : ∀ i, i < N → w.cell? ⟨pb, po + i, none⟩ = some (.slice (SP i) (BS i).length (CP i))) (hsrc : ∀ i, i < N → Src w (SP i) (BS i)) (hsb : ∀ i, i < N → ∀ a, SP i = some a → 0 < (BS i).length → a.block < w.heap.size)
    (hnil : ∀ i, i < N → SP i = none → CP i = 0) (hN : N ≤ 9223372036854775807) (hlim : (catTo BS N).length ≤ 140737488351232) :
    Calls Tryd.prog 7 #[.slice pp N C] w fun e w' => e = .returned (.bool true) ∧ Below w.heap.size w w' := by
  have infh : ∀ f, (Tryd.prog.info? 27).map (·.size) = some (arr 32 (ub f)).size := fun f => by rw [arr_size]; kernel_rfl
  have HT := Lib.hid hT
  have hz := hT.2.2.2
  have Hcell := Lib.hid hcell
  have Hsrc := Lib.hid hsrc
  have Hsb := Lib.hid hsb
  have Hnil := Lib.hid hnil
  have Hlim := Lib.hid hlim
  clear hT hcell hsrc hsb hnil hlim
  go_enter Tryd.func7, Tryd.ntmps7
  go_wp2_with (first
    | (go_at_call 19; refine (new_any _).mono ?_; rintro e w1 ⟨rfl, hh1, hb1, hs1⟩)
    | (go_at_call 20; refine (hsum_nil w1).mono ?_; rintro e w2 ⟨rfl, hb2⟩; have hh2 := keep_below hb2 hh1 (lt_row hh1); have hb12 := hb1.trans (hb2.mono (Nat.le_of_lt (lt_row hh1))); have hl2 := lt_row hh2)
    | (refine wpList_store_mid rfl 27 (.tmp 5) (.tmp 19) rfl w2.heap.size 0 (arr 32 (ub fun _ => 0)) rfl rfl (there_row (at_z32 _ rfl) (by simp)) (infh _) (bytes_one 32 _) ?_; have hh3 := ((only_setCells (g := w2.heap.size) (arr 32 (ub fun _ => 0)).toList 0 _ (only_refl (w2.alloc (.cells z32 27)) _)).block w.heap.size (by simp; omega) (by simp; omega)).trans (keep_alloc hh2 _); have hb3 := (hb12.alloc (Nat.le_of_lt hl2) (.cells z32 27)).trans (below_only (only_setCells (g := w2.heap.size) (arr 32 (ub fun _ => 0)).toList 0 _ (only_refl (w2.alloc (.cells z32 27)) _)) (show w.heap.size ≤ w2.heap.size by omega) (by simp; omega)); generalize hw3 : (World.setCells _ w2.heap.size 0 (arr 32 (ub fun _ => 0)).toList) = w3 at hh3 hb3 ⊢; clear hw3)
    | (go_at_call 13; refine (fixed_any w3 (HT.out.below hb3 hz)).mono ?_; rintro e w4 ⟨rfl, hb4⟩; have hh4 := keep_below hb4 hh3 (lt_row hh3); have hb34 := hb3.trans (hb4.mono (Nat.le_of_lt (lt_row hh3))))
    | (go_at_call 22; refine (add_nil none 0 0 w4).mono ?_; rintro e w5 ⟨rfl, hw5⟩; obtain rfl : w4 = w5 := hw5)
    | (go_at_call 21; refine (is_same 1 w4).mono ?_; rintro e w5 ⟨rfl, hw5⟩; obtain rfl : w4 = w5 := hw5.symm))
  have hs4 := lt_row hh4
  clear hh1 hb1 hs1 hb2 hh2 hb12 hl2 hh3 hb3 hb4
  go_loopw [7, 42] (fun v x wr => ∃ (i : Nat) (vh : Value), i ≤ N ∧ i ≤ 30 ∧ x = .int .i64 i ∧ wr.heap[w.heap.size]? = some (.cells (hs (fd (catTo BS i)).1 vh) 82 (0, 0)) ∧ wr.ownsRow (w.heap.size + 1) 5 1 vh (fd (catTo BS i)).2.length (bl (fd (catTo BS i)).2) ∧
      wr.ownsRow (w.heap.size + 1) 5 1 v (catTo BS i).length (bl (catTo BS i)) ∧ (∀ k, vh.ownBlock = some k → v.ownBlock ≠ some k) ∧ Below w.heap.size w wr) (fun _ x _ => N - (intOf x).toNat)
  case atStart =>
    refine ⟨0, .slice none 0 0, by omega, by omega, rfl, ?_, ?_, World.ownsRow_nil _ _ _ _, (fun k h => by cases h), hb34⟩
    · show w4.heap[w.heap.size]? = some (.cells (hs (fd []).1 _) _ _)
      rw [fd_nil]; exact hh4
    · show w4.ownsRow _ _ _ _ (fd []).2.length (bl (fd []).2)
      rw [fd_nil]; exact World.ownsRow_nil _ _ _ _
  case round =>
    obtain ⟨i, vh, hi, hi30, rfl, hh, hoh, hoa, hdis, hb⟩ := hrel
    obtain ⟨wo, rfl⟩ : ∃ wo : World, wo = wr := ⟨_, rfl⟩
    clear hh4 hb34
    have Hb := Lib.hid hb
    have hwr := lt_row hh
    have hTr := HT.out.below hb hz
    have hsz : w.heap.size + 1 ≤ wo.heap.size := hwr
    clear hb
    by_cases hgo : i < N ∧ i < 30
    · obtain ⟨hiN, hi3⟩ := hgo
      obtain rfl := hpp (by omega)
      have hpw := hpb (by omega)
      have hci : wo.cell? ⟨pb, po + i, none⟩ = some (.slice (SP i) (BS i).length (CP i)) := by rw [Hb.out.cell (p := ⟨pb, po + i, none⟩) hpw]; exact Hcell.out i hiN
      have hsi : ∀ w', Below w.heap.size w w' → Src w' (SP i) (BS i) := fun w' h => (Hsrc.out i hiN).keepL h (Hsb.out i hiN)
      have hni := Hnil.out i hiN
      have hli : (catTo BS i).length + (BS i).length ≤ 140737488351232 := by
        have h1 := catTo_le BS (show i + 1 ≤ N by omega)
        have h2 : (catTo BS (i + 1)).length = (catTo BS i).length + (BS i).length := List.length_append
        have := Hlim.out; omega
      have hxs := fd_short (catTo BS i)
      obtain ⟨us, hus⟩ : ∃ us, us = catTo BS i := ⟨_, rfl⟩
      obtain ⟨bs, hbs⟩ : ∃ bs, bs = BS i := ⟨_, rfl⟩
      rw [← hus] at hh hoh hoa hli hxs
      rw [← hbs] at hci hsi hli
      obtain ⟨sp, hsp⟩ : ∃ sp, sp = SP i := ⟨_, rfl⟩
      obtain ⟨cp, hcp⟩ : ∃ cp, cp = CP i := ⟨_, rfl⟩
      rw [← hsp] at hci hsi hni
      rw [← hcp] at hci hni
      have hnext : catTo BS (i + 1) = us ++ bs := by rw [hus, hbs]; rfl
      obtain ⟨ys, hys⟩ : ∃ ys, ys = us ++ bs := ⟨_, rfl⟩
      rw [← hys] at hnext
      have hyl : ys.length ≤ 140737488351232 := by rw [hys, List.length_append]; exact hli
      obtain ⟨x, hx⟩ : ∃ x, x = sumB ys := ⟨_, rfl⟩
      have Hsum := Lib.hid (show ∀ base v w3, Tabs w3 → w3.heap[w.heap.size]? = some (.cells (hs (fd ys).1 v) 82 (0, 0)) → w3.ownsRow base 5 1 v (fd ys).2.length (bl (fd ys).2) →
        Calls Tryd.prog 20 #[.pointer (some ⟨w.heap.size, 0, none⟩)] w3 fun e w' => e = .returned (.tuple #[.agg (arr 32 (ub x)), .nilIface]) ∧ Below w3.heap.size w3 w' from fun base v w3 h1 h2 h3 => by
        rw [hx]; exact hsum_any w.heap.size base _ _ v w3 h1 h2 h3 (fd_short _))
      have HS2 := Lib.hid (show ∀ sp c w, Src w sp ys → (∀ a, sp = some a → 0 < ys.length → a.block < w.heap.size) → (sp = none → c = 0) → Calls Tryd.prog 16 #[.slice sp ys.length c] w fun e w' => e = .returned (.agg (arr 32 (ub x))) ∧ Below w.heap.size w w' from fun sp c w h1 h2 h3 => by
        rw [hx]; exact refsum_any sp _ c ys w rfl h1 h2 h3 hyl)
      have hneq : ∀ w, (binOp .neq 27 (.agg (arr 32 (ub x))) (.agg (arr 32 (ub x)))).run Tryd.prog w = .ok (.bool false) w := fun w => run_neq_ub w 27 5 32 Tryd.underlying27 (by kernel_rfl) (fun w => by kernel_rfl) x
      have Hys := Lib.hid hys
      have Hnext := Lib.hid hnext
      clear hus hbs hsp hcp hnext hys hx
      have hbe : Below w.heap.size w (wo.alloc (.cells #[] 5)) := Hb.out.alloc (Nat.le_of_lt hwr) _
      have hsi0 := hsi _ hbe
      have ho0 : (wo.alloc (.cells #[] 5)).ownsRow wo.heap.size 5 1 (.slice (some ⟨wo.heap.size, 0, none⟩) 0 0) 0 (bl []) := World.ownsRow_lit wo #[] 0 (Nat.le_refl _) (by decide) rfl
      have hbr : Below wo.heap.size wo (wo.alloc (.cells #[] 5)) := (Below.refl _ _).alloc (Nat.le_refl _) _
      have Hsi := Lib.hid hsi
      clear hsi
      go_wp2_with (first
        | (at_builtin; (refine wpList_append_bytes rfl (.tmp 49) (.tmp 50) 22 rfl wo.heap.size 5 Tryd.t5 Tryd.underlying22 (by kernel_rfl) (by kernel_rfl) (by kernel_rfl) (by kernel_rfl) _ [] rfl ho0 sp cp bs rfl hsi0 hni (by simp; omega) (by simp) ?_; intro vm w1 hvm hk1 hat1; rw [List.nil_append] at hvm; have hb1 := hbr.trans (hk1.below (by simp) (fun k hk h => by cases h; exact absurd hk (Nat.lt_irrefl _))); have hh1 := keep_below hb1 hh hwr; have hoh1 := own_keep (S := fun _ => False) hoh (keeps_below hb1) (fun _ _ h => h); have hoa1 := own_keep (S := fun _ => False) hoa (keeps_below hb1) (fun _ _ h => h); obtain ⟨sm, cm, rfl, hsm, hnm, hcm, ham⟩ := src_own hvm; have hbw1 := Hb.out.trans (hb1.mono (Nat.le_of_lt hwr)); have hT1 := HT.out.below hbw1 hz; have hl1 := hb1.size))
        | (go_at_call 22; refine (add_any w.heap.size (w.heap.size + 1) (fd us).1 (fd us).2 vh sm bs.length cm bs w1 hT1 hh1 hoh1 (Nat.lt_succ_self _) (by omega) (by omega) rfl hsm hnm (by omega)).mono ?_; rintro e w2 ⟨rfl, vh2, hh2, hoh2, hnew, hk2⟩; rw [fd_append, ← Hys.out] at hh2 hoh2; have hoa2 := own_keep hoa1 hk2 (fun k hk h => by rcases h with h | h; (· have := (hoa1.lt k hk).1; omega); (· exact hdis k h hk)); have hvm2 := own_keep hvm hk2 (fun k hk h => by rcases h with h | h; (· have := (hvm.lt k hk).1; omega); (· have h1 := (hvm.lt k hk).1; have h2 := (hoh.lt k h).2; omega)); have hb2 := hbw1.trans (hk2.below (by omega) (fun k hk h => by rcases h with h | h; (· omega); (· have := (hoh.lt k h).1; omega))); have hl2 := hk2.size))
      have hdis2 : ∀ k, vh2.ownBlock = some k → u7.ownBlock ≠ some k := fun k hk h => by
        rcases hnew k hk with h1 | h1
        · exact hdis k h1 h
        · have := (hoa1.lt k h).2; omega
      have hdm2 : ∀ k, (Value.slice sm bs.length cm).ownBlock = some k → vh2.ownBlock ≠ some k := fun k hk h => by
        rcases hnew k h with h1 | h1
        · have h2 := (hvm.lt k hk).1; have h3 := (hoh.lt k h1).2; omega
        · have := (hvm.lt k hk).2; omega
      have hdma : ∀ k, (Value.slice sm bs.length cm).ownBlock = some k → u7.ownBlock ≠ some k := fun k hk h => by
        have h2 := (hvm.lt k hk).1; have h3 := (hoa.lt k h).2; omega
      have hge : ∀ k, (Value.slice sm bs.length cm).ownBlock = some k → wo.heap.size ≤ k := fun k hk => (hvm.lt k hk).1
      clear hvm hk1 hat1 hb1 hh1 hoh1 hoa1 hsm hnm hbw1 hT1 hk2 hnew hdis hoh hoa hh ho0 hbr hbe hsi0
      go_loopw [58] (fun x wq => ∃ (j : Nat) (zs : List Value), j ≤ bs.length ∧ x = .int .i64 j ∧ wq.ownsRow wo.heap.size 5 1 (.slice sm bs.length cm) bs.length zs ∧ Keeps (fun k => (Value.slice sm bs.length cm).ownBlock = some k) w2 wq) (fun x _ => bs.length - (intOf x).toNat)
      case atStart => exact ⟨0, _, by omega, rfl, hvm2, Keeps.refl _ _⟩
      case round =>
        obtain ⟨j, zs, hj, rfl, hoq, hkq⟩ := hrel
        by_cases hjl : j < bs.length
        · obtain ⟨gm, cm', hge', hgm1, hgm2⟩ := hoq.form (by omega)
          cases hge'
          have hzl : zs.length = bs.length := by have := hoq.1; omega
          have hcq := hoq.cellAt j (by omega)
          rw [List.getElem?_eq_getElem (by omega)] at hcq
          have hfq := hoq.frozenAt
          have hst := hoq.stored j (.int .u8 238)
          have Hst := Lib.hid hst.1
          have Hkq := Lib.hid hkq
          clear hst hoq hkq hvm2
          go_wp2_with fail
          refine ⟨⟨j + 1, zs.set j (.int .u8 238), by omega, by go_num, Hst.out, ?_⟩, by simp [intOf]; omega⟩
          exact Hkq.out.setCell (p := ⟨gm, j, none⟩) (.inl rfl) _
        · obtain rfl : j = bs.length := by omega
          have hh3 := (hkq.block w.heap.size (lt_row hh2) (fun h => by have := hge _ h; omega)).trans hh2
          have hoh3 := own_keep hoh2 hkq (fun k hk h => hdm2 k h hk)
          have hoa3 := own_keep hoa2 hkq (fun k hk h => hdma k h hk)
          have hb3 := hb2.trans (hkq.below (B := w.heap.size) (by omega) (fun k hk h => by have := hge _ h; omega))
          have hs3 := Hsi.out _ hb3
          have hl3 := lt_row hh3
          have infl : (Tryd.prog.info? 27).map (·.size) = some (arr 32 (ub x)).toList.length := by rw [Array.length_toList]; exact infh x
          clear hkq hoq hvm2 hh2 hoh2 hoa2 hb2 hdm2 hdma hge
          go_wp2_with (first
            | (at_builtin; (refine wpList_append_bytes rfl (.tmp 65) (.tmp 66) 22 rfl (w.heap.size + 1) 5 Tryd.t5 Tryd.underlying22 (by kernel_rfl) (by kernel_rfl) (by kernel_rfl) (by kernel_rfl) u7 us rfl hoa3 sp cp bs rfl hs3 hni (by omega) hl3 ?_; intro va w5 hva hk5 hat5; rw [← Hys.out] at hva; have hh5 := (hk5.block w.heap.size hl3 (fun h => by have := (hoa3.lt _ h).1; omega)).trans hh3; have hoh5 := own_keep hoh3 hk5 (fun k hk h => hdis2 k hk h); have hdis5 : ∀ k, vh2.ownBlock = some k → va.ownBlock ≠ some k := (fun k hk h => by rcases hat5 with h1 | h1; (· exact hdis2 k hk (h1 ▸ h)); (· rw [h1] at h; cases h; exact absurd (hoh3.lt _ hk).2 (Nat.lt_irrefl _))); have hb5 := hb3.trans (hk5.below (B := w.heap.size) (by omega) (fun k hk h => by have := (hoa3.lt _ h).1; omega)); have hl5 := lt_row hh5; clear hh3 hoh3 hoa3 hb3 hs3 hk5 hat5 hdis2 hl3))
            | (go_at_call 20; refine (Hsum.out (w.heap.size + 1) vh2 w5 (HT.out.below hb5 hz) hh5 hoh5).mono ?_; rintro e w6 ⟨rfl, hb6⟩)
            | (refine wpList_store_mid rfl 27 (.tmp 12) (.tmp 71) rfl w6.heap.size 0 (arr 32 (ub x)) rfl rfl (there_row (at_z32 _ rfl) (by simp)) (infh _) (bytes_one 32 _) ?_; generalize hw7 : (World.setCells _ w6.heap.size 0 (arr 32 (ub x)).toList) = w7; have hP7 : w7.heap[w6.heap.size]? = some (.cells (arr 32 (ub x)) 27 (0, 0)) := hw7 ▸ setCells_all (at_z32 27 rfl) (arr 32 (ub x)) (by simp); have hb7 : Below w6.heap.size w6 w7 := hw7 ▸ (((Below.refl _ _).alloc (Nat.le_refl _) (.cells z32 27)).trans ((below_only (only_setCells (g := w6.heap.size) (arr 32 (ub x)).toList 0 _ (only_refl (w6.alloc (.cells z32 27)) _)) (Nat.le_refl _) (by simp)).mono (Nat.le_refl _))); clear hw7; have hb57 := hb6.trans (hb7.mono hb6.size); obtain ⟨sa, ca, hvae, hsa, hna, hca, haa⟩ := src_own hva; obtain ⟨B0, hB0⟩ : ∃ B0, w7.heap.size = B0 := ⟨_, rfl⟩; have hD0 : Below B0 w7 w7.drew := (Below.refl _ _).drew; have hrg : ∀ w', Below B0 w7 w' → w'.rangeAt w6.heap.size 0 (arr 32 (ub x)).toList := (fun w' hw' => range_of_row (keep_below hw' hP7 (hB0 ▸ lt_row hP7))); have hsa7 := hsa.keep hb57 (fun a ha => by obtain ⟨g', rfl, _, h⟩ := haa a ha; exact h); have h57 := hb57.size)
            | (refine MtOrd.wp_region_ord_in (id := 21) (fun w' => Below B0 w7 w') [(0, .head), (1, .head), (2, .head), (4, .head), (3, .free), (5, .loud), (6, .head), (7, .loud)] (by kernel_rfl) (by kernel_rfl) (by intro c a d v w h; cases d <;> exact h) hD0 ?_)
            | (refine ord_pick (i := 7) rfl rfl (.tmp 75) (.const (.bool true)) (.tmp 79) false rfl rfl hD8 ?_)
            | (guard_target = MtOrd.Ord _ _ _ _ _ _ _; first | (refine MtOrd.ord_nil ?_) | (refine MtOrd.ord_head rfl rfl ?_; intro K hK; first | ((refine quiet_load_arr 27 (.tmp 12) rfl w6.heap.size 0 rfl (arr 32 (ub x)) _ (fun w' hw' => hrg w' (by first | exact hw' | (subst hw'; assumption))) Tryd.underlying27 rfl infl ?_); refine hK _ ?_; clear hK K) | (go_big_quiet_op; first | (refine hK _ ?_; clear hK K) | (apply Exists.intro; refine ⟨?_, ?_⟩; (fail); refine hK _ ?_; clear hK K))) | (refine MtOrd.ord_free rfl rfl ?_; intro K hK; first | ((refine quiet_load_arr 27 (.tmp 12) rfl w6.heap.size 0 rfl (arr 32 (ub x)) _ (fun w' hw' => hrg w' (by first | exact hw' | (subst hw'; assumption))) Tryd.underlying27 rfl infl ?_); refine hK _ ?_; clear hK K) | (go_big_quiet_op; refine hK _ ?_; clear hK K)) | (refine MtOrd.ord_skip rfl rfl ?_) | (refine MtOrd.ord_loud rfl rfl ?_; intro K hK))
            | (go_at_call 16; subst hvae; refine (HS2.out sa ca w7.drew hsa7 (fun a ha _ => by obtain ⟨g', rfl, _, h⟩ := haa a ha; exact Nat.lt_of_lt_of_le h h57) hna).mono ?_; rintro e w8 ⟨rfl, hb8⟩; have hD8 : Below B0 w7 w8 := hD0.trans (hb8.mono (Nat.le_of_eq hB0.symm)); refine hK _ _ hD8 ?_; clear hK K))
          have h58 : Below w5.heap.size w5 w8 := hb57.trans (hD8.mono (hB0 ▸ h57))
          refine ⟨⟨i + 1, vh2, by omega, by omega, by go_num, ?_, ?_, ?_, hdis5, hb5.trans (h58.mono (Nat.le_of_lt hl5))⟩, by simp [intOf]; omega⟩
          · rw [Hnext.out]; exact keep_below h58 hh5 hl5
          · rw [Hnext.out]; exact own_keep (S := fun _ => False) hoh5 (keeps_below h58) (fun _ _ h => h)
          · rw [Hnext.out]; exact own_keep (S := fun _ => False) hva (keeps_below h58) (fun _ _ h => h)
    · have hxs := fd_short (catTo BS i)
      have hul : (catTo BS i).length ≤ 140737488351232 := Nat.le_trans (catTo_le BS hi) Hlim.out
      have hci : ∀ h : i < N, wo.cell? ⟨pb, po + i, none⟩ = some (.slice (SP i) (BS i).length (CP i)) := fun h => by rw [Hb.out.cell (p := ⟨pb, po + i, none⟩) (hpb (by omega))]; exact Hcell.out i h
      have hgo2 : i < N → i = 30 := fun h => by omega
      obtain ⟨sp, hsp⟩ : ∃ sp, sp = SP i := ⟨_, rfl⟩
      obtain ⟨cp, hcp⟩ : ∃ cp, cp = CP i := ⟨_, rfl⟩
      obtain ⟨bs, hbs⟩ : ∃ bs, bs = BS i := ⟨_, rfl⟩
      rw [← hsp, ← hcp, ← hbs] at hci
      obtain ⟨ys, hys⟩ : ∃ ys, ys = catTo BS i := ⟨_, rfl⟩
      rw [← hys] at hh hoh hoa hxs hul
      obtain ⟨x, hx⟩ : ∃ x, x = sumB ys := ⟨_, rfl⟩
      have Hsum := Lib.hid (show ∀ base v w3, Tabs w3 → w3.heap[w.heap.size]? = some (.cells (hs (fd ys).1 v) 82 (0, 0)) → w3.ownsRow base 5 1 v (fd ys).2.length (bl (fd ys).2) →
        Calls Tryd.prog 20 #[.pointer (some ⟨w.heap.size, 0, none⟩)] w3 fun e w' => e = .returned (.tuple #[.agg (arr 32 (ub x)), .nilIface]) ∧ Below w3.heap.size w3 w' from fun base v w3 h1 h2 h3 => by
        rw [hx]; exact hsum_any w.heap.size base _ _ v w3 h1 h2 h3 (fd_short _))
      have HS2 := Lib.hid (show ∀ sp c w, Tabs w → Src w sp ys → (∀ a, sp = some a → a.block < w.heap.size) → (sp = none → c = 0) → Calls Tryd.prog 14 #[.slice sp ys.length c] w fun e w' => e = .returned (.agg (arr 32 (ub x))) ∧ Below w.heap.size w w' from fun sp c w h0 h1 h2 h3 => by
        rw [hx]; exact ksum_any sp _ c ys w h0 rfl h1 h2 h3 (by omega))
      have heq : ∀ w, (binOp .eql 27 (.agg (arr 32 (ub x))) (.agg (arr 32 (ub x)))).run Tryd.prog w = .ok (.bool true) w := fun w => run_eql_ub w 27 5 32 Tryd.underlying27 (by kernel_rfl) (fun w => by kernel_rfl) x x true (by simp)
      have infl : (Tryd.prog.info? 27).map (·.size) = some (arr 32 (ub x)).toList.length := by rw [Array.length_toList]; exact infh x
      clear hys hx hsp hcp hbs hdis
      obtain ⟨sa, ca, rfl, hsa, hna, hca, haa⟩ := src_own hoa
      have Hsa := Lib.hid hsa
      have Hna := Lib.hid hna
      have Haa := Lib.hid haa
      clear hsa hna haa hoa hca
      by_cases hiN : i < N
      · obtain rfl := hgo2 hiN
        obtain rfl := hpp (by omega)
        have hcc := hci hiN
        clear hci hgo2 hgo
        go_wp2_with (first
            | (go_at_call 20; refine (Hsum.out (w.heap.size + 1) vh wo hTr hh hoh).mono ?_; rintro e w6 ⟨rfl, hb6⟩)
            | (refine wpList_store_mid rfl 27 (.tmp 14) (.tmp 85) rfl w6.heap.size 0 (arr 32 (ub x)) rfl rfl (there_row (at_z32 _ rfl) (by simp)) (infh _) (bytes_one 32 _) ?_; generalize hw7 : (World.setCells _ w6.heap.size 0 (arr 32 (ub x)).toList) = w7; have hP7 : w7.heap[w6.heap.size]? = some (.cells (arr 32 (ub x)) 27 (0, 0)) := hw7 ▸ setCells_all (at_z32 27 rfl) (arr 32 (ub x)) (by simp); have hb7 : Below w6.heap.size w6 w7 := hw7 ▸ (((Below.refl _ _).alloc (Nat.le_refl _) (.cells z32 27)).trans ((below_only (only_setCells (g := w6.heap.size) (arr 32 (ub x)).toList 0 _ (only_refl (w6.alloc (.cells z32 27)) _)) (Nat.le_refl _) (by simp)).mono (Nat.le_refl _))); clear hw7; have hb57 := hb6.trans (hb7.mono hb6.size); obtain ⟨B0, hB0⟩ : ∃ B0, w7.heap.size = B0 := ⟨_, rfl⟩; have hD0 : Below B0 w7 w7.drew := (Below.refl _ _).drew; have hrg : ∀ w', Below B0 w7 w' → w'.rangeAt w6.heap.size 0 (arr 32 (ub x)).toList := (fun w' hw' => range_of_row (keep_below hw' hP7 (hB0 ▸ lt_row hP7))); have hsa7 := Hsa.out.keep hb57 (fun a ha => by obtain ⟨g', rfl, _, h⟩ := Haa.out a ha; exact h); have h57 := hb57.size; have hbw7 := Hb.out.trans (hb57.mono (Nat.le_of_lt hwr)))
            | (refine MtOrd.wp_region_ord_in (id := 25) (fun w' => Below B0 w7 w') [(0, .head), (1, .head), (2, .head), (4, .head), (3, .free), (5, .loud), (6, .head), (7, .loud), (8, .head)] (by kernel_rfl) (by kernel_rfl) (by intro c a d v w h; cases d <;> exact h) hD0 ?_)
            | (refine ord_pick (i := 7) rfl rfl (.tmp 89) (.tmp 93) (.const (.bool false)) true rfl rfl hD8 ?_)
            | (guard_target = MtOrd.Ord _ _ _ _ _ _ _; first | (refine MtOrd.ord_nil ?_) | (refine MtOrd.ord_head rfl rfl ?_; intro K hK; first | ((refine quiet_load_arr 27 (.tmp 14) rfl w6.heap.size 0 rfl (arr 32 (ub x)) _ (fun w' hw' => hrg w' (by first | exact hw' | (subst hw'; assumption))) Tryd.underlying27 rfl infl ?_); refine hK _ ?_; clear hK K) | (go_big_quiet_op; first | (refine hK _ ?_; clear hK K) | (apply Exists.intro; refine ⟨?_, ?_⟩; (fail); refine hK _ ?_; clear hK K))) | (refine MtOrd.ord_free rfl rfl ?_; intro K hK; first | ((refine quiet_load_arr 27 (.tmp 14) rfl w6.heap.size 0 rfl (arr 32 (ub x)) _ (fun w' hw' => hrg w' (by first | exact hw' | (subst hw'; assumption))) Tryd.underlying27 rfl infl ?_); refine hK _ ?_; clear hK K) | (go_big_quiet_op; refine hK _ ?_; clear hK K)) | (refine MtOrd.ord_skip rfl rfl ?_) | (refine MtOrd.ord_loud rfl rfl ?_; intro K hK))
            | (go_at_call 14; refine (HS2.out sa ca w7.drew (HT.out.below hbw7 hz).drew hsa7 (fun a ha => by obtain ⟨g', rfl, _, h⟩ := Haa.out a ha; exact Nat.lt_of_lt_of_le h h57) Hna.out).mono ?_; rintro e w8 ⟨rfl, hb8⟩; have hD8 : Below B0 w7 w8 := hD0.trans (hb8.mono (Nat.le_of_eq hB0.symm)); refine hK _ _ hD8 ?_; clear hK K))
        exact bodyPost_ret (results_tmp (t := 2) rfl _ _ _) rfl ⟨rfl, hbw7.trans (hD8.mono (hB0 ▸ hbw7.size))⟩
      · obtain rfl : i = N := by omega
        clear hci hgo2 hgo
        go_wp2_with (first
            | (go_at_call 20; refine (Hsum.out (w.heap.size + 1) vh wo hTr hh hoh).mono ?_; rintro e w6 ⟨rfl, hb6⟩)
            | (refine wpList_store_mid rfl 27 (.tmp 14) (.tmp 85) rfl w6.heap.size 0 (arr 32 (ub x)) rfl rfl (there_row (at_z32 _ rfl) (by simp)) (infh _) (bytes_one 32 _) ?_; generalize hw7 : (World.setCells _ w6.heap.size 0 (arr 32 (ub x)).toList) = w7; have hP7 : w7.heap[w6.heap.size]? = some (.cells (arr 32 (ub x)) 27 (0, 0)) := hw7 ▸ setCells_all (at_z32 27 rfl) (arr 32 (ub x)) (by simp); have hb7 : Below w6.heap.size w6 w7 := hw7 ▸ (((Below.refl _ _).alloc (Nat.le_refl _) (.cells z32 27)).trans ((below_only (only_setCells (g := w6.heap.size) (arr 32 (ub x)).toList 0 _ (only_refl (w6.alloc (.cells z32 27)) _)) (Nat.le_refl _) (by simp)).mono (Nat.le_refl _))); clear hw7; have hb57 := hb6.trans (hb7.mono hb6.size); obtain ⟨B0, hB0⟩ : ∃ B0, w7.heap.size = B0 := ⟨_, rfl⟩; have hD0 : Below B0 w7 w7.drew := (Below.refl _ _).drew; have hrg : ∀ w', Below B0 w7 w' → w'.rangeAt w6.heap.size 0 (arr 32 (ub x)).toList := (fun w' hw' => range_of_row (keep_below hw' hP7 (hB0 ▸ lt_row hP7))); have hsa7 := Hsa.out.keep hb57 (fun a ha => by obtain ⟨g', rfl, _, h⟩ := Haa.out a ha; exact h); have h57 := hb57.size; have hbw7 := Hb.out.trans (hb57.mono (Nat.le_of_lt hwr)))
            | (refine MtOrd.wp_region_ord_in (id := 25) (fun w' => Below B0 w7 w') [(0, .head), (1, .head), (2, .head), (4, .head), (3, .free), (5, .loud), (6, .head), (7, .loud), (8, .head)] (by kernel_rfl) (by kernel_rfl) (by intro c a d v w h; cases d <;> exact h) hD0 ?_)
            | (refine ord_pick (i := 7) rfl rfl (.tmp 89) (.tmp 93) (.const (.bool false)) true rfl rfl hD8 ?_)
            | (guard_target = MtOrd.Ord _ _ _ _ _ _ _; first | (refine MtOrd.ord_nil ?_) | (refine MtOrd.ord_head rfl rfl ?_; intro K hK; first | ((refine quiet_load_arr 27 (.tmp 14) rfl w6.heap.size 0 rfl (arr 32 (ub x)) _ (fun w' hw' => hrg w' (by first | exact hw' | (subst hw'; assumption))) Tryd.underlying27 rfl infl ?_); refine hK _ ?_; clear hK K) | (go_big_quiet_op; first | (refine hK _ ?_; clear hK K) | (apply Exists.intro; refine ⟨?_, ?_⟩; (fail); refine hK _ ?_; clear hK K))) | (refine MtOrd.ord_free rfl rfl ?_; intro K hK; first | ((refine quiet_load_arr 27 (.tmp 14) rfl w6.heap.size 0 rfl (arr 32 (ub x)) _ (fun w' hw' => hrg w' (by first | exact hw' | (subst hw'; assumption))) Tryd.underlying27 rfl infl ?_); refine hK _ ?_; clear hK K) | (go_big_quiet_op; refine hK _ ?_; clear hK K)) | (refine MtOrd.ord_skip rfl rfl ?_) | (refine MtOrd.ord_loud rfl rfl ?_; intro K hK))
            | (go_at_call 14; refine (HS2.out sa ca w7.drew (HT.out.below hbw7 hz).drew hsa7 (fun a ha => by obtain ⟨g', rfl, _, h⟩ := Haa.out a ha; exact Nat.lt_of_lt_of_le h h57) Hna.out).mono ?_; rintro e w8 ⟨rfl, hb8⟩; have hD8 : Below B0 w7 w8 := hD0.trans (hb8.mono (Nat.le_of_eq hB0.symm)); refine hK _ _ hD8 ?_; clear hK K))
        exact bodyPost_ret (results_tmp (t := 2) rfl _ _ _) rfl ⟨rfl, hbw7.trans (hD8.mono (hB0 ▸ hbw7.size))⟩
end Go.Proofs.YtikkebjhnechdaaDoor
