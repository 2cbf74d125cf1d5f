/- Walk: mootlaw02.KeccakApart. -/
import Derived.Test.YtikkebjhnechdaaDoorKecFixed
import Derived.Test.YtikkebjhnechdaaDoorErrIs
import Derived.Test.YtikkebjhnechdaaDoorMtDuo
import Derived.Test.YtikkebjhnechdaaDoorMtEq
import Derived.Test.YtikkebjhnechdaaDoorMtOrdD
namespace Go.Proofs.YtikkebjhnechdaaDoor
open Go.RowKit Go.Mt

set_option maxRecDepth 100000 in
set_option maxHeartbeats 8000000 in
theorem apart_law (pp1 : Option Addr) (pb1 po1 N1 C1 : Nat) (SP1 : Nat → Option Addr) (CP1 : Nat → Nat) (BS1 : Nat → List (BitVec 8)) (pp2 : Option Addr) (pb2 po2 N2 C2 : Nat) (SP2 : Nat → Option Addr) (CP2 : Nat → Nat) (BS2 : Nat → List (BitVec 8)) (w : World) (hT : Tabs w)
    (hpp1 : 0 < N1 → pp1 = some ⟨pb1, po1, none⟩) (hpb1 : 0 < N1 → pb1 < w.heap.size) (hcell1 : ∀ i, i < N1 → w.cell? ⟨pb1, po1 + i, none⟩ = some (.slice (SP1 i) (BS1 i).length (CP1 i))) (hsrc1 : ∀ i, i < N1 → Src w (SP1 i) (BS1 i)) (hsb1 : ∀ i, i < N1 → ∀ a, SP1 i = some a → 0 < (BS1 i).length → a.block < w.heap.size) (hnil1 : ∀ i, i < N1 → SP1 i = none → CP1 i = 0) (hN1 : N1 ≤ 9223372036854775807) (hlim1 : (catTo BS1 N1).length ≤ 140737488351232)
    (hpp2 : 0 < N2 → pp2 = some ⟨pb2, po2, none⟩) (hpb2 : 0 < N2 → pb2 < w.heap.size) (hcell2 : ∀ i, i < N2 → w.cell? ⟨pb2, po2 + i, none⟩ = some (.slice (SP2 i) (BS2 i).length (CP2 i))) (hsrc2 : ∀ i, i < N2 → Src w (SP2 i) (BS2 i)) (hsb2 : ∀ i, i < N2 → ∀ a, SP2 i = some a → 0 < (BS2 i).length → a.block < w.heap.size) (hnil2 : ∀ i, i < N2 → SP2 i = none → CP2 i = 0) (hN2 : N2 ≤ 9223372036854775807) (hlim2 : (catTo BS2 N2).length ≤ 140737488351232) :
    Calls Tryd.prog 6 #[.slice pp1 N1 C1, .slice pp2 N2 C2] w fun e w' => e = .returned (.bool true) ∧ Below w.heap.size w w' := by
  have infh : ∀ f, (Tryd.prog.info? 27).map (·.size) = some (arr 32 (ub f)).size := fun f => by rw [arr_size]; kernel_rfl
  have infl : ∀ f, (Tryd.prog.info? 27).map (·.size) = some (arr 32 (ub f)).toList.length := fun f => by rw [Array.length_toList]; exact infh f
  have HT := Lib.hid hT
  have hz := hT.2.2.2
  have Hcell1 := Lib.hid hcell1
  have Hsrc1 := Lib.hid hsrc1
  have Hsb1 := Lib.hid hsb1
  have Hnil1 := Lib.hid hnil1
  have Hlim1 := Lib.hid hlim1
  have Hcell2 := Lib.hid hcell2
  have Hsrc2 := Lib.hid hsrc2
  have Hsb2 := Lib.hid hsb2
  have Hnil2 := Lib.hid hnil2
  have Hlim2 := Lib.hid hlim2
  clear hT hcell1 hsrc1 hsb1 hnil1 hlim1 hcell2 hsrc2 hsb2 hnil2 hlim2
  go_enter Tryd.func6, Tryd.ntmps6
  go_wp2_with (first
    | (go_at_call 19; refine (new_any w).mono ?_; rintro e w1 ⟨rfl, hx1, hb1, hs1⟩; have hnw := new_any w1; rw [hs1] at hnw)
    | (go_at_call 19; refine hnw.mono ?_; rintro e w2 ⟨rfl, hy2, hb2, hs2⟩; have hx2 := keep_below hb2 hx1 (Nat.lt_succ_self _); have hbw2 := hb1.trans (hb2.mono (Nat.le_succ _)); clear hnw)
    | (go_at_call 20; refine (hsum_nil w2).mono ?_; rintro e w3 ⟨rfl, hb3⟩; have hx3 := keep_below hb3 hx2 (lt_row hx2); have hy3 := keep_below hb3 hy2 (lt_row hy2); have hbw3 := hbw2.trans (hb3.mono hbw2.size); have hl3 := lt_row hy3)
    | (refine wpList_store_mid rfl 27 (.tmp 8) (.tmp 24) rfl w3.heap.size 0 (arr 32 (ub fun _ => 0)) rfl rfl (there_row (at_z32 _ rfl) (by simp)) (infh _) (bytes_one 32 _) ?_; generalize hwq : (World.setCells _ w3.heap.size 0 (arr 32 (ub fun _ => 0)).toList) = w4; have hPw4 : w4.heap[w3.heap.size]? = some (.cells (arr 32 (ub fun _ => 0)) 27 (0, 0)) := hwq ▸ setCells_all (at_z32 27 rfl) (arr 32 (ub fun _ => 0)) (by simp); have hbw4 : Below w3.heap.size w3 w4 := hwq ▸ (((Below.refl _ _).alloc (Nat.le_refl _) (.cells z32 27)).trans ((below_only (only_setCells (g := w3.heap.size) (arr 32 (ub fun _ => 0)).toList 0 _ (only_refl (w3.alloc (.cells z32 27)) _)) (Nat.le_refl _) (by simp)).mono (Nat.le_refl _))); clear hwq; have hx4 := keep_below hbw4 hx3 (lt_row hx3); have hy4 := keep_below hbw4 hy3 (lt_row hy3); have hbww4 := hbw3.trans (hbw4.mono hbw3.size))
    | (go_at_call 13; refine (fixed_any w4 (HT.out.below hbww4 hz)).mono ?_; rintro e w5 ⟨rfl, hb5⟩; have hx5 := keep_below hb5 hx4 (lt_row hx4); have hy5 := keep_below hb5 hy4 (lt_row hy4); have hbw5 := hbww4.trans (hb5.mono hbww4.size))
    | (go_at_call 22; refine (add_nil none 0 0 w5).mono ?_; rintro e w6 ⟨rfl, hw6⟩; obtain rfl : w5 = w6 := hw6)
    | (go_at_call 21; refine (is_same 1 w5).mono ?_; rintro e w6 ⟨rfl, hw6⟩; obtain rfl : w5 = w6 := hw6.symm))
  case inl =>
    have hl5 := lt_row hy5
    have d0 : Duo 82 5 w w5 w.heap.size (w.heap.size + 1) (w.heap.size + 1 + 1) [] [] [] [] (.slice none 0 0) (.slice none 0 0) (.slice none 0 0) (.slice none 0 0) :=
      ⟨by rw [fd_nil]; exact hx5, by rw [fd_nil]; exact hy5, by rw [fd_nil]; exact World.ownsRow_nil _ _ _ _, World.ownsRow_nil _ _ _ _, by rw [fd_nil]; exact World.ownsRow_nil _ _ _ _, World.ownsRow_nil _ _ _ _, (fun k h => by cases h), (fun k h => by cases h), (fun k h => by cases h), (fun k h => by cases h), (fun k h => by cases h), (fun k h => by cases h), by omega, by omega, by omega, ⟨Nat.le_refl _, Nat.le_succ _⟩, hbw5, by omega⟩
    clear hx1 hb1 hs1 hy2 hb2 hs2 hx2 hbw2 hb3 hx3 hy3 hbw3 hl3 hx4 hy4 hbww4 hb5 hx5 hy5 hbw5 hPw4 hbw4
    go_loopw [10, 11, 54] (fun va vb x wr => ∃ (i : Nat) (vx vy : Value), i ≤ N2 ∧ x = .int .i64 i ∧ Duo 82 5 w wr w.heap.size (w.heap.size + 1) (w.heap.size + 1 + 1) (catM BS1 N1 i) (catM BS1 N1 i) (catM BS2 N2 i) (catM BS2 N2 i) vx va vy vb) (fun _ _ x _ => N2 - (intOf x).toNat)
    case atStart => exact ⟨0, _, _, Nat.zero_le _, rfl, by rw [catM_zero, catM_zero]; exact d0⟩
    case round =>
      obtain ⟨i, vx, vy, hi, rfl, d⟩ := hrel
      obtain ⟨wo, rfl⟩ : ∃ wo : World, wo = wr := ⟨_, rfl⟩
      clear d0 hl5
      have hl1 := Nat.le_trans (catM_le BS1 N1 i) Hlim1.out
      have hl2 := Nat.le_trans (catM_le BS2 N2 i) Hlim2.out
      have hm1 := Nat.le_trans (catM_le BS1 N1 (i + 1)) Hlim1.out
      have hm2 := Nat.le_trans (catM_le BS2 N2 (i + 1)) Hlim2.out
      by_cases hgo : i < N1 ∨ i < N2
      · have hst1 : i < N1 → catM BS1 N1 (i + 1) = catM BS1 N1 i ++ BS1 i := catM_step
        have hst2 : i < N2 → catM BS2 N2 (i + 1) = catM BS2 N2 i ++ BS2 i := catM_step
        have hsy1 : N1 ≤ i → catM BS1 N1 (i + 1) = catM BS1 N1 i := catM_stay
        have hsy2 : N2 ≤ i → catM BS2 N2 (i + 1) = catM BS2 N2 i := catM_stay
        have hs1 : ∀ (_ : i < N1) w', Below w.heap.size w w' → Src w' (SP1 i) (BS1 i) := fun hi w' h => (Hsrc1.out i hi).keepL h (Hsb1.out i hi)
        have hs2 : ∀ (_ : i < N2) w', Below w.heap.size w w' → Src w' (SP2 i) (BS2 i) := fun hi w' h => (Hsrc2.out i hi).keepL h (Hsb2.out i hi)
        have hn1 := Hnil1.out i
        have hn2 := Hnil2.out i
        have hc1 : ∀ (_ : i < N1) w', Below w.heap.size w w' → w'.cell? ⟨pb1, po1 + i, none⟩ = some (.slice (SP1 i) (BS1 i).length (CP1 i)) := fun hi w' h => by rw [h.cell (p := ⟨pb1, po1 + i, none⟩) (hpb1 (by omega))]; exact Hcell1.out i hi
        have hc2 : ∀ (_ : i < N2) w', Below w.heap.size w w' → w'.cell? ⟨pb2, po2 + i, none⟩ = some (.slice (SP2 i) (BS2 i).length (CP2 i)) := fun hi w' h => by rw [h.cell (p := ⟨pb2, po2 + i, none⟩) (hpb2 (by omega))]; exact Hcell2.out i hi
        obtain ⟨us2, hus2⟩ : ∃ us2, us2 = catM BS1 N1 (i + 1) := ⟨_, rfl⟩
        obtain ⟨zs2, hzs2⟩ : ∃ zs2, zs2 = catM BS2 N2 (i + 1) := ⟨_, rfl⟩
        obtain ⟨us, hus⟩ : ∃ us, us = catM BS1 N1 i := ⟨_, rfl⟩
        obtain ⟨zs, hzs⟩ : ∃ zs, zs = catM BS2 N2 i := ⟨_, rfl⟩
        rw [← hus] at d hl1 hst1 hsy1
        rw [← hzs] at d hl2 hst2 hsy2
        rw [← hus2] at hst1 hsy1 hm1
        rw [← hzs2] at hst2 hsy2 hm2
        obtain ⟨sp1, hsp1⟩ : ∃ sp, sp = SP1 i := ⟨_, rfl⟩
        obtain ⟨cp1, hcp1⟩ : ∃ cp, cp = CP1 i := ⟨_, rfl⟩
        obtain ⟨bs1, hbs1⟩ : ∃ bs, bs = BS1 i := ⟨_, rfl⟩
        obtain ⟨sp2, hsp2⟩ : ∃ sp, sp = SP2 i := ⟨_, rfl⟩
        obtain ⟨cp2, hcp2⟩ : ∃ cp, cp = CP2 i := ⟨_, rfl⟩
        obtain ⟨bs2, hbs2⟩ : ∃ bs, bs = BS2 i := ⟨_, rfl⟩
        rw [← hsp1, ← hbs1] at hs1
        rw [← hsp2, ← hbs2] at hs2
        rw [← hsp1, ← hcp1, ← hbs1] at hc1
        rw [← hsp2, ← hcp2, ← hbs2] at hc2
        rw [← hsp1, ← hcp1] at hn1
        rw [← hsp2, ← hcp2] at hn2
        rw [← hbs1] at hst1
        rw [← hbs2] at hst2
        have Hnx := Lib.hid hus2
        have Hny := Lib.hid hzs2
        clear hus2 hzs2 hus hzs hsp1 hsp2 hcp1 hcp2 hbs1 hbs2
        obtain ⟨x, hx⟩ : ∃ x, x = sumB us2 := ⟨_, rfl⟩
        obtain ⟨y, hy⟩ : ∃ y, y = sumB zs2 := ⟨_, rfl⟩
        have HX := Lib.hid (show ∀ base v w3, Tabs w3 → w3.heap[w.heap.size]? = some (.cells (hs (fd us2).1 v) 82 (0, 0)) → w3.ownsRow base 5 1 v (fd us2).2.length (bl (fd us2).2) →
          Calls Tryd.prog 20 #[.pointer (some ⟨w.heap.size, 0, none⟩)] w3 fun e w' => e = .returned (.tuple #[.agg (arr 32 (ub x)), .nilIface]) ∧ Below w3.heap.size w3 w' from fun base v w3 h1 h2 h3 => by
          rw [hx]; exact hsum_any w.heap.size base _ _ v w3 h1 h2 h3 (fd_short _))
        have HY := Lib.hid (show ∀ base v w3, Tabs w3 → w3.heap[(w.heap.size + 1)]? = some (.cells (hs (fd zs2).1 v) 82 (0, 0)) → w3.ownsRow base 5 1 v (fd zs2).2.length (bl (fd zs2).2) →
          Calls Tryd.prog 20 #[.pointer (some ⟨(w.heap.size + 1), 0, none⟩)] w3 fun e w' => e = .returned (.tuple #[.agg (arr 32 (ub y)), .nilIface]) ∧ Below w3.heap.size w3 w' from fun base v w3 h1 h2 h3 => by
          rw [hy]; exact hsum_any (w.heap.size + 1) base _ _ v w3 h1 h2 h3 (fd_short _))
        have KX := Lib.hid (show ∀ sp c w, Tabs w → Src w sp us2 → (∀ a, sp = some a → a.block < w.heap.size) → (sp = none → c = 0) → Calls Tryd.prog 14 #[.slice sp us2.length c] w fun e w' => e = .returned (.agg (arr 32 (ub x))) ∧ Below w.heap.size w w' from fun sp c w h0 h1 h2 h3 => by
          rw [hx]; exact ksum_any sp _ c us2 w h0 rfl h1 h2 h3 (by omega))
        have KY := Lib.hid (show ∀ sp c w, Tabs w → Src w sp zs2 → (∀ a, sp = some a → a.block < w.heap.size) → (sp = none → c = 0) → Calls Tryd.prog 14 #[.slice sp zs2.length c] w fun e w' => e = .returned (.agg (arr 32 (ub y))) ∧ Below w.heap.size w w' from fun sp c w h0 h1 h2 h3 => by
          rw [hy]; exact ksum_any sp _ c zs2 w h0 rfl h1 h2 h3 (by omega))
        have hnx : ∀ w, (binOp .neq 27 (.agg (arr 32 (ub x))) (.agg (arr 32 (ub x)))).run Tryd.prog w = .ok (.bool false) w := fun w => run_neq_ub w 27 5 32 Tryd.underlying27 (by kernel_rfl) (fun w => by kernel_rfl) x
        have hny : ∀ w, (binOp .neq 27 (.agg (arr 32 (ub y))) (.agg (arr 32 (ub y)))).run Tryd.prog w = .ok (.bool false) w := fun w => run_neq_ub w 27 5 32 Tryd.underlying27 (by kernel_rfl) (fun w => by kernel_rfl) y
        clear hx hy
        have hiM : i < N2 := by omega
        by_cases h1 : i < N1
        · obtain rfl := hpp1 (by omega)
          have Hs1 := Lib.hid (hs1 h1)
          have Hc1 := Lib.hid (hc1 h1)
          have hn1 := hn1 h1
          have Hus := Lib.hid (hst1 h1)
          have hlu : us.length + bs1.length ≤ 140737488351232 := by rw [← List.length_append, ← Hus.out]; exact hm1
          have hxs := fd_short us
          have Hc2 := Lib.hid hc2
          have Hst2 := Lib.hid hst2
          have Hsy2 := Lib.hid hsy2
          have Hs2' := Lib.hid hs2
          clear hs1 hc1 hst1 hsy1 hc2 hst2 hsy2 hs2
          have hbe : Below w.heap.size w (wo.alloc (.cells #[] 5)) := d.below.alloc d.lt0 _
          have hsi0 := Hs1.out _ hbe
          have hci1 := Hc1.out _ hbe
          have ho0 : (wo.alloc (.cells #[] 5)).ownsRow wo.heap.size 5 1 (.slice (some ⟨wo.heap.size, 0, none⟩) 0 0) 0 (bl []) := World.ownsRow_lit wo #[] 0 (Nat.le_refl _) (by decide) rfl
          have hbr : Below wo.heap.size wo (wo.alloc (.cells #[] 5)) := (Below.refl _ _).alloc (Nat.le_refl _) _
          have hgs := lt_row d.hx
          have hgt := lt_row d.hy
          go_wp2_with (first
            | (at_builtin; (refine wpList_append_bytes rfl (.tmp 61) (.tmp 65) 22 rfl wo.heap.size 5 Tryd.t5 Tryd.underlying22 (by kernel_rfl) (by kernel_rfl) (by kernel_rfl) (by kernel_rfl) _ [] rfl ho0 sp1 cp1 bs1 rfl hsi0 hn1 (by simp; omega) (by simp) ?_; intro vm w1 hvm hk1 hat1; rw [List.nil_append] at hvm; have hb1 := hbr.trans (hk1.below (by simp) (fun k hk h => by cases h; exact absurd hk (Nat.lt_irrefl _))); have d1 := d.fresh hb1; obtain ⟨sm, cm, rfl, hsm, hnm, hcm, ham⟩ := src_own hvm; have hl1' := hb1.size))
            | (go_at_call 22; refine (add_any w.heap.size (w.heap.size + 1 + 1) (fd us).1 (fd us).2 vx sm bs1.length cm bs1 w1 (HT.out.below d1.below hz) d1.hx d1.ox d1.lt1 d1.size (by omega) rfl hsm hnm (by omega)).mono ?_; rintro e w2 ⟨rfl, vx2, hh2, hoh2, hnew, hk2⟩; rw [fd_append] at hh2 hoh2; have d2 := d1.addX hh2 hoh2 hnew hk2; have hci2' := Hc1.out _ d2.below; have hvm2 := own_keep hvm hk2 (fun k hk h => by rcases h with h | h; (· have := (hvm.lt k hk).1; omega); (· have h1 := (hvm.lt k hk).1; have h2 := (d.ox.lt k h).2; omega)); have hl2' := hk2.size)
            | (at_builtin; (refine wpList_append_bytes rfl (.tmp 71) (.tmp 75) 22 rfl (w.heap.size + 1 + 1) 5 Tryd.t5 Tryd.underlying22 (by kernel_rfl) (by kernel_rfl) (by kernel_rfl) (by kernel_rfl) u10 us rfl d2.oa sp1 cp1 bs1 rfl (Hs1.out _ d2.below) hn1 (by omega) d2.size ?_; intro va3 w3 hva3 hk3 hat3; have d3 := d2.addA hva3 hk3 hat3; have hvm3 := own_keep hvm2 hk3 (fun k hk h => by have h1 := (hvm.lt k hk).1; have h2 := (d.oa.lt k h).2; omega))))
          have hge : ∀ k, (Value.slice sm bs1.length cm).ownBlock = some k → wo.heap.size ≤ k := fun k hk => (hvm.lt k hk).1
          have hmx : ∀ k, vx2.ownBlock = some k → ¬ (Value.slice sm bs1.length cm).ownBlock = some k := fun k h hk => by
            rcases hnew k h with h1 | h1
            · have h2 := hge k hk; have h3 := (d.ox.lt k h1).2; omega
            · have := (hvm.lt k hk).2; omega
          have hma : ∀ k, va3.ownBlock = some k → ¬ (Value.slice sm bs1.length cm).ownBlock = some k := fun k h hk => by
            rcases hat3 with h1 | h1
            · have h2 := hge k hk; have h3 := (d.oa.lt k (h1 ▸ h)).2; omega
            · rw [h1] at h; cases h; have := (hvm2.lt _ hk).2; omega
          have hmy : ∀ k, vy.ownBlock = some k → ¬ (Value.slice sm bs1.length cm).ownBlock = some k := fun k h hk => by have h2 := hge k hk; have h3 := (d.oy.lt k h).2; omega
          have hmb : ∀ k, u11.ownBlock = some k → ¬ (Value.slice sm bs1.length cm).ownBlock = some k := fun k h hk => by have h2 := hge k hk; have h3 := (d.ob.lt k h).2; omega
          have hlo := d.lt0
          rw [← Hus.out] at d3
          clear d1 d2 hvm hvm2 hk1 hat1 hb1 hsm hnm hcm ham hh2 hoh2 hnew hk2 hva3 hk3 hat3 ho0 hbr hbe hsi0 d
          go_loopw [79] (fun x wq => ∃ (j : Nat) (qs : List Value), j ≤ bs1.length ∧ x = .int .i64 j ∧ wq.ownsRow wo.heap.size 5 1 (.slice sm bs1.length cm) bs1.length qs ∧ Keeps (fun k => (Value.slice sm bs1.length cm).ownBlock = some k) w3 wq) (fun x _ => bs1.length - (intOf x).toNat)
          case atStart => exact ⟨0, _, by omega, rfl, hvm3, Keeps.refl _ _⟩
          case round =>
            obtain ⟨j, qs, hj, rfl, hoq, hkq⟩ := hrel
            by_cases hjl : j < bs1.length
            · obtain ⟨gm, cm', hge', hgm1, hgm2⟩ := hoq.form (by omega)
              cases hge'
              have hzl : qs.length = bs1.length := by have := hoq.1; omega
              have hcq := hoq.cellAt j (by omega)
              rw [List.getElem?_eq_getElem (by omega)] at hcq
              have hfq := hoq.frozenAt
              have hst := hoq.stored j (.int .u8 99)
              have Hst := Lib.hid hst.1
              have Hkq := Lib.hid hkq
              clear hst hoq hkq hvm3
              go_wp2_with fail
              refine ⟨⟨j + 1, qs.set j (.int .u8 99), by omega, by go_num, Hst.out, ?_⟩, by simp [intOf]; omega⟩
              exact Hkq.out.setCell (p := ⟨gm, j, none⟩) (.inl rfl) _
            · obtain rfl : j = bs1.length := by omega
              have d4 := d3.keeps hkq (fun h => by have := hge _ h; omega) (fun h => by have := hge _ h; omega) hmx hma hmy hmb (fun k hk h => by have := hge _ h; omega)
              clear hkq hoq hvm3 d3
              by_cases h2 : i < N2
              · obtain rfl := hpp2 (by omega)
                have Hs2 := Lib.hid (Hs2'.out h2)
                have hci2 := Hc2.out h2 _ d4.below
                have hn2 := hn2 h2
                have Hzs := Lib.hid (Hst2.out h2)
                have hlz : zs.length + bs2.length ≤ 140737488351232 := by rw [← List.length_append, ← Hzs.out]; exact hm2
                have hys := fd_short zs
                obtain ⟨wB, rfl⟩ : ∃ wB : World, wB = wr := ⟨_, rfl⟩
                have dB := d4
                clear d4
                have hciB : ∀ w', Below w.heap.size w w' → w'.cell? ⟨pb2, po2 + i, none⟩ = some (.slice sp2 bs2.length cp2) := fun w' h => Hc2.out h2 w' h
                have HciB := Lib.hid hciB
                clear hciB
                go_wp2_with (first
                  | (go_at_call 22; refine (add_any (w.heap.size + 1) (w.heap.size + 1 + 1) (fd zs).1 (fd zs).2 _ sp2 bs2.length cp2 bs2 wB (HT.out.below dB.below hz) dB.hy dB.oy dB.lt2 dB.size (by omega) rfl (Hs2.out _ dB.below) hn2 (by omega)).mono ?_; rintro e wC ⟨rfl, vyC, hhC, hoC, hnewC, hkC⟩; rw [fd_append] at hhC hoC; have dC := (dB.swap.addX hhC hoC hnewC hkC).swap; have hszC := dC.size; have hciC := HciB.out _ dC.below)
                    | (at_builtin; (refine wpList_append_bytes rfl (.tmp 97) (.tmp 101) 22 rfl (w.heap.size + 1 + 1) 5 Tryd.t5 Tryd.underlying22 (by kernel_rfl) (by kernel_rfl) (by kernel_rfl) (by kernel_rfl) _ zs rfl dC.ob sp2 cp2 bs2 rfl (Hs2.out _ dC.below) hn2 (by omega) dC.size ?_; intro vbT wT hvT hkT hatT; have dT := (dC.swap.addA hvT hkT hatT).swap; rw [← Hzs.out] at dT; clear dC hvT hkT hatT hhC hoC hnewC hkC))
                  | (go_at_call 14; refine (KY.out sb cb w10 (HT.out.below d10.below hz) (hsb.keep hb10' (fun a ha => by obtain ⟨g', rfl, _, h⟩ := hab a ha; exact h)) (fun a ha => by obtain ⟨g', rfl, _, h⟩ := hab a ha; exact Nat.lt_of_lt_of_le h hb10'.size) hnb).mono ?_; rintro e w11 ⟨rfl, hb11⟩; have hD11 : Below B0 w9 w11 := hD10.trans (hb11.mono (hB0 ▸ hb10'.size)); have d11 := d10.fresh hb11; refine hK _ _ hD11 ?_; clear hK K)
                    | (go_at_call 20; refine (HY.out (w.heap.size + 1 + 1) _ w7 (HT.out.below d7.below hz) d7.hy d7.oy).mono ?_; rintro e w8 ⟨rfl, hb8⟩; have d8 := d7.fresh hb8; have hP8 := keep_below hb8 hPw7 (lt_row hPw7))
                    | (go_at_call 20; refine (HX.out (w.heap.size + 1 + 1) _ wT (HT.out.below dT.below hz) dT.hx dT.ox).mono ?_; rintro e w6 ⟨rfl, hb6⟩; have d6 := dT.fresh hb6)
                    | (refine wpList_store_mid rfl 27 (.tmp 15) (.tmp 106) rfl w6.heap.size 0 (arr 32 (ub x)) rfl rfl (there_row (at_z32 _ rfl) (by simp)) (infh _) (bytes_one 32 _) ?_; generalize hwq : (World.setCells _ w6.heap.size 0 (arr 32 (ub x)).toList) = w7; have hPw7 : w7.heap[w6.heap.size]? = some (.cells (arr 32 (ub x)) 27 (0, 0)) := hwq ▸ setCells_all (at_z32 27 rfl) (arr 32 (ub x)) (by simp); have hbw7 : Below w6.heap.size w6 w7 := hwq ▸ (((Below.refl _ _).alloc (Nat.le_refl _) (.cells z32 27)).trans ((below_only (only_setCells (g := w6.heap.size) (arr 32 (ub x)).toList 0 _ (only_refl (w6.alloc (.cells z32 27)) _)) (Nat.le_refl _) (by simp)).mono (Nat.le_refl _))); clear hwq; have d7 := d6.fresh hbw7)
                    | (refine wpList_store_mid rfl 27 (.tmp 17) (.tmp 111) rfl w8.heap.size 0 (arr 32 (ub y)) rfl rfl (there_row (at_z32 _ rfl) (by simp)) (infh _) (bytes_one 32 _) ?_; generalize hwq : (World.setCells _ w8.heap.size 0 (arr 32 (ub y)).toList) = w9; have hPw9 : w9.heap[w8.heap.size]? = some (.cells (arr 32 (ub y)) 27 (0, 0)) := hwq ▸ setCells_all (at_z32 27 rfl) (arr 32 (ub y)) (by simp); have hbw9 : Below w8.heap.size w8 w9 := hwq ▸ (((Below.refl _ _).alloc (Nat.le_refl _) (.cells z32 27)).trans ((below_only (only_setCells (g := w8.heap.size) (arr 32 (ub y)).toList 0 _ (only_refl (w8.alloc (.cells z32 27)) _)) (Nat.le_refl _) (by simp)).mono (Nat.le_refl _))); clear hwq; have d9 := d8.fresh hbw9; have hP9 := keep_below hbw9 hP8 (lt_row hP8); obtain ⟨sa, ca, hae, hsa, hna, hca, haa⟩ := src_own d9.oa; obtain ⟨sb, cb, hbe, hsb, hnb, hcb, hab⟩ := src_own d9.ob; obtain ⟨B0, hB0⟩ : ∃ B0, w9.heap.size = B0 := ⟨_, rfl⟩; have hD0 : Below B0 w9 w9.drew := (Below.refl _ _).drew; have hrx : ∀ w', Below B0 w9 w' → w'.rangeAt w6.heap.size 0 (arr 32 (ub x)).toList := (fun w' hw' => range_of_row (keep_below hw' hP9 (hB0 ▸ lt_row hP9))); have hry : ∀ w', Below B0 w9 w' → w'.rangeAt w8.heap.size 0 (arr 32 (ub y)).toList := (fun w' hw' => range_of_row (keep_below hw' hPw9 (hB0 ▸ lt_row hPw9))); have h9s := hB0.symm ▸ Nat.le_refl w9.heap.size)
                    | (refine MtOrd.wp_region_ord_in (id := 26) (fun w' => Below B0 w9 w') [(0, .head), (1, .head), (2, .head), (3, .head), (4, .head), (5, .loud), (6, .head), (8, .head), (7, .free), (9, .loud), (10, .head), (11, .loud), (12, .head), (14, .head), (13, .free), (15, .loud), (16, .head), (17, .loud)] (by kernel_rfl) (by kernel_rfl) (by intro c a d v w h; cases d <;> exact h) hD0 ?_)
                    | (refine ord_pick (i := 5) rfl rfl (.tmp 115) (.const (.bool true)) (.tmp 117) false rfl rfl hD0 ?_)
                    | (refine ord_pick (i := 11) rfl rfl (.tmp 119) (.const (.bool true)) (.tmp 123) false rfl rfl hD10 ?_)
                    | (refine ord_pick (i := 17) rfl rfl (.tmp 125) (.const (.bool true)) (.tmp 129) false rfl rfl hD11 ?_)
                    | (guard_target = MtOrd.Ord _ _ _ _ _ _ _; first | (refine MtOrd.ord_nil ?_) | (refine MtOrd.ord_head rfl rfl ?_; intro K hK; first | ((first | (refine quiet_load_arr 27 (.tmp 15) rfl w6.heap.size 0 rfl (arr 32 (ub x)) _ (fun w' hw' => hrx w' (by first | exact hw' | (subst hw'; assumption))) Tryd.underlying27 rfl (infl _) ?_) | (refine quiet_load_arr 27 (.tmp 17) rfl w8.heap.size 0 rfl (arr 32 (ub y)) _ (fun w' hw' => hry w' (by first | exact hw' | (subst hw'; assumption))) Tryd.underlying27 rfl (infl _) ?_)); refine hK _ ?_; clear hK K) | (go_big_quiet_op; first | (refine hK _ ?_; clear hK K) | (apply Exists.intro; refine ⟨?_, ?_⟩; (fail); refine hK _ ?_; clear hK K))) | (refine MtOrd.ord_free rfl rfl ?_; intro K hK; first | ((first | (refine quiet_load_arr 27 (.tmp 15) rfl w6.heap.size 0 rfl (arr 32 (ub x)) _ (fun w' hw' => hrx w' (by first | exact hw' | (subst hw'; assumption))) Tryd.underlying27 rfl (infl _) ?_) | (refine quiet_load_arr 27 (.tmp 17) rfl w8.heap.size 0 rfl (arr 32 (ub y)) _ (fun w' hw' => hry w' (by first | exact hw' | (subst hw'; assumption))) Tryd.underlying27 rfl (infl _) ?_)); refine hK _ ?_; clear hK K) | (go_big_quiet_op; refine hK _ ?_; clear hK K)) | (refine MtOrd.ord_skip rfl rfl ?_) | (refine MtOrd.ord_loud rfl rfl ?_; intro K hK))
                    | (go_at_call 14; subst hae; subst hbe; refine (KX.out sa ca w9.drew (HT.out.below d9.below hz).drew hsa (fun a ha => by obtain ⟨g', rfl, _, h⟩ := haa a ha; exact h) hna).mono ?_; rintro e w10 ⟨rfl, hb10⟩; have hD10 : Below B0 w9 w10 := hD0.trans (hb10.mono (Nat.le_of_eq hB0.symm)); have d10 := d9.fresh (hB0 ▸ hD10); have hb10' : Below w9.heap.size w9 w10 := hB0 ▸ hD10; refine hK _ _ hD10 ?_; clear hK K))
                refine ⟨⟨i + 1, _, _, by omega, by go_num, by rw [← Hnx.out, ← Hny.out]; exact d11⟩, by simp [intOf]; omega⟩
              · omega
        · have h2 : i < N2 := by omega
          obtain rfl := hpp2 (by omega)
          have Hus := Lib.hid (hsy1 (by omega))
          have Hs2 := Lib.hid (hs2 h2)
          have HciB := Lib.hid (hc2 h2)
          have hci2 := hc2 h2 _ d.below
          have hn2 := hn2 h2
          have Hzs := Lib.hid (hst2 h2)
          have hlz : zs.length + bs2.length ≤ 140737488351232 := by rw [← List.length_append, ← Hzs.out]; exact hm2
          have hys := fd_short zs
          have hgs := lt_row d.hx
          have hgt := lt_row d.hy
          have hlo := d.lt0
          have hnl1 : N1 ≤ i := by omega
          obtain ⟨wB, rfl⟩ : ∃ wB : World, wB = wo := ⟨_, rfl⟩
          have dB := d
          rw [← Hus.out] at dB
          clear d hs1 hc1 hst1 hsy1 hc2 hst2 hsy2 hs2 hgo
          go_wp2_with (first
            | (go_at_call 22; refine (add_any (w.heap.size + 1) (w.heap.size + 1 + 1) (fd zs).1 (fd zs).2 _ sp2 bs2.length cp2 bs2 wB (HT.out.below dB.below hz) dB.hy dB.oy dB.lt2 dB.size (by omega) rfl (Hs2.out _ dB.below) hn2 (by omega)).mono ?_; rintro e wC ⟨rfl, vyC, hhC, hoC, hnewC, hkC⟩; rw [fd_append] at hhC hoC; have dC := (dB.swap.addX hhC hoC hnewC hkC).swap; have hszC := dC.size; have hciC := HciB.out _ dC.below)
                    | (at_builtin; (refine wpList_append_bytes rfl (.tmp 97) (.tmp 101) 22 rfl (w.heap.size + 1 + 1) 5 Tryd.t5 Tryd.underlying22 (by kernel_rfl) (by kernel_rfl) (by kernel_rfl) (by kernel_rfl) _ zs rfl dC.ob sp2 cp2 bs2 rfl (Hs2.out _ dC.below) hn2 (by omega) dC.size ?_; intro vbT wT hvT hkT hatT; have dT := (dC.swap.addA hvT hkT hatT).swap; rw [← Hzs.out] at dT; clear dC hvT hkT hatT hhC hoC hnewC hkC))
            | (go_at_call 14; refine (KY.out sb cb w10 (HT.out.below d10.below hz) (hsb.keep hb10' (fun a ha => by obtain ⟨g', rfl, _, h⟩ := hab a ha; exact h)) (fun a ha => by obtain ⟨g', rfl, _, h⟩ := hab a ha; exact Nat.lt_of_lt_of_le h hb10'.size) hnb).mono ?_; rintro e w11 ⟨rfl, hb11⟩; have hD11 : Below B0 w9 w11 := hD10.trans (hb11.mono (hB0 ▸ hb10'.size)); have d11 := d10.fresh hb11; refine hK _ _ hD11 ?_; clear hK K)
                    | (go_at_call 20; refine (HY.out (w.heap.size + 1 + 1) _ w7 (HT.out.below d7.below hz) d7.hy d7.oy).mono ?_; rintro e w8 ⟨rfl, hb8⟩; have d8 := d7.fresh hb8; have hP8 := keep_below hb8 hPw7 (lt_row hPw7))
                    | (go_at_call 20; refine (HX.out (w.heap.size + 1 + 1) _ wT (HT.out.below dT.below hz) dT.hx dT.ox).mono ?_; rintro e w6 ⟨rfl, hb6⟩; have d6 := dT.fresh hb6)
                    | (refine wpList_store_mid rfl 27 (.tmp 15) (.tmp 106) rfl w6.heap.size 0 (arr 32 (ub x)) rfl rfl (there_row (at_z32 _ rfl) (by simp)) (infh _) (bytes_one 32 _) ?_; generalize hwq : (World.setCells _ w6.heap.size 0 (arr 32 (ub x)).toList) = w7; have hPw7 : w7.heap[w6.heap.size]? = some (.cells (arr 32 (ub x)) 27 (0, 0)) := hwq ▸ setCells_all (at_z32 27 rfl) (arr 32 (ub x)) (by simp); have hbw7 : Below w6.heap.size w6 w7 := hwq ▸ (((Below.refl _ _).alloc (Nat.le_refl _) (.cells z32 27)).trans ((below_only (only_setCells (g := w6.heap.size) (arr 32 (ub x)).toList 0 _ (only_refl (w6.alloc (.cells z32 27)) _)) (Nat.le_refl _) (by simp)).mono (Nat.le_refl _))); clear hwq; have d7 := d6.fresh hbw7)
                    | (refine wpList_store_mid rfl 27 (.tmp 17) (.tmp 111) rfl w8.heap.size 0 (arr 32 (ub y)) rfl rfl (there_row (at_z32 _ rfl) (by simp)) (infh _) (bytes_one 32 _) ?_; generalize hwq : (World.setCells _ w8.heap.size 0 (arr 32 (ub y)).toList) = w9; have hPw9 : w9.heap[w8.heap.size]? = some (.cells (arr 32 (ub y)) 27 (0, 0)) := hwq ▸ setCells_all (at_z32 27 rfl) (arr 32 (ub y)) (by simp); have hbw9 : Below w8.heap.size w8 w9 := hwq ▸ (((Below.refl _ _).alloc (Nat.le_refl _) (.cells z32 27)).trans ((below_only (only_setCells (g := w8.heap.size) (arr 32 (ub y)).toList 0 _ (only_refl (w8.alloc (.cells z32 27)) _)) (Nat.le_refl _) (by simp)).mono (Nat.le_refl _))); clear hwq; have d9 := d8.fresh hbw9; have hP9 := keep_below hbw9 hP8 (lt_row hP8); obtain ⟨sa, ca, hae, hsa, hna, hca, haa⟩ := src_own d9.oa; obtain ⟨sb, cb, hbe, hsb, hnb, hcb, hab⟩ := src_own d9.ob; obtain ⟨B0, hB0⟩ : ∃ B0, w9.heap.size = B0 := ⟨_, rfl⟩; have hD0 : Below B0 w9 w9.drew := (Below.refl _ _).drew; have hrx : ∀ w', Below B0 w9 w' → w'.rangeAt w6.heap.size 0 (arr 32 (ub x)).toList := (fun w' hw' => range_of_row (keep_below hw' hP9 (hB0 ▸ lt_row hP9))); have hry : ∀ w', Below B0 w9 w' → w'.rangeAt w8.heap.size 0 (arr 32 (ub y)).toList := (fun w' hw' => range_of_row (keep_below hw' hPw9 (hB0 ▸ lt_row hPw9))); have h9s := hB0.symm ▸ Nat.le_refl w9.heap.size)
                    | (refine MtOrd.wp_region_ord_in (id := 26) (fun w' => Below B0 w9 w') [(0, .head), (1, .head), (2, .head), (3, .head), (4, .head), (5, .loud), (6, .head), (8, .head), (7, .free), (9, .loud), (10, .head), (11, .loud), (12, .head), (14, .head), (13, .free), (15, .loud), (16, .head), (17, .loud)] (by kernel_rfl) (by kernel_rfl) (by intro c a d v w h; cases d <;> exact h) hD0 ?_)
                    | (refine ord_pick (i := 5) rfl rfl (.tmp 115) (.const (.bool true)) (.tmp 117) false rfl rfl hD0 ?_)
                    | (refine ord_pick (i := 11) rfl rfl (.tmp 119) (.const (.bool true)) (.tmp 123) false rfl rfl hD10 ?_)
                    | (refine ord_pick (i := 17) rfl rfl (.tmp 125) (.const (.bool true)) (.tmp 129) false rfl rfl hD11 ?_)
                    | (guard_target = MtOrd.Ord _ _ _ _ _ _ _; first | (refine MtOrd.ord_nil ?_) | (refine MtOrd.ord_head rfl rfl ?_; intro K hK; first | ((first | (refine quiet_load_arr 27 (.tmp 15) rfl w6.heap.size 0 rfl (arr 32 (ub x)) _ (fun w' hw' => hrx w' (by first | exact hw' | (subst hw'; assumption))) Tryd.underlying27 rfl (infl _) ?_) | (refine quiet_load_arr 27 (.tmp 17) rfl w8.heap.size 0 rfl (arr 32 (ub y)) _ (fun w' hw' => hry w' (by first | exact hw' | (subst hw'; assumption))) Tryd.underlying27 rfl (infl _) ?_)); refine hK _ ?_; clear hK K) | (go_big_quiet_op; first | (refine hK _ ?_; clear hK K) | (apply Exists.intro; refine ⟨?_, ?_⟩; (fail); refine hK _ ?_; clear hK K))) | (refine MtOrd.ord_free rfl rfl ?_; intro K hK; first | ((first | (refine quiet_load_arr 27 (.tmp 15) rfl w6.heap.size 0 rfl (arr 32 (ub x)) _ (fun w' hw' => hrx w' (by first | exact hw' | (subst hw'; assumption))) Tryd.underlying27 rfl (infl _) ?_) | (refine quiet_load_arr 27 (.tmp 17) rfl w8.heap.size 0 rfl (arr 32 (ub y)) _ (fun w' hw' => hry w' (by first | exact hw' | (subst hw'; assumption))) Tryd.underlying27 rfl (infl _) ?_)); refine hK _ ?_; clear hK K) | (go_big_quiet_op; refine hK _ ?_; clear hK K)) | (refine MtOrd.ord_skip rfl rfl ?_) | (refine MtOrd.ord_loud rfl rfl ?_; intro K hK))
                    | (go_at_call 14; subst hae; subst hbe; refine (KX.out sa ca w9.drew (HT.out.below d9.below hz).drew hsa (fun a ha => by obtain ⟨g', rfl, _, h⟩ := haa a ha; exact h) hna).mono ?_; rintro e w10 ⟨rfl, hb10⟩; have hD10 : Below B0 w9 w10 := hD0.trans (hb10.mono (Nat.le_of_eq hB0.symm)); have d10 := d9.fresh (hB0 ▸ hD10); have hb10' : Below w9.heap.size w9 w10 := hB0 ▸ hD10; refine hK _ _ hD10 ?_; clear hK K))
          refine ⟨⟨i + 1, _, _, by omega, by go_num, by rw [← Hnx.out, ← Hny.out]; exact d11⟩, by simp [intOf]; omega⟩
      · have hiM : ¬ i < N2 := by omega
        have hb := d.below
        clear d
        go_wp2_with fail
        exact bodyPost_ret (results_tmp (t := 4) rfl _ _ _) rfl ⟨rfl, hb⟩
  case inr =>
    have hl5 := lt_row hy5
    have d0 : Duo 82 5 w w5 w.heap.size (w.heap.size + 1) (w.heap.size + 1 + 1) [] [] [] [] (.slice none 0 0) (.slice none 0 0) (.slice none 0 0) (.slice none 0 0) :=
      ⟨by rw [fd_nil]; exact hx5, by rw [fd_nil]; exact hy5, by rw [fd_nil]; exact World.ownsRow_nil _ _ _ _, World.ownsRow_nil _ _ _ _, by rw [fd_nil]; exact World.ownsRow_nil _ _ _ _, World.ownsRow_nil _ _ _ _, (fun k h => by cases h), (fun k h => by cases h), (fun k h => by cases h), (fun k h => by cases h), (fun k h => by cases h), (fun k h => by cases h), by omega, by omega, by omega, ⟨Nat.le_refl _, Nat.le_succ _⟩, hbw5, by omega⟩
    clear hx1 hb1 hs1 hy2 hb2 hs2 hx2 hbw2 hb3 hx3 hy3 hbw3 hl3 hx4 hy4 hbww4 hb5 hx5 hy5 hbw5 hPw4 hbw4
    go_loopw [10, 11, 54] (fun va vb x wr => ∃ (i : Nat) (vx vy : Value), i ≤ N1 ∧ x = .int .i64 i ∧ Duo 82 5 w wr w.heap.size (w.heap.size + 1) (w.heap.size + 1 + 1) (catM BS1 N1 i) (catM BS1 N1 i) (catM BS2 N2 i) (catM BS2 N2 i) vx va vy vb) (fun _ _ x _ => N1 - (intOf x).toNat)
    case atStart => exact ⟨0, _, _, Nat.zero_le _, rfl, by rw [catM_zero, catM_zero]; exact d0⟩
    case round =>
      obtain ⟨i, vx, vy, hi, rfl, d⟩ := hrel
      obtain ⟨wo, rfl⟩ : ∃ wo : World, wo = wr := ⟨_, rfl⟩
      clear d0 hl5
      have hl1 := Nat.le_trans (catM_le BS1 N1 i) Hlim1.out
      have hl2 := Nat.le_trans (catM_le BS2 N2 i) Hlim2.out
      have hm1 := Nat.le_trans (catM_le BS1 N1 (i + 1)) Hlim1.out
      have hm2 := Nat.le_trans (catM_le BS2 N2 (i + 1)) Hlim2.out
      by_cases hgo : i < N1 ∨ i < N2
      · have hst1 : i < N1 → catM BS1 N1 (i + 1) = catM BS1 N1 i ++ BS1 i := catM_step
        have hst2 : i < N2 → catM BS2 N2 (i + 1) = catM BS2 N2 i ++ BS2 i := catM_step
        have hsy1 : N1 ≤ i → catM BS1 N1 (i + 1) = catM BS1 N1 i := catM_stay
        have hsy2 : N2 ≤ i → catM BS2 N2 (i + 1) = catM BS2 N2 i := catM_stay
        have hs1 : ∀ (_ : i < N1) w', Below w.heap.size w w' → Src w' (SP1 i) (BS1 i) := fun hi w' h => (Hsrc1.out i hi).keepL h (Hsb1.out i hi)
        have hs2 : ∀ (_ : i < N2) w', Below w.heap.size w w' → Src w' (SP2 i) (BS2 i) := fun hi w' h => (Hsrc2.out i hi).keepL h (Hsb2.out i hi)
        have hn1 := Hnil1.out i
        have hn2 := Hnil2.out i
        have hc1 : ∀ (_ : i < N1) w', Below w.heap.size w w' → w'.cell? ⟨pb1, po1 + i, none⟩ = some (.slice (SP1 i) (BS1 i).length (CP1 i)) := fun hi w' h => by rw [h.cell (p := ⟨pb1, po1 + i, none⟩) (hpb1 (by omega))]; exact Hcell1.out i hi
        have hc2 : ∀ (_ : i < N2) w', Below w.heap.size w w' → w'.cell? ⟨pb2, po2 + i, none⟩ = some (.slice (SP2 i) (BS2 i).length (CP2 i)) := fun hi w' h => by rw [h.cell (p := ⟨pb2, po2 + i, none⟩) (hpb2 (by omega))]; exact Hcell2.out i hi
        obtain ⟨us2, hus2⟩ : ∃ us2, us2 = catM BS1 N1 (i + 1) := ⟨_, rfl⟩
        obtain ⟨zs2, hzs2⟩ : ∃ zs2, zs2 = catM BS2 N2 (i + 1) := ⟨_, rfl⟩
        obtain ⟨us, hus⟩ : ∃ us, us = catM BS1 N1 i := ⟨_, rfl⟩
        obtain ⟨zs, hzs⟩ : ∃ zs, zs = catM BS2 N2 i := ⟨_, rfl⟩
        rw [← hus] at d hl1 hst1 hsy1
        rw [← hzs] at d hl2 hst2 hsy2
        rw [← hus2] at hst1 hsy1 hm1
        rw [← hzs2] at hst2 hsy2 hm2
        obtain ⟨sp1, hsp1⟩ : ∃ sp, sp = SP1 i := ⟨_, rfl⟩
        obtain ⟨cp1, hcp1⟩ : ∃ cp, cp = CP1 i := ⟨_, rfl⟩
        obtain ⟨bs1, hbs1⟩ : ∃ bs, bs = BS1 i := ⟨_, rfl⟩
        obtain ⟨sp2, hsp2⟩ : ∃ sp, sp = SP2 i := ⟨_, rfl⟩
        obtain ⟨cp2, hcp2⟩ : ∃ cp, cp = CP2 i := ⟨_, rfl⟩
        obtain ⟨bs2, hbs2⟩ : ∃ bs, bs = BS2 i := ⟨_, rfl⟩
        rw [← hsp1, ← hbs1] at hs1
        rw [← hsp2, ← hbs2] at hs2
        rw [← hsp1, ← hcp1, ← hbs1] at hc1
        rw [← hsp2, ← hcp2, ← hbs2] at hc2
        rw [← hsp1, ← hcp1] at hn1
        rw [← hsp2, ← hcp2] at hn2
        rw [← hbs1] at hst1
        rw [← hbs2] at hst2
        have Hnx := Lib.hid hus2
        have Hny := Lib.hid hzs2
        clear hus2 hzs2 hus hzs hsp1 hsp2 hcp1 hcp2 hbs1 hbs2
        obtain ⟨x, hx⟩ : ∃ x, x = sumB us2 := ⟨_, rfl⟩
        obtain ⟨y, hy⟩ : ∃ y, y = sumB zs2 := ⟨_, rfl⟩
        have HX := Lib.hid (show ∀ base v w3, Tabs w3 → w3.heap[w.heap.size]? = some (.cells (hs (fd us2).1 v) 82 (0, 0)) → w3.ownsRow base 5 1 v (fd us2).2.length (bl (fd us2).2) →
          Calls Tryd.prog 20 #[.pointer (some ⟨w.heap.size, 0, none⟩)] w3 fun e w' => e = .returned (.tuple #[.agg (arr 32 (ub x)), .nilIface]) ∧ Below w3.heap.size w3 w' from fun base v w3 h1 h2 h3 => by
          rw [hx]; exact hsum_any w.heap.size base _ _ v w3 h1 h2 h3 (fd_short _))
        have HY := Lib.hid (show ∀ base v w3, Tabs w3 → w3.heap[(w.heap.size + 1)]? = some (.cells (hs (fd zs2).1 v) 82 (0, 0)) → w3.ownsRow base 5 1 v (fd zs2).2.length (bl (fd zs2).2) →
          Calls Tryd.prog 20 #[.pointer (some ⟨(w.heap.size + 1), 0, none⟩)] w3 fun e w' => e = .returned (.tuple #[.agg (arr 32 (ub y)), .nilIface]) ∧ Below w3.heap.size w3 w' from fun base v w3 h1 h2 h3 => by
          rw [hy]; exact hsum_any (w.heap.size + 1) base _ _ v w3 h1 h2 h3 (fd_short _))
        have KX := Lib.hid (show ∀ sp c w, Tabs w → Src w sp us2 → (∀ a, sp = some a → a.block < w.heap.size) → (sp = none → c = 0) → Calls Tryd.prog 14 #[.slice sp us2.length c] w fun e w' => e = .returned (.agg (arr 32 (ub x))) ∧ Below w.heap.size w w' from fun sp c w h0 h1 h2 h3 => by
          rw [hx]; exact ksum_any sp _ c us2 w h0 rfl h1 h2 h3 (by omega))
        have KY := Lib.hid (show ∀ sp c w, Tabs w → Src w sp zs2 → (∀ a, sp = some a → a.block < w.heap.size) → (sp = none → c = 0) → Calls Tryd.prog 14 #[.slice sp zs2.length c] w fun e w' => e = .returned (.agg (arr 32 (ub y))) ∧ Below w.heap.size w w' from fun sp c w h0 h1 h2 h3 => by
          rw [hy]; exact ksum_any sp _ c zs2 w h0 rfl h1 h2 h3 (by omega))
        have hnx : ∀ w, (binOp .neq 27 (.agg (arr 32 (ub x))) (.agg (arr 32 (ub x)))).run Tryd.prog w = .ok (.bool false) w := fun w => run_neq_ub w 27 5 32 Tryd.underlying27 (by kernel_rfl) (fun w => by kernel_rfl) x
        have hny : ∀ w, (binOp .neq 27 (.agg (arr 32 (ub y))) (.agg (arr 32 (ub y)))).run Tryd.prog w = .ok (.bool false) w := fun w => run_neq_ub w 27 5 32 Tryd.underlying27 (by kernel_rfl) (fun w => by kernel_rfl) y
        clear hx hy
        have hiM : i < N1 := by omega
        by_cases h1 : i < N1
        · obtain rfl := hpp1 (by omega)
          have Hs1 := Lib.hid (hs1 h1)
          have Hc1 := Lib.hid (hc1 h1)
          have hn1 := hn1 h1
          have Hus := Lib.hid (hst1 h1)
          have hlu : us.length + bs1.length ≤ 140737488351232 := by rw [← List.length_append, ← Hus.out]; exact hm1
          have hxs := fd_short us
          have Hc2 := Lib.hid hc2
          have Hst2 := Lib.hid hst2
          have Hsy2 := Lib.hid hsy2
          have Hs2' := Lib.hid hs2
          clear hs1 hc1 hst1 hsy1 hc2 hst2 hsy2 hs2
          have hbe : Below w.heap.size w (wo.alloc (.cells #[] 5)) := d.below.alloc d.lt0 _
          have hsi0 := Hs1.out _ hbe
          have hci1 := Hc1.out _ hbe
          have ho0 : (wo.alloc (.cells #[] 5)).ownsRow wo.heap.size 5 1 (.slice (some ⟨wo.heap.size, 0, none⟩) 0 0) 0 (bl []) := World.ownsRow_lit wo #[] 0 (Nat.le_refl _) (by decide) rfl
          have hbr : Below wo.heap.size wo (wo.alloc (.cells #[] 5)) := (Below.refl _ _).alloc (Nat.le_refl _) _
          have hgs := lt_row d.hx
          have hgt := lt_row d.hy
          go_wp2_with (first
            | (at_builtin; (refine wpList_append_bytes rfl (.tmp 61) (.tmp 65) 22 rfl wo.heap.size 5 Tryd.t5 Tryd.underlying22 (by kernel_rfl) (by kernel_rfl) (by kernel_rfl) (by kernel_rfl) _ [] rfl ho0 sp1 cp1 bs1 rfl hsi0 hn1 (by simp; omega) (by simp) ?_; intro vm w1 hvm hk1 hat1; rw [List.nil_append] at hvm; have hb1 := hbr.trans (hk1.below (by simp) (fun k hk h => by cases h; exact absurd hk (Nat.lt_irrefl _))); have d1 := d.fresh hb1; obtain ⟨sm, cm, rfl, hsm, hnm, hcm, ham⟩ := src_own hvm; have hl1' := hb1.size))
            | (go_at_call 22; refine (add_any w.heap.size (w.heap.size + 1 + 1) (fd us).1 (fd us).2 vx sm bs1.length cm bs1 w1 (HT.out.below d1.below hz) d1.hx d1.ox d1.lt1 d1.size (by omega) rfl hsm hnm (by omega)).mono ?_; rintro e w2 ⟨rfl, vx2, hh2, hoh2, hnew, hk2⟩; rw [fd_append] at hh2 hoh2; have d2 := d1.addX hh2 hoh2 hnew hk2; have hci2' := Hc1.out _ d2.below; have hvm2 := own_keep hvm hk2 (fun k hk h => by rcases h with h | h; (· have := (hvm.lt k hk).1; omega); (· have h1 := (hvm.lt k hk).1; have h2 := (d.ox.lt k h).2; omega)); have hl2' := hk2.size)
            | (at_builtin; (refine wpList_append_bytes rfl (.tmp 71) (.tmp 75) 22 rfl (w.heap.size + 1 + 1) 5 Tryd.t5 Tryd.underlying22 (by kernel_rfl) (by kernel_rfl) (by kernel_rfl) (by kernel_rfl) u10 us rfl d2.oa sp1 cp1 bs1 rfl (Hs1.out _ d2.below) hn1 (by omega) d2.size ?_; intro va3 w3 hva3 hk3 hat3; have d3 := d2.addA hva3 hk3 hat3; have hvm3 := own_keep hvm2 hk3 (fun k hk h => by have h1 := (hvm.lt k hk).1; have h2 := (d.oa.lt k h).2; omega))))
          have hge : ∀ k, (Value.slice sm bs1.length cm).ownBlock = some k → wo.heap.size ≤ k := fun k hk => (hvm.lt k hk).1
          have hmx : ∀ k, vx2.ownBlock = some k → ¬ (Value.slice sm bs1.length cm).ownBlock = some k := fun k h hk => by
            rcases hnew k h with h1 | h1
            · have h2 := hge k hk; have h3 := (d.ox.lt k h1).2; omega
            · have := (hvm.lt k hk).2; omega
          have hma : ∀ k, va3.ownBlock = some k → ¬ (Value.slice sm bs1.length cm).ownBlock = some k := fun k h hk => by
            rcases hat3 with h1 | h1
            · have h2 := hge k hk; have h3 := (d.oa.lt k (h1 ▸ h)).2; omega
            · rw [h1] at h; cases h; have := (hvm2.lt _ hk).2; omega
          have hmy : ∀ k, vy.ownBlock = some k → ¬ (Value.slice sm bs1.length cm).ownBlock = some k := fun k h hk => by have h2 := hge k hk; have h3 := (d.oy.lt k h).2; omega
          have hmb : ∀ k, u11.ownBlock = some k → ¬ (Value.slice sm bs1.length cm).ownBlock = some k := fun k h hk => by have h2 := hge k hk; have h3 := (d.ob.lt k h).2; omega
          have hlo := d.lt0
          rw [← Hus.out] at d3
          clear d1 d2 hvm hvm2 hk1 hat1 hb1 hsm hnm hcm ham hh2 hoh2 hnew hk2 hva3 hk3 hat3 ho0 hbr hbe hsi0 d
          go_loopw [79] (fun x wq => ∃ (j : Nat) (qs : List Value), j ≤ bs1.length ∧ x = .int .i64 j ∧ wq.ownsRow wo.heap.size 5 1 (.slice sm bs1.length cm) bs1.length qs ∧ Keeps (fun k => (Value.slice sm bs1.length cm).ownBlock = some k) w3 wq) (fun x _ => bs1.length - (intOf x).toNat)
          case atStart => exact ⟨0, _, by omega, rfl, hvm3, Keeps.refl _ _⟩
          case round =>
            obtain ⟨j, qs, hj, rfl, hoq, hkq⟩ := hrel
            by_cases hjl : j < bs1.length
            · obtain ⟨gm, cm', hge', hgm1, hgm2⟩ := hoq.form (by omega)
              cases hge'
              have hzl : qs.length = bs1.length := by have := hoq.1; omega
              have hcq := hoq.cellAt j (by omega)
              rw [List.getElem?_eq_getElem (by omega)] at hcq
              have hfq := hoq.frozenAt
              have hst := hoq.stored j (.int .u8 99)
              have Hst := Lib.hid hst.1
              have Hkq := Lib.hid hkq
              clear hst hoq hkq hvm3
              go_wp2_with fail
              refine ⟨⟨j + 1, qs.set j (.int .u8 99), by omega, by go_num, Hst.out, ?_⟩, by simp [intOf]; omega⟩
              exact Hkq.out.setCell (p := ⟨gm, j, none⟩) (.inl rfl) _
            · obtain rfl : j = bs1.length := by omega
              have d4 := d3.keeps hkq (fun h => by have := hge _ h; omega) (fun h => by have := hge _ h; omega) hmx hma hmy hmb (fun k hk h => by have := hge _ h; omega)
              clear hkq hoq hvm3 d3
              by_cases h2 : i < N2
              · obtain rfl := hpp2 (by omega)
                have Hs2 := Lib.hid (Hs2'.out h2)
                have hci2 := Hc2.out h2 _ d4.below
                have hn2 := hn2 h2
                have Hzs := Lib.hid (Hst2.out h2)
                have hlz : zs.length + bs2.length ≤ 140737488351232 := by rw [← List.length_append, ← Hzs.out]; exact hm2
                have hys := fd_short zs
                obtain ⟨wB, rfl⟩ : ∃ wB : World, wB = wr := ⟨_, rfl⟩
                have dB := d4
                clear d4
                have hciB : ∀ w', Below w.heap.size w w' → w'.cell? ⟨pb2, po2 + i, none⟩ = some (.slice sp2 bs2.length cp2) := fun w' h => Hc2.out h2 w' h
                have HciB := Lib.hid hciB
                clear hciB
                go_wp2_with (first
                  | (go_at_call 22; refine (add_any (w.heap.size + 1) (w.heap.size + 1 + 1) (fd zs).1 (fd zs).2 _ sp2 bs2.length cp2 bs2 wB (HT.out.below dB.below hz) dB.hy dB.oy dB.lt2 dB.size (by omega) rfl (Hs2.out _ dB.below) hn2 (by omega)).mono ?_; rintro e wC ⟨rfl, vyC, hhC, hoC, hnewC, hkC⟩; rw [fd_append] at hhC hoC; have dC := (dB.swap.addX hhC hoC hnewC hkC).swap; have hszC := dC.size; have hciC := HciB.out _ dC.below)
                    | (at_builtin; (refine wpList_append_bytes rfl (.tmp 97) (.tmp 101) 22 rfl (w.heap.size + 1 + 1) 5 Tryd.t5 Tryd.underlying22 (by kernel_rfl) (by kernel_rfl) (by kernel_rfl) (by kernel_rfl) _ zs rfl dC.ob sp2 cp2 bs2 rfl (Hs2.out _ dC.below) hn2 (by omega) dC.size ?_; intro vbT wT hvT hkT hatT; have dT := (dC.swap.addA hvT hkT hatT).swap; rw [← Hzs.out] at dT; clear dC hvT hkT hatT hhC hoC hnewC hkC))
                  | (go_at_call 14; refine (KY.out sb cb w10 (HT.out.below d10.below hz) (hsb.keep hb10' (fun a ha => by obtain ⟨g', rfl, _, h⟩ := hab a ha; exact h)) (fun a ha => by obtain ⟨g', rfl, _, h⟩ := hab a ha; exact Nat.lt_of_lt_of_le h hb10'.size) hnb).mono ?_; rintro e w11 ⟨rfl, hb11⟩; have hD11 : Below B0 w9 w11 := hD10.trans (hb11.mono (hB0 ▸ hb10'.size)); have d11 := d10.fresh hb11; refine hK _ _ hD11 ?_; clear hK K)
                    | (go_at_call 20; refine (HY.out (w.heap.size + 1 + 1) _ w7 (HT.out.below d7.below hz) d7.hy d7.oy).mono ?_; rintro e w8 ⟨rfl, hb8⟩; have d8 := d7.fresh hb8; have hP8 := keep_below hb8 hPw7 (lt_row hPw7))
                    | (go_at_call 20; refine (HX.out (w.heap.size + 1 + 1) _ wT (HT.out.below dT.below hz) dT.hx dT.ox).mono ?_; rintro e w6 ⟨rfl, hb6⟩; have d6 := dT.fresh hb6)
                    | (refine wpList_store_mid rfl 27 (.tmp 15) (.tmp 106) rfl w6.heap.size 0 (arr 32 (ub x)) rfl rfl (there_row (at_z32 _ rfl) (by simp)) (infh _) (bytes_one 32 _) ?_; generalize hwq : (World.setCells _ w6.heap.size 0 (arr 32 (ub x)).toList) = w7; have hPw7 : w7.heap[w6.heap.size]? = some (.cells (arr 32 (ub x)) 27 (0, 0)) := hwq ▸ setCells_all (at_z32 27 rfl) (arr 32 (ub x)) (by simp); have hbw7 : Below w6.heap.size w6 w7 := hwq ▸ (((Below.refl _ _).alloc (Nat.le_refl _) (.cells z32 27)).trans ((below_only (only_setCells (g := w6.heap.size) (arr 32 (ub x)).toList 0 _ (only_refl (w6.alloc (.cells z32 27)) _)) (Nat.le_refl _) (by simp)).mono (Nat.le_refl _))); clear hwq; have d7 := d6.fresh hbw7)
                    | (refine wpList_store_mid rfl 27 (.tmp 17) (.tmp 111) rfl w8.heap.size 0 (arr 32 (ub y)) rfl rfl (there_row (at_z32 _ rfl) (by simp)) (infh _) (bytes_one 32 _) ?_; generalize hwq : (World.setCells _ w8.heap.size 0 (arr 32 (ub y)).toList) = w9; have hPw9 : w9.heap[w8.heap.size]? = some (.cells (arr 32 (ub y)) 27 (0, 0)) := hwq ▸ setCells_all (at_z32 27 rfl) (arr 32 (ub y)) (by simp); have hbw9 : Below w8.heap.size w8 w9 := hwq ▸ (((Below.refl _ _).alloc (Nat.le_refl _) (.cells z32 27)).trans ((below_only (only_setCells (g := w8.heap.size) (arr 32 (ub y)).toList 0 _ (only_refl (w8.alloc (.cells z32 27)) _)) (Nat.le_refl _) (by simp)).mono (Nat.le_refl _))); clear hwq; have d9 := d8.fresh hbw9; have hP9 := keep_below hbw9 hP8 (lt_row hP8); obtain ⟨sa, ca, hae, hsa, hna, hca, haa⟩ := src_own d9.oa; obtain ⟨sb, cb, hbe, hsb, hnb, hcb, hab⟩ := src_own d9.ob; obtain ⟨B0, hB0⟩ : ∃ B0, w9.heap.size = B0 := ⟨_, rfl⟩; have hD0 : Below B0 w9 w9.drew := (Below.refl _ _).drew; have hrx : ∀ w', Below B0 w9 w' → w'.rangeAt w6.heap.size 0 (arr 32 (ub x)).toList := (fun w' hw' => range_of_row (keep_below hw' hP9 (hB0 ▸ lt_row hP9))); have hry : ∀ w', Below B0 w9 w' → w'.rangeAt w8.heap.size 0 (arr 32 (ub y)).toList := (fun w' hw' => range_of_row (keep_below hw' hPw9 (hB0 ▸ lt_row hPw9))); have h9s := hB0.symm ▸ Nat.le_refl w9.heap.size)
                    | (refine MtOrd.wp_region_ord_in (id := 26) (fun w' => Below B0 w9 w') [(0, .head), (1, .head), (2, .head), (3, .head), (4, .head), (5, .loud), (6, .head), (8, .head), (7, .free), (9, .loud), (10, .head), (11, .loud), (12, .head), (14, .head), (13, .free), (15, .loud), (16, .head), (17, .loud)] (by kernel_rfl) (by kernel_rfl) (by intro c a d v w h; cases d <;> exact h) hD0 ?_)
                    | (refine ord_pick (i := 5) rfl rfl (.tmp 115) (.const (.bool true)) (.tmp 117) false rfl rfl hD0 ?_)
                    | (refine ord_pick (i := 11) rfl rfl (.tmp 119) (.const (.bool true)) (.tmp 123) false rfl rfl hD10 ?_)
                    | (refine ord_pick (i := 17) rfl rfl (.tmp 125) (.const (.bool true)) (.tmp 129) false rfl rfl hD11 ?_)
                    | (guard_target = MtOrd.Ord _ _ _ _ _ _ _; first | (refine MtOrd.ord_nil ?_) | (refine MtOrd.ord_head rfl rfl ?_; intro K hK; first | ((first | (refine quiet_load_arr 27 (.tmp 15) rfl w6.heap.size 0 rfl (arr 32 (ub x)) _ (fun w' hw' => hrx w' (by first | exact hw' | (subst hw'; assumption))) Tryd.underlying27 rfl (infl _) ?_) | (refine quiet_load_arr 27 (.tmp 17) rfl w8.heap.size 0 rfl (arr 32 (ub y)) _ (fun w' hw' => hry w' (by first | exact hw' | (subst hw'; assumption))) Tryd.underlying27 rfl (infl _) ?_)); refine hK _ ?_; clear hK K) | (go_big_quiet_op; first | (refine hK _ ?_; clear hK K) | (apply Exists.intro; refine ⟨?_, ?_⟩; (fail); refine hK _ ?_; clear hK K))) | (refine MtOrd.ord_free rfl rfl ?_; intro K hK; first | ((first | (refine quiet_load_arr 27 (.tmp 15) rfl w6.heap.size 0 rfl (arr 32 (ub x)) _ (fun w' hw' => hrx w' (by first | exact hw' | (subst hw'; assumption))) Tryd.underlying27 rfl (infl _) ?_) | (refine quiet_load_arr 27 (.tmp 17) rfl w8.heap.size 0 rfl (arr 32 (ub y)) _ (fun w' hw' => hry w' (by first | exact hw' | (subst hw'; assumption))) Tryd.underlying27 rfl (infl _) ?_)); refine hK _ ?_; clear hK K) | (go_big_quiet_op; refine hK _ ?_; clear hK K)) | (refine MtOrd.ord_skip rfl rfl ?_) | (refine MtOrd.ord_loud rfl rfl ?_; intro K hK))
                    | (go_at_call 14; subst hae; subst hbe; refine (KX.out sa ca w9.drew (HT.out.below d9.below hz).drew hsa (fun a ha => by obtain ⟨g', rfl, _, h⟩ := haa a ha; exact h) hna).mono ?_; rintro e w10 ⟨rfl, hb10⟩; have hD10 : Below B0 w9 w10 := hD0.trans (hb10.mono (Nat.le_of_eq hB0.symm)); have d10 := d9.fresh (hB0 ▸ hD10); have hb10' : Below w9.heap.size w9 w10 := hB0 ▸ hD10; refine hK _ _ hD10 ?_; clear hK K))
                refine ⟨⟨i + 1, _, _, by omega, by go_num, by rw [← Hnx.out, ← Hny.out]; exact d11⟩, by simp [intOf]; omega⟩
              · have Hzs := Lib.hid (Hsy2.out (by omega))
                obtain ⟨wT, rfl⟩ : ∃ wT : World, wT = wr := ⟨_, rfl⟩
                have dT := d4
                rw [← Hzs.out] at dT
                clear d4
                go_wp2_with (first
                  | (go_at_call 14; refine (KY.out sb cb w10 (HT.out.below d10.below hz) (hsb.keep hb10' (fun a ha => by obtain ⟨g', rfl, _, h⟩ := hab a ha; exact h)) (fun a ha => by obtain ⟨g', rfl, _, h⟩ := hab a ha; exact Nat.lt_of_lt_of_le h hb10'.size) hnb).mono ?_; rintro e w11 ⟨rfl, hb11⟩; have hD11 : Below B0 w9 w11 := hD10.trans (hb11.mono (hB0 ▸ hb10'.size)); have d11 := d10.fresh hb11; refine hK _ _ hD11 ?_; clear hK K)
                    | (go_at_call 20; refine (HY.out (w.heap.size + 1 + 1) _ w7 (HT.out.below d7.below hz) d7.hy d7.oy).mono ?_; rintro e w8 ⟨rfl, hb8⟩; have d8 := d7.fresh hb8; have hP8 := keep_below hb8 hPw7 (lt_row hPw7))
                    | (go_at_call 20; refine (HX.out (w.heap.size + 1 + 1) _ wT (HT.out.below dT.below hz) dT.hx dT.ox).mono ?_; rintro e w6 ⟨rfl, hb6⟩; have d6 := dT.fresh hb6)
                    | (refine wpList_store_mid rfl 27 (.tmp 15) (.tmp 106) rfl w6.heap.size 0 (arr 32 (ub x)) rfl rfl (there_row (at_z32 _ rfl) (by simp)) (infh _) (bytes_one 32 _) ?_; generalize hwq : (World.setCells _ w6.heap.size 0 (arr 32 (ub x)).toList) = w7; have hPw7 : w7.heap[w6.heap.size]? = some (.cells (arr 32 (ub x)) 27 (0, 0)) := hwq ▸ setCells_all (at_z32 27 rfl) (arr 32 (ub x)) (by simp); have hbw7 : Below w6.heap.size w6 w7 := hwq ▸ (((Below.refl _ _).alloc (Nat.le_refl _) (.cells z32 27)).trans ((below_only (only_setCells (g := w6.heap.size) (arr 32 (ub x)).toList 0 _ (only_refl (w6.alloc (.cells z32 27)) _)) (Nat.le_refl _) (by simp)).mono (Nat.le_refl _))); clear hwq; have d7 := d6.fresh hbw7)
                    | (refine wpList_store_mid rfl 27 (.tmp 17) (.tmp 111) rfl w8.heap.size 0 (arr 32 (ub y)) rfl rfl (there_row (at_z32 _ rfl) (by simp)) (infh _) (bytes_one 32 _) ?_; generalize hwq : (World.setCells _ w8.heap.size 0 (arr 32 (ub y)).toList) = w9; have hPw9 : w9.heap[w8.heap.size]? = some (.cells (arr 32 (ub y)) 27 (0, 0)) := hwq ▸ setCells_all (at_z32 27 rfl) (arr 32 (ub y)) (by simp); have hbw9 : Below w8.heap.size w8 w9 := hwq ▸ (((Below.refl _ _).alloc (Nat.le_refl _) (.cells z32 27)).trans ((below_only (only_setCells (g := w8.heap.size) (arr 32 (ub y)).toList 0 _ (only_refl (w8.alloc (.cells z32 27)) _)) (Nat.le_refl _) (by simp)).mono (Nat.le_refl _))); clear hwq; have d9 := d8.fresh hbw9; have hP9 := keep_below hbw9 hP8 (lt_row hP8); obtain ⟨sa, ca, hae, hsa, hna, hca, haa⟩ := src_own d9.oa; obtain ⟨sb, cb, hbe, hsb, hnb, hcb, hab⟩ := src_own d9.ob; obtain ⟨B0, hB0⟩ : ∃ B0, w9.heap.size = B0 := ⟨_, rfl⟩; have hD0 : Below B0 w9 w9.drew := (Below.refl _ _).drew; have hrx : ∀ w', Below B0 w9 w' → w'.rangeAt w6.heap.size 0 (arr 32 (ub x)).toList := (fun w' hw' => range_of_row (keep_below hw' hP9 (hB0 ▸ lt_row hP9))); have hry : ∀ w', Below B0 w9 w' → w'.rangeAt w8.heap.size 0 (arr 32 (ub y)).toList := (fun w' hw' => range_of_row (keep_below hw' hPw9 (hB0 ▸ lt_row hPw9))); have h9s := hB0.symm ▸ Nat.le_refl w9.heap.size)
                    | (refine MtOrd.wp_region_ord_in (id := 26) (fun w' => Below B0 w9 w') [(0, .head), (1, .head), (2, .head), (3, .head), (4, .head), (5, .loud), (6, .head), (8, .head), (7, .free), (9, .loud), (10, .head), (11, .loud), (12, .head), (14, .head), (13, .free), (15, .loud), (16, .head), (17, .loud)] (by kernel_rfl) (by kernel_rfl) (by intro c a d v w h; cases d <;> exact h) hD0 ?_)
                    | (refine ord_pick (i := 5) rfl rfl (.tmp 115) (.const (.bool true)) (.tmp 117) false rfl rfl hD0 ?_)
                    | (refine ord_pick (i := 11) rfl rfl (.tmp 119) (.const (.bool true)) (.tmp 123) false rfl rfl hD10 ?_)
                    | (refine ord_pick (i := 17) rfl rfl (.tmp 125) (.const (.bool true)) (.tmp 129) false rfl rfl hD11 ?_)
                    | (guard_target = MtOrd.Ord _ _ _ _ _ _ _; first | (refine MtOrd.ord_nil ?_) | (refine MtOrd.ord_head rfl rfl ?_; intro K hK; first | ((first | (refine quiet_load_arr 27 (.tmp 15) rfl w6.heap.size 0 rfl (arr 32 (ub x)) _ (fun w' hw' => hrx w' (by first | exact hw' | (subst hw'; assumption))) Tryd.underlying27 rfl (infl _) ?_) | (refine quiet_load_arr 27 (.tmp 17) rfl w8.heap.size 0 rfl (arr 32 (ub y)) _ (fun w' hw' => hry w' (by first | exact hw' | (subst hw'; assumption))) Tryd.underlying27 rfl (infl _) ?_)); refine hK _ ?_; clear hK K) | (go_big_quiet_op; first | (refine hK _ ?_; clear hK K) | (apply Exists.intro; refine ⟨?_, ?_⟩; (fail); refine hK _ ?_; clear hK K))) | (refine MtOrd.ord_free rfl rfl ?_; intro K hK; first | ((first | (refine quiet_load_arr 27 (.tmp 15) rfl w6.heap.size 0 rfl (arr 32 (ub x)) _ (fun w' hw' => hrx w' (by first | exact hw' | (subst hw'; assumption))) Tryd.underlying27 rfl (infl _) ?_) | (refine quiet_load_arr 27 (.tmp 17) rfl w8.heap.size 0 rfl (arr 32 (ub y)) _ (fun w' hw' => hry w' (by first | exact hw' | (subst hw'; assumption))) Tryd.underlying27 rfl (infl _) ?_)); refine hK _ ?_; clear hK K) | (go_big_quiet_op; refine hK _ ?_; clear hK K)) | (refine MtOrd.ord_skip rfl rfl ?_) | (refine MtOrd.ord_loud rfl rfl ?_; intro K hK))
                    | (go_at_call 14; subst hae; subst hbe; refine (KX.out sa ca w9.drew (HT.out.below d9.below hz).drew hsa (fun a ha => by obtain ⟨g', rfl, _, h⟩ := haa a ha; exact h) hna).mono ?_; rintro e w10 ⟨rfl, hb10⟩; have hD10 : Below B0 w9 w10 := hD0.trans (hb10.mono (Nat.le_of_eq hB0.symm)); have d10 := d9.fresh (hB0 ▸ hD10); have hb10' : Below w9.heap.size w9 w10 := hB0 ▸ hD10; refine hK _ _ hD10 ?_; clear hK K))
                refine ⟨⟨i + 1, _, _, by omega, by go_num, by rw [← Hnx.out, ← Hny.out]; exact d11⟩, by simp [intOf]; omega⟩
        · omega
      · have hiM : ¬ i < N1 := by omega
        have hb := d.below
        clear d
        go_wp2_with fail
        exact bodyPost_ret (results_tmp (t := 4) rfl _ _ _) rfl ⟨rfl, hb⟩
end Go.Proofs.YtikkebjhnechdaaDoor
