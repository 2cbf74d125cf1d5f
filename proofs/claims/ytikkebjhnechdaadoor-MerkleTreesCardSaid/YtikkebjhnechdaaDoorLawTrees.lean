/- Walk: mootlaw05.MerkleTrees. -/
import Derived.Test.YtikkebjhnechdaaDoorMerBoth
namespace Go.Proofs.YtikkebjhnechdaaDoor
open Go.RowKit Go.Mt

set_option maxRecDepth 100000 in
set_option maxHeartbeats 2000000 in
theorem trees_law (D I Hh : Int) (pp : Option Addr) (pb po N C : Nat) (L : Nat → Dg) (w : World) (hT : Tabs w) (hE : ErrT w) (hpp : 0 < N → pp = some ⟨pb, po, none⟩) (hpb : 0 < N → pb < w.heap.size) (hL : DgsAt w pb po N L) (hLn : ∀ k, norm (L k) = L k) (hNC : N ≤ C) (hN : N ≤ 4398046511103) :
    Calls Tryd.prog 10 #[.int .i64 D, .slice pp N C, .int .i64 I, .int .i64 Hh] w fun e w' => e = .returned (.bool true) ∧ Below w.heap.size w w' := by
  have hz := hT.2.2.2
  obtain ⟨n, hn⟩ : ∃ n, n = min N 300 := ⟨_, rfl⟩
  have hnC : n ≤ C := by omega
  have hnN : n ≤ N := by omega
  have hn3 : n ≤ 300 := by omega
  have hLn' : DgsAt w pb po n L := fun k hk => hL k (by omega)
  have Hh1 := Lib.hid (hashes_any pp pb po n C L w (fun h => hpp (by omega)) (fun h => hpb (by omega)) hLn' (by omega))
  have HL := Lib.hid hLn'
  have HLn := Lib.hid hLn
  have HT := Lib.hid hT
  have HE := Lib.hid hE
  clear hT hE hL hLn hLn'
  go_enter Tryd.func10, Tryd.ntmps10
  go_upto_if 22 with fail
  go_cut [1] (fun s wx => s = .slice pp n C ∧ wx = w)
  case first =>
    by_cases hbig : 300 < N
    · have hi : (300 : Int) = (n : Int) := by omega
      have Hi := Lib.hid hi
      clear hi hn
      go_wp2_with (first
        | (guard_target = wpList _ _ _ (⟨some 24, _, _, _, _, _⟩ :: _) _ _; refine wpList_slice_hi rfl 48 26 (.tmp 23) (.const (.int .i64 300)) rfl pp N C n .i64 300 rfl rfl Hi.out Tryd.underlying48 32 sz32B hnC ?_))
      go_meet
      exact ⟨rfl, rfl⟩
    · have hN2 : N = n := by omega
      have HN2 := Lib.hid hN2
      clear hn hN2
      go_wp2_with fail
      go_meet
      exact ⟨by rw [HN2.out], rfl⟩
  case rest =>
    obtain ⟨rfl, hwc⟩ := hcut; have hwc := hwc.symm; subst hwc
    clear hn
    go_upto_region 4 with (first
      | (go_at_call 23; refine Hh1.out.mono ?_; rintro e w1 ⟨v1, rfl, hv1, hb1⟩; have hpa := pathAt_own hv1; have Hb1 := Lib.hid hb1; have Hpa := Lib.hid hpa; clear Hh1 hb1 hpa hv1))
    obtain ⟨sp, sb, c1, rfl, hsp, hsb, hS0⟩ := Hpa.out
    have hS : DgsAt w1 sb 0 n L := by
      by_cases h0 : 0 < n
      · exact hS0 h0
      · exact fun q hq => by omega
    have hL1 : DgsAt w1 pb po n L := by
      by_cases h0 : 0 < n
      · exact HL.out.below Hb1.out (hpb (by omega))
      · exact fun q hq => by omega
    have hw01 : w.heap.size ≤ w1.heap.size := Hb1.out.size
    have hT1 := HT.out.below Hb1.out hz
    have hEw : ∀ w', Below w1.heap.size w1 w' → ErrT w' := fun w' h => HE.out.below (Hb1.out.trans (h.mono hw01)) HE.out.lt
    have hTw : ∀ w', Below w1.heap.size w1 w' → Tabs w' := fun w' h => HT.out.below (Hb1.out.trans (h.mono hw01)) hz
    obtain ⟨x, ev, k, R1, R2, R3⟩ := both_roots D n sp pp sb 0 c1 pb po C L w1 hT1 (by omega) hsp hsb hS (fun h => hpp (by omega)) (fun h => Nat.lt_of_lt_of_le (hpb (by omega)) hw01) hL1 HLn.out
    obtain ⟨m, F, ev2, k2, hm16, P1, P2, P3⟩ := both_paths D I n sp pp sb 0 c1 pb po C L w1 hT1 (by omega) hsp hsb hS (fun h => hpp (by omega)) (fun h => Nat.lt_of_lt_of_le (hpb (by omega)) hw01) hL1 HLn.out
    have hZe : ∃ (z : Dg) (ev3 : Value), (∀ w', Below w1.heap.size w1 w' → Calls Tryd.prog 26 #[.int .i64 Hh] w' fun e w'' => e = .returned (.tuple #[.agg (arr 32 (ub z)), ev3]) ∧ Below w'.heap.size w' w'') ∧
        ((∃ h : Nat, h ≤ 16 ∧ Hh = (h : Int) ∧ z = zr h ∧ ev3 = .nilIface) ∨ ((Hh < 0 ∨ 16 < Hh) ∧ z = (fun _ => 0) ∧ ev3 = .iface 44 (.int .i64 2))) := by
      by_cases hH : 0 ≤ Hh ∧ Hh ≤ 16
      · obtain ⟨h, rfl⟩ : ∃ h : Nat, Hh = (h : Int) := ⟨Hh.toNat, by omega⟩
        exact ⟨zr h, .nilIface, fun w' h1 => zero_any h (by omega) w' (hTw w' h1), .inl ⟨h, by omega, rfl, rfl, rfl⟩⟩
      · exact ⟨fun _ => 0, _, fun w' h1 => zero_bad Hh w' (by omega), .inr ⟨by omega, rfl, rfl⟩⟩
    obtain ⟨z, ev3, Z1, hZ⟩ := hZe
    have hsm := fun w' (h : Below w1.heap.size w1 w') => same_any n sp pp sb 0 pb po c1 C L w' (by omega) hsp (fun h => hpp (by omega)) (fun h0 => Nat.lt_of_lt_of_le (hsb h0) h.size) (fun h0 => Nat.lt_of_lt_of_le (Nat.lt_of_lt_of_le (hpb (by omega)) hw01) h.size) (fun h0 => hS.below h (hsb h0)) (fun h0 => hL1.below h (Nat.lt_of_lt_of_le (hpb (by omega)) hw01))
    have HR1 := Lib.hid R1
    have HR2 := Lib.hid R2
    have HR3 := Lib.hid R3
    have HP1 := Lib.hid P1
    have HP2 := Lib.hid P2
    have HP3 := Lib.hid P3
    have HZ1 := Lib.hid Z1
    have HZ := Lib.hid hZ
    have Hsm := Lib.hid hsm
    have HEw := Lib.hid hEw
    have HTw := Lib.hid hTw
    clear R1 R2 R3 P1 P2 P3 Z1 hZ hsm hEw hTw hT1 hL1 hS hS0 hsp hsb hpp hpb
    go_upto_region 9 with (first
      | (go_at_call 24; refine (HR1.out w1 (Below.refl _ _)).mono ?_; rintro e w2 ⟨rfl, hb2⟩; clear HR1)
      | (guard_target = wpList _ _ _ (⟨_, Op.store _ (.tmp 10) _, _, _, _, _⟩ :: _) _ _; refine wpList_store_new rfl 27 (.tmp 10) (.tmp 31) rfl w2.heap.size _ (arr 32 (ub x)) 27 rfl rfl rfl (z32_size _) (infH _) (bytes_one 32 _) ?_; have h10 : (w2.alloc (.cells (arr 32 (ub x)) 27)).heap[w2.heap.size]? = some (.cells (arr 32 (ub x)) 27 (0, 0)) := at_alloc _ rfl; have hb3 := hb2.alloc hb2.size (.cells (arr 32 (ub x)) 27); generalize hw3 : w2.alloc (.cells (arr 32 (ub x)) 27) = w3 at h10 hb3 ⊢; generalize hk10 : w2.heap.size = k10 at h10 ⊢; clear hw3 hk10 hb2)
      | (go_at_call 29; refine (HR2.out w3 hb3).mono ?_; rintro e w4 ⟨rfl, hb4⟩; have h10b := keep_below hb4 h10 (lt_row h10); have hb4' := hb3.trans (hb4.mono hb3.size); clear HR2 hb4 hb3 h10)
      | (guard_target = wpList _ _ _ (⟨_, Op.store _ (.tmp 12) _, _, _, _, _⟩ :: _) _ _; refine wpList_store_new rfl 26 (.tmp 12) (.tmp 37) rfl w4.heap.size _ (arr 32 (ub x)) 26 rfl rfl rfl (z32_size _) (infB _) (bytes_one 32 _) ?_; have h12 : (w4.alloc (.cells (arr 32 (ub x)) 26)).heap[w4.heap.size]? = some (.cells (arr 32 (ub x)) 26 (0, 0)) := at_alloc _ rfl; have h10c := keep_alloc h10b (.cells (arr 32 (ub x)) 26 (0, 0)); have hb5 := hb4'.alloc hb4'.size (.cells (arr 32 (ub x)) 26); generalize hw5 : w4.alloc (.cells (arr 32 (ub x)) 26) = w5 at h12 h10c hb5 ⊢; generalize hk12 : w4.heap.size = k12 at h12 ⊢; clear hw5 hk12 hb4' h10b)
      | (go_at_call 27; refine (HP1.out w5 hb5).mono ?_; rintro e w6 ⟨v6, rfl, hp6, hb6⟩; have h10d := keep_below hb6 h10c (lt_row h10c); have h12d := keep_below hb6 h12 (lt_row h12); have hb6' := hb5.trans (hb6.mono hb5.size); clear HP1 hb6 hb5 h10c h12)
      | (go_at_call 30; refine (HP2.out w6 hb6').mono ?_; rintro e w7 ⟨v7, rfl, hp7, hb7⟩; have h10e := keep_below hb7 h10d (lt_row h10d); have h12e := keep_below hb7 h12d (lt_row h12d); have hp6e := hp6.below hb7; have hb7' := hb6'.trans (hb7.mono hb6'.size); clear HP2 hb7 hb6' h10d h12d hp6)
      | (go_at_call 26; refine (HZ1.out w7 hb7').mono ?_; rintro e w8 ⟨rfl, hb8⟩; have h10f := keep_below hb8 h10e (lt_row h10e); have h12f := keep_below hb8 h12e (lt_row h12e); have hp6f := hp6e.below hb8; have hp7f := hp7.below hb8; have hb8' := hb7'.trans (hb8.mono hb7'.size); clear HZ1 hb8 hb7' h10e h12e hp6e hp7)
      | (guard_target = wpList _ _ _ (⟨_, Op.store _ (.tmp 18) _, _, _, _, _⟩ :: _) _ _; refine wpList_store_new rfl 27 (.tmp 18) (.tmp 56) rfl w8.heap.size _ (arr 32 (ub z)) 27 rfl rfl rfl (z32_size _) (infH _) (bytes_one 32 _) ?_; have h18 : (w8.alloc (.cells (arr 32 (ub z)) 27)).heap[w8.heap.size]? = some (.cells (arr 32 (ub z)) 27 (0, 0)) := at_alloc _ rfl; have hb99 : Below w8.heap.size w8 (w8.alloc (.cells (arr 32 (ub z)) 27)) := (Below.refl _ _).alloc (Nat.le_refl _) _; have h10g := keep_below hb99 h10f (lt_row h10f); have h12g := keep_below hb99 h12f (lt_row h12f); have hp6g := hp6f.below hb99; have hp7g := hp7f.below hb99; have hb9 := hb8'.trans (hb99.mono hb8'.size); generalize hw9 : w8.alloc (.cells (arr 32 (ub z)) 27) = w9 at h18 h10g h12g hp6g hp7g hb9 ⊢; generalize hk18 : w8.heap.size = k18 at h18 ⊢; clear hw9 hk18 hb99 hb8' h10f h12f hp6f hp7f))
    obtain ⟨sp6, b6, c6, rfl, q61, q62, q63⟩ := hp6g
    obtain ⟨sp7, b7, c7, rfl, q71, q72, q73⟩ := hp7g
    have Hs67 := Lib.hid (fun w' (h : Below w9.heap.size w9 w') => same_any m sp6 sp7 b6 0 b7 0 c6 c7 F w' (by omega) q61 q71 (fun h0 => Nat.lt_of_lt_of_le (q62 h0) h.size) (fun h0 => Nat.lt_of_lt_of_le (q72 h0) h.size) (fun h0 => (q63 h0).below h (q62 h0)) (fun h0 => (q73 h0).below h (q72 h0)))
    have hs1 : ∀ w, (sizeOf 5).run Tryd.prog w = .ok 1 w := fun w => by kernel_rfl
    have hneq : ∀ w, (binOp .neq 27 (.agg (arr 32 (ub x))) (.agg (arr 32 (ub x)))).run Tryd.prog w = .ok (.bool false) w := fun w => run_neq_ub w 27 5 32 Tryd.underlying27 (by kernel_rfl) hs1 x
    have hat10 : ∀ w', Below w9.heap.size w9 w' → w'.rangeAt k10 0 (arr 32 (ub x)).toList := fun w' h => range_of_row (keep_below h h10g (lt_row h10g))
    have hat12 : ∀ w', Below w9.heap.size w9 w' → w'.rangeAt k12 0 (arr 32 (ub x)).toList := fun w' h => range_of_row (keep_below h h12g (lt_row h12g))
    have hat18 : ∀ w', Below w9.heap.size w9 w' → w'.rangeAt k18 0 (arr 32 (ub z)).toList := fun w' h => range_of_row (keep_below h h18 (lt_row h18))
    have Hat10 := Lib.hid hat10
    have Hat12 := Lib.hid hat12
    have Hat18 := Lib.hid hat18
    clear q61 q62 q63 q71 q72 q73 hs1 hat10 hat12 hat18 h10g h12g h18
    go_upto_if 88 with (first
      | (go_at_call 25; refine (fixedM_any w9 (HTw.out w9 hb9)).mono ?_; rintro e w10 ⟨rfl, hD10⟩; have hb10 := hb9.trans (hD10.mono hb9.size); have g10 := Hat10.out w10 hD10; have g12 := Hat12.out w10 hD10; have hE10 := HEw.out w10 hb10)
      | (guard_target = wpList _ _ _ (⟨some 61, _, _, _, _, _⟩ :: _) _ _; refine wpList_load_g rfl 27 (.tmp 10) rfl k10 0 rfl (arr 32 (ub x)) _ g10 Tryd.underlying27 rfl (infH' _) ?_; clear g10; simp only [Act.put, List.setIfInBounds_toArray, List.set_cons_succ, List.set_cons_zero])
      | (guard_target = wpList _ _ _ (⟨some 62, _, _, _, _, _⟩ :: _) _ _; refine wpList_load_g rfl 26 (.tmp 12) rfl k12 0 rfl (arr 32 (ub x)) _ g12 Tryd.underlying26 rfl (infB' _) ?_; clear g12; simp only [Act.put, List.setIfInBounds_toArray, List.set_cons_succ, List.set_cons_zero])
      | (go_at_call 31; refine (HR3.out w10 hE10).mono ?_; rintro e w11 ⟨rfl, hb11⟩; have hD11 := hD10.trans (hb11.mono hD10.size); clear HR3 hb11 hE10)
      | (go_at_call 32; refine (Hs67.out w11 hD11).mono ?_; rintro e w12 ⟨rfl, hb12⟩; have hD12 := hD11.trans (hb12.mono hD11.size); have hE12 := HEw.out w12 (hb9.trans (hD12.mono hb9.size)); clear Hs67 hb12)
      | (go_at_call 31; refine (HP3.out w12 hE12).mono ?_; rintro e w13 ⟨rfl, hb13⟩; have hD13 := hD12.trans (hb13.mono hD12.size); clear HP3 hb13 hE12)
      | (go_at_call 32; refine (Hsm.out w13 (hb9.trans (hD13.mono hb9.size))).mono ?_; rintro e w14 ⟨rfl, hb14⟩; have hD14 := hD13.trans (hb14.mono hD13.size); clear Hsm hb14))
    go_cut [88] (fun s wx => s = .bool false ∧ wx = w14)
    case first =>
      go_wp2_with fail
      go_meet
      exact ⟨rfl, rfl⟩
    case rest =>
      obtain ⟨rfl, hwc⟩ := hcut; have hwc := hwc.symm; subst hwc
      have Hfin := Lib.hid (Hb1.out.trans ((hb9.trans (hD14.mono hb9.size)).mono hw01))
      have g18 := Hat18.out w14 hD14
      rcases HZ.out with ⟨h, hh, rfl, hzz, rfl⟩ | ⟨hH, hzz, rfl⟩
      · have hs1 : ∀ w, (sizeOf 5).run Tryd.prog w = .ok 1 w := fun w => by kernel_rfl
        have heq : ∀ w, (binOp .eql 27 (.agg (arr 32 (ub z))) (.agg (arr 32 (ub z)))).run Tryd.prog w = .ok (.bool true) w := fun w => run_eql_ub w 27 5 32 Tryd.underlying27 (by kernel_rfl) hs1 z z true (by simp)
        have Hrz := Lib.hid (show ∀ w, Calls Tryd.prog 33 #[.int .i64 h] w fun e w' => e = .returned (.agg (arr 32 (ub z))) ∧ Below w.heap.size w w' from fun w => by rw [hzz]; exact refzero_any h hh w)
        have hD0 : Below w14.heap.size w14 w14.drew := (Below.refl _ _).drew
        have hat : ∀ w', Below w14.heap.size w14 w' → w'.rangeAt k18 0 (arr 32 (ub z)).toList := fun w' h => Hat18.out w' (hD14.trans (h.mono hD14.size))
        have Hat := Lib.hid hat
        have hh0 : (0 : Int) ≤ (h : Int) := by omega
        clear hat hzz hs1 HZ g18
        go_wp2_with (first
          | (guard_target = Code.wp _ (Code.region 13 _ _) _ _ _; refine MtOrd.wp_region_ord_in (id := 13) (fun w' => Below w14.heap.size w14 w') [(0, .head), (1, .head), (2, .head), (4, .head), (3, .free), (5, .loud), (6, .head), (7, .head), (8, .head)] (by kernel_rfl) (by kernel_rfl) (by intro c a d v w h; first | exact h | (cases d <;> exact h)) hD0 ?_)
          | (go_at_call 33; refine (Hrz.out w14.drew).mono ?_; rintro e w15 ⟨rfl, hb15⟩; have hD15 : Below w14.heap.size w14 w15 := hD0.trans hb15; refine hK _ _ hD15 ?_; clear hK K hb15)
          | (guard_target = MtOrd.Ord _ _ _ _ _ _ _; first | (refine MtOrd.ord_nil ?_) | (refine MtOrd.ord_head rfl rfl ?_; intro K hK; first | (refine quiet_load_arr 27 (.tmp 18) rfl k18 0 rfl (arr 32 (ub z)) _ Hat.out Tryd.underlying27 rfl (infH' _) ?_; refine hK _ ?_; clear hK K) | (go_big_quiet_op; first | (refine hK _ ?_; clear hK K) | (apply Exists.intro; refine ⟨?_, ?_⟩; (fail); refine hK _ ?_; clear hK K))) | (refine MtOrd.ord_free rfl rfl ?_; intro K hK; first | (refine quiet_load_arr 27 (.tmp 18) rfl k18 0 rfl (arr 32 (ub z)) _ Hat.out Tryd.underlying27 rfl (infH' _) ?_; refine hK _ ?_; clear hK K) | (go_big_quiet_op; refine hK _ ?_; clear hK K)) | (refine MtOrd.ord_skip rfl rfl ?_) | (refine MtOrd.ord_loud rfl rfl ?_; intro K hK)))
        exact bodyPost_ret (results_tmp (t := 8) rfl _ _ _) rfl ⟨rfl, Hfin.out.trans (hD15.mono Hfin.out.size)⟩
      · have hbz : ∀ w, (Instr.build 27 #[]).run Tryd.prog w = .ok (.agg (arr 32 (ub z))) w := fun w => by rw [hzz]; exact buildH0 w
        have Hbz := Lib.hid hbz
        have hs1 : ∀ w, (sizeOf 5).run Tryd.prog w = .ok 1 w := fun w => by kernel_rfl
        have heq : ∀ w, (binOp .eql 27 (.agg (arr 32 (ub z))) (.agg (arr 32 (ub z)))).run Tryd.prog w = .ok (.bool true) w := fun w => run_eql_ub w 27 5 32 Tryd.underlying27 (by kernel_rfl) hs1 z z true (by simp)
        clear hs1 HZ hzz hbz
        rcases hH with hH | hH
        all_goals
          go_wp2_with (first
            | (go_at_call 21; refine (is_same 2 w14).mono ?_; rintro e w15 ⟨rfl, rfl⟩)
            | (guard_target = wpList _ _ _ (⟨some 99, _, _, _, _, _⟩ :: _) _ _; refine wpList_load_g rfl 27 (.tmp 18) rfl k18 0 rfl (arr 32 (ub z)) _ g18 Tryd.underlying27 rfl (infH' _) ?_; clear g18; simp only [Act.put, List.setIfInBounds_toArray, List.set_cons_succ, List.set_cons_zero])
            | (guard_target = wpList _ _ _ (⟨some 100, _, _, _, _, _⟩ :: _) _ _; refine wpList_build0_g rfl 27 _ rfl (.agg (arr 32 (ub z))) rfl Hbz.out ?_; simp only [Act.put, List.setIfInBounds_toArray, List.set_cons_succ, List.set_cons_zero]))
          exact bodyPost_ret (results_tmp (t := 8) rfl _ _ _) rfl ⟨rfl, Hfin.out⟩
end Go.Proofs.YtikkebjhnechdaaDoor
