/- Walk: mootlaw05.MerkleHalves. -/
import Derived.Test.YtikkebjhnechdaaDoorMerSlice
namespace Go.Mt
open Go.RowKit
theorem halves_left {L : Nat → Dg} {n hf d : Nat} (h : hf = min n (2 ^ d)) : node L hf d 0 = node L n d 0 :=
  node_same d 0 0 fun j hj => by
    unfold node
    rw [Nat.mul_zero, Nat.zero_add]
    by_cases h1 : j < n
    · rw [if_pos h1, if_pos (by omega)]
    · rw [if_neg h1, if_neg (by omega)]
theorem halves_right {L : Nat → Dg} {n hf d : Nat} (h : hf = min n (2 ^ d)) : node (fun k => L (hf + k)) (n - hf) d 0 = node L n d 1 :=
  node_same d 0 1 fun j hj => by
    unfold node
    rw [Nat.mul_zero, Nat.zero_add, Nat.mul_one]
    by_cases h1 : 2 ^ d + j < n
    · rw [if_pos h1, if_pos (by omega), show hf = 2 ^ d by omega]
    · rw [if_neg h1, if_neg (by omega)]
theorem longer_same {L M : Nat → Dg} {n m d : Nat} (hm : n ≤ m) (h1 : ∀ k, k < n → M k = L k) (h2 : ∀ k, n ≤ k → k < m → M k = zr 0) : node M m d 0 = node L n d 0 :=
  node_same d 0 0 fun j hj => by
    unfold node
    rw [Nat.mul_zero, Nat.zero_add]
    by_cases h : j < n
    · rw [if_pos h, if_pos (by omega), h1 j h]
    · rw [if_neg h]
      split
      · exact h2 j (by omega) ‹_›
      · rfl
theorem firstL_more {L : Nat → Dg} (n m : Nat) : firstL L n ++ List.replicate m (fun _ => (0 : BitVec 8)) = firstL (fun k => if k < n then L k else zr 0) (n + m) := by
  apply List.ext_getElem?
  intro k
  unfold firstL
  by_cases hk : k < n
  · rw [List.getElem?_append_left (by simpa using hk), List.getElem?_map, List.getElem?_map, List.getElem?_range hk, List.getElem?_range (by omega)]
    simp [hk]
  · rw [List.getElem?_append_right (by simpa using hk)]
    by_cases h2 : k < n + m
    · rw [List.getElem?_replicate, if_pos (by simp; omega), List.getElem?_map, List.getElem?_range h2]
      simp [hk]; rfl
    · rw [List.getElem?_eq_none (by simp; omega), List.getElem?_eq_none (by simp; omega)]
end Go.Mt
namespace Go.Proofs.YtikkebjhnechdaaDoor
open Go.RowKit Go.Mt

set_option maxRecDepth 100000 in
set_option maxHeartbeats 2000000 in
theorem halves_law (D M : Int) (pp : Option Addr) (pb po N C : Nat) (L : Nat → Dg) (w : World) (hT : Tabs w) (hpp : 0 < N → pp = some ⟨pb, po, none⟩) (hpb : 0 < N → pb < w.heap.size) (hL : DgsAt w pb po N L) (hLn : ∀ k, norm (L k) = L k) (hN : N ≤ 4398046511104) :
    Calls Tryd.prog 8 #[.int .i64 D, .slice pp N C, .int .i64 M] w fun e w' => e = .returned (.bool true) ∧ Below w.heap.size w w' := by
  have hz := hT.2.2.2
  obtain ⟨d, hd, hdm⟩ := wrap_mod D 10 (by decide)
  obtain ⟨q0, hq0, hqm⟩ := wrap_mod M 5 (by decide)
  have hdm' : (IntKind.u64.wrap D).tmod 10 = (d : Int) := hdm
  have hqm' : (IntKind.u64.wrap M).tmod 5 = (q0 : Int) := hqm
  clear hdm hqm
  have hd62 : (d : Int) ≤ 62 := by omega
  have hd63 : (d : Int) + 1 ≤ 62 := by omega
  have hd61 : (d : Int) ≤ 61 := by omega
  have hd60 : (0 : Int) ≤ (d : Int) + 1 := by omega
  have hd59 : d ≤ 61 := by omega
  obtain ⟨p, hp⟩ : ∃ p, p = 2 ^ d := ⟨_, rfl⟩
  have hp1 : 2 ^ (d + 1) = 2 * p := by rw [Nat.pow_succ, hp]; omega
  have hpb9 : p ≤ 512 := by rw [hp]; exact Nat.pow_le_pow_right (n := 2) (by decide) (show d ≤ 9 by omega)
  have hpos : 0 < p := by rw [hp]; exact Nat.pow_pos (by decide)
  have hpw0 : pw (d : Int) = (p : Int) := by rw [pw_nat, hp]
  have hpw1 : pw ((d : Int) + 1) = ((2 * p : Nat) : Int) := by rw [pw_succ, hp1]
  have Hh := Lib.hid (hashes_any pp pb po N C L w hpp hpb hL hN)
  have HT := Lib.hid hT
  have HLn := Lib.hid hLn
  have Hp := Lib.hid hp
  have Hp1 := Lib.hid hp1
  clear hT hL hLn hp hp1 hpp hpb
  go_enter Tryd.func8, Tryd.ntmps8
  go_upto_if 33 with (first
    | (go_at_call 23; refine Hh.out.mono ?_; rintro e w1 ⟨v1, rfl, hv1, hb1⟩; obtain ⟨sp, c1, rfl, hc1, hnil1, hlev⟩ := own_slice hv1; have Hnil1 := Lib.hid hnil1; have Hlev := Lib.hid hlev; have Hb1 := Lib.hid hb1; have Hv1 := Lib.hid hv1; clear Hh hlev hb1 hv1 hnil1))
  obtain ⟨n, hn⟩ : ∃ n, n = min N (2 * p) := ⟨_, rfl⟩
  have hnc : n ≤ c1 := by omega
  have hn2 : n ≤ 2 * p := by omega
  have hnN : n ≤ N := by omega
  go_cut [7] (fun s wx => s = .slice sp n c1 ∧ wx = w1)
  case first =>
    by_cases hbig : 2 * p < N
    · have hi : 2 * (p : Int) = (n : Int) := by omega
      have Hi := Lib.hid hi
      clear hi hn
      go_wp2_with (first
        | (guard_target = wpList _ _ _ (⟨some 39, _, _, _, _, _⟩ :: _) _ _; refine wpList_slice_hi rfl 50 27 (.tmp 34) (.tmp 38) rfl sp N c1 n .i64 (2 * (p : Int)) rfl rfl Hi.out Tryd.underlying50 32 sz32 hnc ?_))
      go_meet
      exact ⟨rfl, rfl⟩
    · have hN2 : N = n := by omega
      have HN2 := Lib.hid hN2
      clear hn hN2
      go_wp2_with fail
      go_meet
      exact ⟨by rw [HN2.out], rfl⟩
  case rest =>
    obtain ⟨rfl, hwc⟩ := hcut; have hwc := hwc.symm; subst hwc
    obtain ⟨hf, hhf⟩ : ∃ hf, hf = min n p := ⟨_, rfl⟩
    have hfn : hf ≤ n := by omega
    have hfc : hf ≤ c1 := by omega
    have Hn := Lib.hid hn
    clear hn
    go_upto_region 5 with fail
    go_cut [8] (fun s wx => s = .int .i64 hf ∧ wx = w1)
    case first =>
      by_cases hpn : p < n
      · have e : hf = p := by omega
        have He := Lib.hid e
        clear e hhf
        go_wp2_with fail
        go_meet
        exact ⟨by rw [He.out], rfl⟩
      · have e : hf = n := by omega
        have He := Lib.hid e
        clear e hhf
        go_wp2_with fail
        go_meet
        exact ⟨by rw [He.out], rfl⟩
    case rest =>
      obtain ⟨rfl, hwc⟩ := hcut; have hwc := hwc.symm; subst hwc
      have hb0 : ∃ b, (0 < N → sp = some ⟨b, 0, none⟩ ∧ w.heap.size ≤ b ∧ b < w1.heap.size ∧ DgsAt w1 b 0 N L) := by
        by_cases h0 : 0 < N
        · obtain ⟨b, h1, h2, h3, h4⟩ := Hlev.out h0; exact ⟨b, fun _ => ⟨h1, h2, h3, h4⟩⟩
        · exact ⟨0, fun h => absurd h h0⟩
      obtain ⟨b, hb⟩ := hb0
      have hT1 : ∀ w', Below w1.heap.size w1 w' → Tabs w' := fun w' h => HT.out.below (Hb1.out.trans (h.mono Hb1.out.size)) hz
      obtain ⟨x, hx⟩ : ∃ x, x = node L n d 0 := ⟨_, rfl⟩
      obtain ⟨y, hy⟩ : ∃ y, y = node L n d 1 := ⟨_, rfl⟩
      obtain ⟨r, hr⟩ : ∃ r, r = node L n (d + 1) 0 := ⟨_, rfl⟩
      have hrp : r = pr x y := by rw [hr, hx, hy]; rfl
      have hhf2 : hf = min n (2 ^ d) := by rw [← Hp.out]; exact hhf
      have Hr1 := Lib.hid (show ∀ w', Below w1.heap.size w1 w' → Calls Tryd.prog 24 #[.int .i64 ((d : Int) + 1), .slice sp n c1] w' fun e w'' => e = .returned (.tuple #[.agg (arr 32 (ub r)), .nilIface]) ∧ Below w'.heap.size w' w'' from fun w' h => by
        rw [hr]; exact root_any (d + 1) n sp b 0 c1 L w' (hT1 w' h) (by omega) (by rw [Hp1.out]; exact hn2) (fun h0 => (hb (by omega)).1) (fun h0 => Nat.lt_of_lt_of_le (hb (by omega)).2.2.1 h.size) (fun k hk => ((hb (by omega)).2.2.2.below h (hb (by omega)).2.2.1) k (by omega)) HLn.out)
      have Hr2 := Lib.hid (show ∀ w', Below w1.heap.size w1 w' → Calls Tryd.prog 24 #[.int .i64 d, .slice sp hf c1] w' fun e w'' => e = .returned (.tuple #[.agg (arr 32 (ub x)), .nilIface]) ∧ Below w'.heap.size w' w'' from fun w' h => by
        rw [hx, ← halves_left hhf2]; exact root_any d hf sp b 0 c1 L w' (hT1 w' h) (by omega) (by omega) (fun h0 => (hb (by omega)).1) (fun h0 => Nat.lt_of_lt_of_le (hb (by omega)).2.2.1 h.size) (fun k hk => ((hb (by omega)).2.2.2.below h (hb (by omega)).2.2.1) k (by omega)) HLn.out)
      have Hr3 := Lib.hid (show ∀ w' sp' cc, Below w1.heap.size w1 w' → (hf < n → ∀ b o, sp = some ⟨b, o, none⟩ → sp' = some ⟨b, o + hf * 32, none⟩) → Calls Tryd.prog 24 #[.int .i64 d, .slice sp' (n - hf) cc] w' fun e w'' => e = .returned (.tuple #[.agg (arr 32 (ub y)), .nilIface]) ∧ Below w'.heap.size w' w'' from fun w' sp' cc h hsp => by
        rw [hy, ← halves_right hhf2]
        refine root_any d (n - hf) sp' b (0 + hf * 32) cc (fun k => L (hf + k)) w' (hT1 w' h) (by omega) (by rw [Hp.out] at hn2; omega) (fun h0 => hsp (by omega) b 0 (hb (by omega)).1) (fun h0 => Nat.lt_of_lt_of_le (hb (by omega)).2.2.1 h.size) ?_ (fun k => HLn.out _)
        by_cases h0 : 0 < N
        · exact ((hb h0).2.2.2.below h (hb h0).2.2.1).piece hf (n - hf) (by omega)
        · exact fun q hq => by omega)
      have Hr5 := Lib.hid (show ∀ w', Below w1.heap.size w1 w' → Calls Tryd.prog 24 #[.int .i64 d, .slice none 0 0] w' fun e w'' => e = .returned (.tuple #[.agg (arr 32 (ub (zr d))), .nilIface]) ∧ Below w'.heap.size w' w'' from fun w' h => by
        rw [← node_pow_zero (L := L) (d := d) (n := 0) rfl]
        exact root_any d 0 none 0 0 0 L w' (hT1 w' h) (by omega) (by omega) (fun h => by omega) (fun h => by omega) (fun k hk => by omega) HLn.out)
      have Hpair := Lib.hid (show ∀ w', Below w1.heap.size w1 w' → Calls Tryd.prog 17 #[.agg (arr 32 (ub x)), .agg (arr 32 (ub y))] w' fun e w'' => e = .returned (.agg (arr 32 (ub r))) ∧ Below w'.heap.size w' w'' from fun w' h => by
        have := kecpair_any x y w' (hT1 w' h)
        rw [arr_pr] at this
        rw [hrp]; exact this)
      have hs1 : ∀ w, (sizeOf 5).run Tryd.prog w = .ok 1 w := fun w => by kernel_rfl
      have hneq : ∀ w, (binOp .neq 27 (.agg (arr 32 (ub r))) (.agg (arr 32 (ub r)))).run Tryd.prog w = .ok (.bool false) w := fun w => run_neq_ub w 27 5 32 Tryd.underlying27 (by kernel_rfl) hs1 r
      have HT1 := Lib.hid hT1
      have Hb := Lib.hid hb
      have Hr := Lib.hid hr
      clear hT1 hb hx hy hr hrp hhf2 hhf hs1
      go_upto_region 9 with (first
        | (go_at_call 24; refine (Hr1.out w1 (Below.refl _ _)).mono ?_; rintro e w2 ⟨rfl, hb2⟩; clear Hr1)
        | (guard_target = wpList _ _ _ (⟨_, Op.store _ (.tmp 9) _, _, _, _, _⟩ :: _) _ _; refine wpList_store_new rfl 27 (.tmp 9) (.tmp 51) rfl w2.heap.size _ (arr 32 (ub r)) 27 rfl rfl rfl (z32_size _) (infH _) (bytes_one 32 _) ?_; have hr3 : (w2.alloc (.cells (arr 32 (ub r)) 27)).heap[w2.heap.size]? = some (.cells (arr 32 (ub r)) 27 (0, 0)) := at_alloc _ rfl; have hb3 := hb2.alloc hb2.size (.cells (arr 32 (ub r)) 27); generalize hw3 : w2.alloc (.cells (arr 32 (ub r)) 27) = w3 at hr3 hb3 ⊢; generalize hk9 : w2.heap.size = k9 at hr3 ⊢; clear hw3 hk9 hb2)
        | (guard_target = wpList _ _ _ (⟨some 57, _, _, _, _, _⟩ :: _) _ _; refine wpList_slice_hi rfl 50 27 (.tmp 55) (.tmp 56) rfl sp n c1 hf .i64 (hf : Int) rfl rfl rfl Tryd.underlying50 32 sz32 hfc ?_)
        | (go_at_call 24; refine (Hr2.out w3 hb3).mono ?_; rintro e w4 ⟨rfl, hb4⟩; have hr4 := keep_below hb4 hr3 (lt_row hr3); have hb4' := hb3.trans (hb4.mono hb3.size); clear Hr2 hb4 hr3 hb3)
        | (guard_target = wpList _ _ _ (⟨_, Op.store _ (.tmp 11) _, _, _, _, _⟩ :: _) _ _; refine wpList_store_new rfl 27 (.tmp 11) (.tmp 59) rfl w4.heap.size _ (arr 32 (ub x)) 27 rfl rfl rfl (z32_size _) (infH _) (bytes_one 32 _) ?_; have hr5 := keep_alloc hr4 (.cells (arr 32 (ub x)) 27 (0, 0)); have hx5 : (w4.alloc (.cells (arr 32 (ub x)) 27)).heap[w4.heap.size]? = some (.cells (arr 32 (ub x)) 27 (0, 0)) := at_alloc _ rfl; have hb5 := hb4'.alloc hb4'.size (.cells (arr 32 (ub x)) 27); generalize hw5 : w4.alloc (.cells (arr 32 (ub x)) 27) = w5 at hr5 hx5 hb5 ⊢; generalize hk11 : w4.heap.size = k11 at hx5 ⊢; clear hw5 hk11 hb4' hr4)
        | (guard_target = wpList _ _ _ (⟨some 65, _, _, _, _, _⟩ :: _) _ _; refine wpList_slice_lo rfl 50 27 (.tmp 63) (.tmp 64) rfl sp n c1 hf .i64 (hf : Int) rfl rfl rfl Tryd.underlying50 32 sz32 hfn hnc ?_; intro sp2 hsp2)
        | (go_at_call 24; refine (Hr3.out w5 sp2 _ hb5 hsp2).mono ?_; rintro e w6 ⟨rfl, hb6⟩; have hr6 := keep_below hb6 hr5 (lt_row hr5); have hx6 := keep_below hb6 hx5 (lt_row hx5); have hb6' := hb5.trans (hb6.mono hb5.size); clear Hr3 hb6 hr5 hx5 hb5 hsp2)
        | (guard_target = wpList _ _ _ (⟨_, Op.store _ (.tmp 13) _, _, _, _, _⟩ :: _) _ _; refine wpList_store_new rfl 27 (.tmp 13) (.tmp 67) rfl w6.heap.size _ (arr 32 (ub y)) 27 rfl rfl rfl (z32_size _) (infH _) (bytes_one 32 _) ?_; have hr7 := keep_alloc hr6 (.cells (arr 32 (ub y)) 27 (0, 0)); have hx7 := keep_alloc hx6 (.cells (arr 32 (ub y)) 27 (0, 0)); have hy7 : (w6.alloc (.cells (arr 32 (ub y)) 27)).heap[w6.heap.size]? = some (.cells (arr 32 (ub y)) 27 (0, 0)) := at_alloc _ rfl; have hb7 := hb6'.alloc hb6'.size (.cells (arr 32 (ub y)) 27); generalize hw7 : w6.alloc (.cells (arr 32 (ub y)) 27) = w7 at hr7 hx7 hy7 hb7 ⊢; generalize hk13 : w6.heap.size = k13 at hy7 ⊢; clear hw7 hk13 hb6' hr6 hx6))
      have hD0 : Below w7.heap.size w7 w7.drew := (Below.refl _ _).drew
      have hatr : ∀ w', Below w7.heap.size w7 w' → w'.rangeAt k9 0 (arr 32 (ub r)).toList := fun w' h => range_of_row (keep_below h hr7 (lt_row hr7))
      have hatx : ∀ w', Below w7.heap.size w7 w' → w'.rangeAt k11 0 (arr 32 (ub x)).toList := fun w' h => range_of_row (keep_below h hx7 (lt_row hx7))
      have haty : ∀ w', Below w7.heap.size w7 w' → w'.rangeAt k13 0 (arr 32 (ub y)).toList := fun w' h => range_of_row (keep_below h hy7 (lt_row hy7))
      have hb7d : Below w1.heap.size w1 w7.drew := hb7.drew
      have Hatr := Lib.hid hatr
      have Hatx := Lib.hid hatx
      have Haty := Lib.hid haty
      clear hatr hatx haty hr7 hx7 hy7
      go_upto_if 89 with fail
      go_cut [89] (fun s wx => s = .bool false ∧ Below w7.heap.size w7 wx)
      case first =>
        go_wp2_with (first
          | (guard_target = Code.wp _ (Code.region 9 _ _) _ _ _; refine MtOrd.wp_region_ord_in (id := 9) (fun w' => Below w7.heap.size w7 w') [(0, .head), (1, .head), (2, .head), (3, .head), (4, .head), (5, .head), (6, .head), (7, .head), (8, .head), (9, .head), (10, .head), (12, .head), (13, .head), (11, .free), (14, .loud), (15, .head), (16, .head), (17, .head), (18, .loud), (19, .head), (20, .head)] (by kernel_rfl) (by kernel_rfl) (by intro c a d v w h; first | exact h | (cases d <;> exact h)) hD0 ?_)
          | (go_at_call 17; refine (Hpair.out w7.drew hb7d).mono ?_; rintro e w8 ⟨rfl, hb8⟩; have hD8 : Below w7.heap.size w7 w8 := hD0.trans hb8; refine hK _ _ hD8 ?_; clear hK K hb8)
          | (go_at_call 25; refine (fixedM_any w8 (HT1.out w8 (hb7.trans (hD8.mono hb7.size)))).mono ?_; rintro e w9 ⟨rfl, hb9⟩; have hD9 : Below w7.heap.size w7 w9 := hD8.trans (hb9.mono hD8.size); refine hK _ _ hD9 ?_; clear hK K hb9)
          | (guard_target = MtOrd.Ord _ _ _ _ _ _ _; first | (refine MtOrd.ord_nil ?_) | (refine MtOrd.ord_head rfl rfl ?_; intro K hK; first | (first | (refine quiet_load_arr 27 (.tmp 9) rfl k9 0 rfl (arr 32 (ub r)) _ Hatr.out Tryd.underlying27 rfl (infH' _) ?_) | (refine quiet_load_arr 27 (.tmp 11) rfl k11 0 rfl (arr 32 (ub x)) _ (fun w' h => Hatx.out w' (by subst h; exact hD0)) Tryd.underlying27 rfl (infH' _) ?_) | (refine quiet_load_arr 27 (.tmp 13) rfl k13 0 rfl (arr 32 (ub y)) _ (fun w' h => Haty.out w' (by subst h; exact hD0)) Tryd.underlying27 rfl (infH' _) ?_); refine hK _ ?_; clear hK K) | (go_big_quiet_op; first | (refine hK _ ?_; clear hK K) | (apply Exists.intro; refine ⟨?_, ?_⟩; (fail); refine hK _ ?_; clear hK K))) | (refine MtOrd.ord_free rfl rfl ?_; intro K hK; first | (first | (refine quiet_load_arr 27 (.tmp 9) rfl k9 0 rfl (arr 32 (ub r)) _ Hatr.out Tryd.underlying27 rfl (infH' _) ?_) | (refine quiet_load_arr 27 (.tmp 11) rfl k11 0 rfl (arr 32 (ub x)) _ (fun w' h => Hatx.out w' (by subst h; exact hD0)) Tryd.underlying27 rfl (infH' _) ?_) | (refine quiet_load_arr 27 (.tmp 13) rfl k13 0 rfl (arr 32 (ub y)) _ (fun w' h => Haty.out w' (by subst h; exact hD0)) Tryd.underlying27 rfl (infH' _) ?_); refine hK _ ?_; clear hK K) | (go_big_quiet_op; refine hK _ ?_; clear hK K)) | (refine MtOrd.ord_skip rfl rfl ?_) | (refine MtOrd.ord_loud rfl rfl ?_; intro K hK)))
        go_meet
        exact ⟨rfl, hD9⟩
      case rest =>
        obtain ⟨rfl, hD9⟩ := hcut
        obtain ⟨w9, rfl⟩ : ∃ w9 : World, w9 = wc := ⟨_, rfl⟩
        have hb9 : Below w1.heap.size w1 w9 := hb7.trans (hD9.mono hb7.size)
        have hr9 : w9.rangeAt k9 0 (arr 32 (ub r)).toList := Hatr.out w9 hD9
        have hk9 : k9 < w9.heap.size := World.block_lt_of_cell? w9 ⟨k9, 0 + 0, none⟩ (hr9 0 _ (by rw [Array.getElem?_toList, arr_get, if_pos (by decide)]))
        obtain ⟨z, hz'⟩ : ∃ z, z = zr d := ⟨_, rfl⟩
        obtain ⟨z1, hz1'⟩ : ∃ z1, z1 = zr (d + 1) := ⟨_, rfl⟩
        have hown0 : (w9.alloc (.cells #[] 27)).ownsRow w9.heap.size 27 32 (.slice (some ⟨w9.heap.size, 0, none⟩) 0 0) ([] : List Dg).length (dl []) := World.ownsRow_lit (e := 27) (size := 32) w9 #[] 0 (Nat.le_refl _) (by decide) rfl
        have hsp9 : 0 < n → sp = some ⟨b, 0, none⟩ := fun h => (Hb.out (by omega)).1
        have hsrc9 : 0 < n → DgsAt (w9.alloc (.cells #[] 27)) b 0 n L := fun h k hk => by
          obtain ⟨-, -, h3, h4⟩ := Hb.out (by omega)
          exact (h4.below (hb9.alloc hb9.size _) h3) k (by omega)
        have hs9 : w9.heap.size ≤ (w9.alloc (.cells #[] 27)).heap.size := by simp
        have hlim9 : ([] : List Dg).length + n ≤ 4398046511104 := by simp; omega
        obtain ⟨q, hq⟩ : ∃ q, q = min q0 (2 * p - n) := ⟨_, rfl⟩
        have hq2 : n + q ≤ 2 * p := by omega
        have hlim10 : (firstL L n).length + q ≤ 4398046511104 := by rw [firstL_length]; omega
        have Hq : Hid (∀ i : Int, (i = (q0 : Int) ∧ q0 ≤ 2 * p - n) ∨ (i = 2 * (p : Int) - n ∧ 2 * p - n ≤ q0) → i = (q : Int)) := Lib.hid fun i h => by omega
        have hLm : ∀ k, norm ((fun k => if k < n then L k else zr 0) k) = (fun k => if k < n then L k else zr 0) k := fun k => by
          show norm (if k < n then L k else zr 0) = if k < n then L k else zr 0
          split
          · exact HLn.out k
          · exact norm_zr 0
        have Hr4 := Lib.hid (show ∀ w' sp' b' cc, Below w1.heap.size w1 w' → (0 < n + q → sp' = some ⟨b', 0, none⟩ ∧ b' < w'.heap.size ∧ DgsAt w' b' 0 (n + q) (fun k => if k < n then L k else zr 0)) → Calls Tryd.prog 24 #[.int .i64 ((d : Int) + 1), .slice sp' (n + q) cc] w' fun e w'' => e = .returned (.tuple #[.agg (arr 32 (ub r)), .nilIface]) ∧ Below w'.heap.size w' w'' from fun w' sp' b' cc h h2 => by
          rw [Hr.out, ← longer_same (L := L) (M := fun k => if k < n then L k else zr 0) (n := n) (m := n + q) (d := d + 1) (by omega) (fun k hk => if_pos hk) (fun k hk _ => if_neg (by omega))]
          exact root_any (d + 1) (n + q) sp' b' 0 cc _ w' (HT1.out w' h) (by omega) (by rw [Hp1.out]; exact hq2) (fun h0 => (h2 h0).1) (fun h0 => (h2 h0).2.1) (fun k hk => (h2 (by omega)).2.2 k hk) hLm)
        have Hz := Lib.hid (show ∀ w', Below w1.heap.size w1 w' → Calls Tryd.prog 26 #[.int .i64 d] w' fun e w'' => e = .returned (.tuple #[.agg (arr 32 (ub z)), .nilIface]) ∧ Below w'.heap.size w' w'' from fun w' h => by
          rw [hz']; exact zero_any d (by omega) w' (HT1.out w' h))
        have Hz1 := Lib.hid (show ∀ w', Below w1.heap.size w1 w' → Calls Tryd.prog 26 #[.int .i64 ((d : Int) + 1)] w' fun e w'' => e = .returned (.tuple #[.agg (arr 32 (ub z1)), .nilIface]) ∧ Below w'.heap.size w' w'' from fun w' h => by
          rw [hz1']; exact zero_any (d + 1) (by omega) w' (HT1.out w' h))
        have Hr6 := Lib.hid (show ∀ w', Below w1.heap.size w1 w' → Calls Tryd.prog 24 #[.int .i64 d, .slice none 0 0] w' fun e w'' => e = .returned (.tuple #[.agg (arr 32 (ub z)), .nilIface]) ∧ Below w'.heap.size w' w'' from fun w' h => by
          rw [hz']; exact Hr5.out w' h)
        have Hpz := Lib.hid (show ∀ w', Below w1.heap.size w1 w' → Calls Tryd.prog 17 #[.agg (arr 32 (ub z)), .agg (arr 32 (ub z))] w' fun e w'' => e = .returned (.agg (arr 32 (ub z1))) ∧ Below w'.heap.size w' w'' from fun w' h => by
          have := kecpair_any z z w' (HT1.out w' h)
          rw [arr_pr, hz'] at this
          rw [hz', hz1']; exact this)
        have Hhr : Hid (∀ w', Below w9.heap.size w9 w' → w'.rangeAt k9 0 (arr 32 (ub r)).toList) := Lib.hid fun w' h => Hatr.out w' (hD9.trans (h.mono hD9.size))
        clear hr9 hz' hz1' hq hLm Hr5 Hr hneq hz
        go_upto_region 12 with (first
          | (guard_target = wpList _ _ _ (⟨some 92, _, _, _, _, _⟩ :: _) _ _; refine appendHany rfl (.tmp 90) (.tmp 91) rfl w9.heap.size _ [] n L rfl hown0 sp c1 rfl Hnil1.out b 0 hsp9 hsrc9 hlim9 hs9 ?_; intro v10 w10 hv10 hk10 hat10; rw [List.nil_append] at hv10; have hb10 : Below w9.heap.size w9 w10 := ((Below.refl _ _).alloc (Nat.le_refl _) _).trans (hk10.below hs9 (fun k hk h => by cases h; exact Nat.lt_irrefl _ hk)); have hs10 := hb10.size; clear hk10 hat10 hown0 hsp9 hsrc9)
          | (guard_target = wpList _ _ _ (⟨some 105, _, _, _, _, _⟩ :: _) _ _; refine appendHz rfl (.tmp 92) (.tmp 104) rfl w9.heap.size v10 (firstL L n) rfl hv10 _ q rfl (Hq.out _ (by split; exact .inr ⟨rfl, by omega⟩; exact .inl ⟨rfl, by omega⟩)) hlim10 hs10 ?_; intro v11 w11 hv11 hk11; rw [firstL_more] at hv11; have hb11 : Below w9.heap.size w9 w11 := hb10.trans (hk11.below hs10 (fun k hk h => by have := hv10.lt k h; omega)); clear hk11 hb10 hv10))
        have hv11' : w11.ownsRow w9.heap.size 27 32 v11 (n + q) (dl (firstL (fun k => if k < n then L k else zr 0) (n + q))) := by rw [firstL_length] at hv11; exact hv11
        obtain ⟨sp3, c3, rfl, -, -, hlev3⟩ := own_slice hv11'
        have hb3e : ∃ b, (0 < n + q → sp3 = some ⟨b, 0, none⟩ ∧ b < w11.heap.size ∧ DgsAt w11 b 0 (n + q) (fun k => if k < n then L k else zr 0)) := by
          by_cases h0 : 0 < n + q
          · obtain ⟨b, h1, -, h3, h4⟩ := hlev3 h0; exact ⟨b, fun _ => ⟨h1, h3, h4⟩⟩
          · exact ⟨0, fun h => absurd h h0⟩
        obtain ⟨b3, hb3e⟩ := hb3e
        have hb11' : Below w1.heap.size w1 w11 := hb9.trans (hb11.mono hb9.size)
        have Hr7 := Lib.hid (Hr4.out w11 sp3 b3 c3 hb11' hb3e)
        clear hv11 hv11' hlev3 hb3e Hr4
        go_upto_region 16 with (first
          | (go_at_call 24; refine Hr7.out.mono ?_; rintro e w12 ⟨rfl, hb12⟩; have hb12' := hb11.trans (hb12.mono hb11.size); clear Hr7 hb12 hb11)
          | (guard_target = wpList _ _ _ (⟨_, Op.store _ (.tmp 16) _, _, _, _, _⟩ :: _) _ _; refine wpList_store_new rfl 27 (.tmp 16) (.tmp 111) rfl w12.heap.size _ (arr 32 (ub r)) 27 rfl rfl rfl (z32_size _) (infH _) (bytes_one 32 _) ?_; have hr13 : (w12.alloc (.cells (arr 32 (ub r)) 27)).heap[w12.heap.size]? = some (.cells (arr 32 (ub r)) 27 (0, 0)) := at_alloc _ rfl; have hb13 := hb12'.alloc hb12'.size (.cells (arr 32 (ub r)) 27); generalize hw13 : w12.alloc (.cells (arr 32 (ub r)) 27) = w13 at hr13 hb13 ⊢; generalize hk16 : w12.heap.size = k16 at hr13 ⊢; clear hw13 hk16 hb12')
          | (go_at_call 26; refine (Hz.out w13 (hb9.trans (hb13.mono hb9.size))).mono ?_; rintro e w14 ⟨rfl, hb14⟩; have hr14 := keep_below hb14 hr13 (lt_row hr13); have hb14' := hb13.trans (hb14.mono hb13.size); clear Hz hb14 hr13 hb13)
          | (guard_target = wpList _ _ _ (⟨_, Op.store _ (.tmp 17) _, _, _, _, _⟩ :: _) _ _; refine wpList_store_new rfl 27 (.tmp 17) (.tmp 116) rfl w14.heap.size _ (arr 32 (ub z)) 27 rfl rfl rfl (z32_size _) (infH _) (bytes_one 32 _) ?_; have hr15 := keep_alloc hr14 (.cells (arr 32 (ub z)) 27 (0, 0)); have hz15 : (w14.alloc (.cells (arr 32 (ub z)) 27)).heap[w14.heap.size]? = some (.cells (arr 32 (ub z)) 27 (0, 0)) := at_alloc _ rfl; have hb15 := hb14'.alloc hb14'.size (.cells (arr 32 (ub z)) 27); generalize hw15 : w14.alloc (.cells (arr 32 (ub z)) 27) = w15 at hr15 hz15 hb15 ⊢; generalize hk17 : w14.heap.size = k17 at hz15 ⊢; clear hw15 hk17 hb14' hr14)
          | (go_at_call 24; refine (Hr6.out w15 (hb9.trans (hb15.mono hb9.size))).mono ?_; rintro e w16 ⟨rfl, hb16⟩; have hr16 := keep_below hb16 hr15 (lt_row hr15); have hz16 := keep_below hb16 hz15 (lt_row hz15); have hb16' := hb15.trans (hb16.mono hb15.size); clear Hr6 hb16 hr15 hz15 hb15)
          | (guard_target = wpList _ _ _ (⟨_, Op.store _ (.tmp 18) _, _, _, _, _⟩ :: _) _ _; refine wpList_store_new rfl 27 (.tmp 18) (.tmp 121) rfl w16.heap.size _ (arr 32 (ub z)) 27 rfl rfl rfl (z32_size _) (infH _) (bytes_one 32 _) ?_; have hr17 := keep_alloc hr16 (.cells (arr 32 (ub z)) 27 (0, 0)); have hz17 := keep_alloc hz16 (.cells (arr 32 (ub z)) 27 (0, 0)); have hy17 : (w16.alloc (.cells (arr 32 (ub z)) 27)).heap[w16.heap.size]? = some (.cells (arr 32 (ub z)) 27 (0, 0)) := at_alloc _ rfl; have hb17 := hb16'.alloc hb16'.size (.cells (arr 32 (ub z)) 27); generalize hw17 : w16.alloc (.cells (arr 32 (ub z)) 27) = w17 at hr17 hz17 hy17 hb17 ⊢; generalize hk18 : w16.heap.size = k18 at hy17 ⊢; clear hw17 hk18 hb16' hr16 hz16)
          | (go_at_call 26; refine (Hz1.out w17 (hb9.trans (hb17.mono hb9.size))).mono ?_; rintro e w18 ⟨rfl, hb18⟩; have hr18 := keep_below hb18 hr17 (lt_row hr17); have hz18 := keep_below hb18 hz17 (lt_row hz17); have hy18 := keep_below hb18 hy17 (lt_row hy17); have hb18' := hb17.trans (hb18.mono hb17.size); clear Hz1 hb18 hr17 hz17 hy17 hb17)
          | (guard_target = wpList _ _ _ (⟨_, Op.store _ (.tmp 19) _, _, _, _, _⟩ :: _) _ _; refine wpList_store_new rfl 27 (.tmp 19) (.tmp 127) rfl w18.heap.size _ (arr 32 (ub z1)) 27 rfl rfl rfl (z32_size _) (infH _) (bytes_one 32 _) ?_; have hr19 := keep_alloc hr18 (.cells (arr 32 (ub z1)) 27 (0, 0)); have hz19 := keep_alloc hz18 (.cells (arr 32 (ub z1)) 27 (0, 0)); have hy19 := keep_alloc hy18 (.cells (arr 32 (ub z1)) 27 (0, 0)); have hx19 : (w18.alloc (.cells (arr 32 (ub z1)) 27)).heap[w18.heap.size]? = some (.cells (arr 32 (ub z1)) 27 (0, 0)) := at_alloc _ rfl; have hb19 := hb18'.alloc hb18'.size (.cells (arr 32 (ub z1)) 27); generalize hw19 : w18.alloc (.cells (arr 32 (ub z1)) 27) = w19 at hr19 hz19 hy19 hx19 hb19 ⊢; generalize hk19 : w18.heap.size = k19 at hx19 ⊢; clear hw19 hk19 hb18' hr18 hz18 hy18))
        have hD0 : Below w19.heap.size w19 w19.drew := (Below.refl _ _).drew
        have hat9 : ∀ w', Below w19.heap.size w19 w' → w'.rangeAt k9 0 (arr 32 (ub r)).toList := fun w' h => Hhr.out w' (hb19.trans (h.mono hb19.size))
        have hat16 : ∀ w', Below w19.heap.size w19 w' → w'.rangeAt k16 0 (arr 32 (ub r)).toList := fun w' h => range_of_row (keep_below h hr19 (lt_row hr19))
        have hat17 : ∀ w', Below w19.heap.size w19 w' → w'.rangeAt k17 0 (arr 32 (ub z)).toList := fun w' h => range_of_row (keep_below h hz19 (lt_row hz19))
        have hat18 : ∀ w', Below w19.heap.size w19 w' → w'.rangeAt k18 0 (arr 32 (ub z)).toList := fun w' h => range_of_row (keep_below h hy19 (lt_row hy19))
        have hat19 : ∀ w', Below w19.heap.size w19 w' → w'.rangeAt k19 0 (arr 32 (ub z1)).toList := fun w' h => range_of_row (keep_below h hx19 (lt_row hx19))
        have hb19d : Below w1.heap.size w1 w19.drew := hb9.trans (hb19.drew.mono hb9.size)
        have hs1 : ∀ w, (sizeOf 5).run Tryd.prog w = .ok 1 w := fun w => by kernel_rfl
        have heq : ∀ (f : Nat → BitVec 8) w, (binOp .eql 27 (.agg (arr 32 (ub f))) (.agg (arr 32 (ub f)))).run Tryd.prog w = .ok (.bool true) w := fun f w => run_eql_ub w 27 5 32 Tryd.underlying27 (by kernel_rfl) hs1 f f true (by simp)
        have heqr := heq r
        have heqz := heq z
        have heqz1 := heq z1
        have Hat9 := Lib.hid hat9
        have Hat16 := Lib.hid hat16
        have Hat17 := Lib.hid hat17
        have Hat18 := Lib.hid hat18
        have Hat19 := Lib.hid hat19
        clear hat9 hat16 hat17 hat18 hat19 hs1 heq hr19 hz19 hy19 hx19 Hhr
        go_wp2_with (first
          | (guard_target = Code.wp _ (Code.region 16 _ _) _ _ _; refine MtOrd.wp_region_ord_in (id := 16) (fun w' => Below w19.heap.size w19 w') [(0, .head), (1, .head), (2, .head), (3, .head), (4, .head), (5, .head), (6, .head), (7, .head), (8, .head), (9, .head), (10, .head), (11, .head), (12, .head), (13, .head), (14, .head), (15, .head), (16, .head), (17, .head), (18, .head), (19, .head), (20, .head), (21, .head), (22, .head), (23, .head), (24, .head), (26, .head), (27, .head), (25, .free), (28, .loud), (29, .head), (30, .head), (31, .head)] (by kernel_rfl) (by kernel_rfl) (by intro c a d v w h; first | exact h | (cases d <;> exact h)) hD0 ?_)
          | (go_at_call 17; refine (Hpz.out w19.drew hb19d).mono ?_; rintro e w20 ⟨rfl, hb20⟩; have hD20 : Below w19.heap.size w19 w20 := hD0.trans hb20; refine hK _ _ hD20 ?_; clear hK K hb20)
          | (guard_target = MtOrd.Ord _ _ _ _ _ _ _; first | (refine MtOrd.ord_nil ?_) | (refine MtOrd.ord_head rfl rfl ?_; intro K hK; first | (first | (refine quiet_load_arr 27 (.tmp 16) rfl k16 0 rfl (arr 32 (ub r)) _ (fun w' h => Hat16.out w' (by subst h; exact hD0)) Tryd.underlying27 rfl (infH' _) ?_) | (refine quiet_load_arr 27 (.tmp 9) rfl k9 0 rfl (arr 32 (ub r)) _ (fun w' h => Hat9.out w' (by subst h; exact hD0)) Tryd.underlying27 rfl (infH' _) ?_) | (refine quiet_load_arr 27 (.tmp 18) rfl k18 0 rfl (arr 32 (ub z)) _ (fun w' h => Hat18.out w' (by subst h; exact hD0)) Tryd.underlying27 rfl (infH' _) ?_) | (refine quiet_load_arr 27 (.tmp 17) rfl k17 0 rfl (arr 32 (ub z)) _ (fun w' h => Hat17.out w' (by subst h; exact hD0)) Tryd.underlying27 rfl (infH' _) ?_) | (refine quiet_load_arr 27 (.tmp 19) rfl k19 0 rfl (arr 32 (ub z1)) _ Hat19.out Tryd.underlying27 rfl (infH' _) ?_); refine hK _ ?_; clear hK K) | (go_big_quiet_op; first | (refine hK _ ?_; clear hK K) | (apply Exists.intro; refine ⟨?_, ?_⟩; (fail); refine hK _ ?_; clear hK K))) | (refine MtOrd.ord_free rfl rfl ?_; intro K hK; first | (first | (refine quiet_load_arr 27 (.tmp 16) rfl k16 0 rfl (arr 32 (ub r)) _ (fun w' h => Hat16.out w' (by subst h; exact hD0)) Tryd.underlying27 rfl (infH' _) ?_) | (refine quiet_load_arr 27 (.tmp 9) rfl k9 0 rfl (arr 32 (ub r)) _ (fun w' h => Hat9.out w' (by subst h; exact hD0)) Tryd.underlying27 rfl (infH' _) ?_) | (refine quiet_load_arr 27 (.tmp 18) rfl k18 0 rfl (arr 32 (ub z)) _ (fun w' h => Hat18.out w' (by subst h; exact hD0)) Tryd.underlying27 rfl (infH' _) ?_) | (refine quiet_load_arr 27 (.tmp 17) rfl k17 0 rfl (arr 32 (ub z)) _ (fun w' h => Hat17.out w' (by subst h; exact hD0)) Tryd.underlying27 rfl (infH' _) ?_) | (refine quiet_load_arr 27 (.tmp 19) rfl k19 0 rfl (arr 32 (ub z1)) _ Hat19.out Tryd.underlying27 rfl (infH' _) ?_); refine hK _ ?_; clear hK K) | (go_big_quiet_op; refine hK _ ?_; clear hK K)) | (refine MtOrd.ord_skip rfl rfl ?_) | (refine MtOrd.ord_loud rfl rfl ?_; intro K hK)))
        all_goals exact bodyPost_ret (results_tmp (t := 6) rfl _ _ _) rfl ⟨rfl, (Hb1.out.trans ((hb9.trans (hb19.mono hb9.size)).mono Hb1.out.size)).trans (hD20.mono (Nat.le_trans Hb1.out.size (Nat.le_trans hb9.size hb19.size)))⟩
end Go.Proofs.YtikkebjhnechdaaDoor
