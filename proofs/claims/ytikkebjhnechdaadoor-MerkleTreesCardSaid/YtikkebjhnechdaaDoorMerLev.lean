/- Walk: merkle.levels. -/
import Derived.Test.YtikkebjhnechdaaDoorMerPlain
import Derived.Test.YtikkebjhnechdaaDoorMerZero
namespace Go.Proofs.YtikkebjhnechdaaDoor
open Go.RowKit Go.Mt
theorem infZ (F : Nat → Dg) : (Tryd.prog.info? 89).map (·.size) = some (hrow 17 F).size := by rw [hrow_size]; kernel_rfl
theorem zc_size (F : Nat → Dg) : (hrow 17 F).size = (Tryd.zeroCells89).size := by rw [hrow_size]; kernel_rfl

set_option maxRecDepth 100000 in
set_option maxHeartbeats 2000000 in
theorem levels_any (d n : Nat) (pp : Option Addr) (pb po c : Nat) (L : Nat → Dg) (w : World) (hT : Tabs w) (hd : d ≤ 16) (hn : n ≤ 2 ^ d) (hpp : 0 < n → pp = some ⟨pb, po, none⟩) (hpb : 0 < n → pb < w.heap.size)
    (hL : DgsAt w pb po n L) (hLn : ∀ k, norm (L k) = L k) :
    Calls Tryd.prog 44 #[.int .i64 d, .slice pp n c] w fun e w' => ∃ (g cap : Nat) (vs : Nat → Value), e = .returned (.tuple #[.slice (some ⟨g, 0, none⟩) (d + 1) cap, .agg (hrow 17 zr), .nilIface]) ∧ g < w'.heap.size ∧
      (∀ h, h ≤ d → w'.cell? ⟨g, h, none⟩ = some (vs h)) ∧ (∀ h, h ≤ d → LevAt w' (· = g) (vs h) (lenAt n h) (node L n h)) ∧ Below w.heap.size w w' := by
  have hn16 : n ≤ 65536 := Nat.le_trans hn (Nat.pow_le_pow_right (n := 2) (by decide) hd)
  have hpw : ((n : Nat) : Int) ≤ pw (d : Int) := by rw [pw_nat]; omega
  have hd62 : (d : Int) ≤ 62 := by omega
  have hz := hT.2.2.2
  have hb0 : Below w.heap.size w (w.alloc (.cells Tryd.zeroCells89 89)) := (Below.refl _ _).alloc (Nat.le_refl _) _
  have hr0 : (w.alloc (.cells Tryd.zeroCells89 89)).heap[w.heap.size]? = some (.cells Tryd.zeroCells89 89 (0, 0)) := at_alloc _ rfl
  have hbd := run_build1v (P := Tryd.prog) (t := 88) (e := 50) (ie := Tryd.t50) (z := .slice none 0 0) (hu := Tryd.underlying88) (hie := by kernel_rfl) (hz := by kernel_rfl) (hsz := by kernel_rfl)
  have hbd1 := fun (w : World) (sp : Option Addr) (n c : Nat) => hbd w (.slice sp n c) rfl
  have HT := Lib.hid hT
  have HL := Lib.hid hL
  have HLn := Lib.hid hLn
  have Hn := Lib.hid hn
  clear hT hL hLn hn hbd
  go_enter Tryd.func44, Tryd.ntmps44
  go_wp2_with (first
    | (go_at_call 47; refine (noughts_any _ (HT.out.below hb0 hz)).mono ?_; rintro e w2 ⟨rfl, hb2⟩; have hr2 := keep_below hb2 hr0 (lt_row hr0); have hbw := hb0.trans (hb2.mono hb0.size); clear hb0 hr0)
    | (guard_target = wpList _ _ _ (⟨_, Op.store _ (.tmp 7) _, _, _, _, _⟩ :: _) _ _; refine wpList_store_new rfl 89 (.tmp 7) (.tmp 14) rfl w2.heap.size _ (hrow 17 zr) 89 rfl rfl rfl (zc_size _) (infZ _) (hrow_one 17 _) ?_))
  obtain ⟨zb, hzb⟩ : ∃ zb, zb = w2.heap.size := ⟨_, rfl⟩
  have hs3 : (w2.alloc (.cells (hrow 17 zr) 89)).heap.size = zb + 1 := by rw [hzb]; simp
  have hwz : w.heap.size < zb := by rw [hzb]; exact lt_row hr2
  have hb3 : Below w.heap.size w (w2.alloc (.cells (hrow 17 zr) 89)) := hbw.alloc hbw.size _
  have hZ3 : (w2.alloc (.cells (hrow 17 zr) 89)).heap[zb]? = some (.cells (hrow 17 zr) 89 (0, 0)) := at_alloc _ hzb.symm
  have hR3 : (w2.alloc (.cells (hrow 17 zr) 89)).heap[w.heap.size]? = some (.cells Tryd.zeroCells89 89 (0, 0)) := keep_alloc hr2 _
  rw [← hzb]
  have Hzb := Lib.hid hzb
  obtain ⟨w3, hw3⟩ : ∃ w3, w3 = w2.alloc (.cells (hrow 17 zr) 89) := ⟨_, rfl⟩
  rw [← hw3] at hs3 hb3 hZ3 hR3 ⊢
  have ho4 : (w3.alloc (.cells #[.slice pp n c] 50)).ownsRow (zb + 1) 50 1 (.slice (some ⟨zb + 1, 0, none⟩) 1 1) 1 (vl (fun _ => .slice pp n c) 1) := by
    refine ⟨rfl, .inr ⟨zb + 1, 1, #[.slice pp n c], rfl, Nat.le_refl _, ?_, Nat.le_refl _, by decide, rfl, rfl⟩⟩
    rw [← hs3]; exact heap_alloc_new _ _
  have hv4 : ∀ i, i ≤ 0 → LevAt (w3.alloc (.cells #[.slice pp n c] 50)) (fun b => (Value.slice (some ⟨zb + 1, 0, none⟩) 1 1).ownBlock = some b ∨ b = w.heap.size) (.slice pp n c) (lenAt n i) (node L n i) := fun i hi => by
    obtain rfl : i = 0 := by omega
    refine ⟨pp, c, rfl, fun h0 => ⟨pb, po, hpp h0, Nat.lt_of_lt_of_le (hpb h0) (Nat.le_trans hb3.size (by simp)), fun h => ?_, ?_⟩⟩
    · have := hpb h0; rcases h with h | h
      · simp [Value.ownBlock] at h; omega
      · omega
    · refine (HL.out.below (hb3.alloc hb3.size _) (hpb h0)).ext fun k hk i _ => ?_
      unfold node; rw [if_pos hk]
  have hb4 : Below w.heap.size w (w3.alloc (.cells #[.slice pp n c] 50)) := hb3.alloc hb3.size _
  have hZ4 := keep_alloc hZ3 (.cells #[.slice pp n c] 50 (0, 0))
  have hR4 := keep_alloc hR3 (.cells #[.slice pp n c] 50 (0, 0))
  clear hw3 hzb hbw hr2 hb2 hb3 hZ3 hR3
  go_loopw [8, 35] (fun v x wr => ∃ (h : Nat) (vs : Nat → Value), h ≤ d ∧ x = .int .i64 h ∧ wr.ownsRow (zb + 1) 50 1 v (h + 1) (vl vs (h + 1)) ∧ (∀ i, i ≤ h → LevAt wr (fun b => v.ownBlock = some b ∨ b = w.heap.size) (vs i) (lenAt n i) (node L n i)) ∧
    wr.heap[zb]? = some (.cells (hrow 17 zr) 89 (0, 0)) ∧ wr.heap[w.heap.size]? = some (.cells Tryd.zeroCells89 89 (0, 0)) ∧ Below w.heap.size w wr) (fun _ x _ => d - (intOf x).toNat)
  case atStart => exact ⟨0, fun _ => .slice pp n c, by omega, rfl, ho4, hv4, hZ4, hR4, hb4⟩
  case round =>
    obtain ⟨h, vs, hh, rfl, ho, hv, hZ, hR, hb⟩ := hrel
    obtain ⟨g, cap, rfl, hob, hg1, hg2, hcap, hcells⟩ := own_vl ho (by omega)
    clear ho4 hv4 hb4 hZ4 hR4 hs3
    by_cases hlt : h < d
    · obtain ⟨sp, cc, hvh, hlev⟩ := hv h (Nat.le_refl _)
      have hch := hcells h (by omega)
      rw [hvh] at hch
      obtain ⟨m, hm⟩ : ∃ m, m = lenAt n h := ⟨_, rfl⟩
      have hm16 : m ≤ 65536 := by rw [hm]; exact Nat.le_trans (lenAt_le n h) hn16
      rw [← hm] at hch
      have Hm := Lib.hid hm
      have Hlev := Lib.hid hlev
      have Hv := Lib.hid hv
      have Hvh := Lib.hid hvh
      have Hc := Lib.hid hcells
      have Ho := Lib.hid ho
      have Hb := Lib.hid hb
      have HZ := Lib.hid hZ
      have HR := Lib.hid hR
      have Hob := Lib.hid hob
      clear hm hlev hv hcells ho hb hZ hR hvh hob
      go_wp2_with fail
      obtain ⟨wo, rfl⟩ : ∃ wo : World, wo = wr := ⟨_, rfl⟩
      go_loopw [10, 12] (fun v x wi => ∃ (i k : Nat), i = 2 * k ∧ k ≤ lenAt n (h + 1) ∧ x = .int .i64 i ∧ wi.ownsRow wo.heap.size 27 32 v (firstL (node L n (h + 1)) k).length (dl (firstL (node L n (h + 1)) k)) ∧ Below wo.heap.size wo wi) (fun _ x _ => m + 2 - (intOf x).toNat)
      case atStart => exact ⟨0, 0, rfl, by omega, rfl, World.ownsRow_nil _ _ _ _, Below.refl _ _⟩
      case round =>
        obtain ⟨i, k, hik, hk, rfl, hoi, hbi⟩ := hrel
        obtain ⟨v, rfl⟩ : ∃ v, v = u10 := ⟨_, rfl⟩
        obtain ⟨wi, rfl⟩ : ∃ wi : World, wi = wr := ⟨_, rfl⟩
        by_cases hlt2 : i < m
        · obtain ⟨b, o, rfl, hb1, hb2, hD⟩ := Hlev.out (by rw [← Hm.out]; omega)
          rw [← Hm.out] at hD
          obtain ⟨x, hx⟩ : ∃ x, x = node L n h i := ⟨_, rfl⟩
          obtain ⟨y, hy⟩ : ∃ y, y = node L n h (i + 1) := ⟨_, rfl⟩
          obtain ⟨z, hz⟩ : ∃ z, z = zr h := ⟨_, rfl⟩
          obtain ⟨u, hu⟩ : ∃ u, u = node L n (h + 1) k := ⟨_, rfl⟩
          have hup : u = pr x y := by rw [hu, hx, hy, hik]; rfl
          have hxn : norm x = x := by rw [hx]; exact node_norm HLn.out n h i
          have hyn : norm y = y := by rw [hy]; exact node_norm HLn.out n h (i + 1)
          have hzn : norm z = z := by rw [hz]; exact norm_zr h
          have hwz : w.heap.size < wo.heap.size := lt_row HR.out
          have hzw : zb < wo.heap.size := lt_row HZ.out
          have hat : ∀ w', Below wo.heap.size wo w' → w'.rangeAt b (o + i * 32) (arr 32 (ub x)).toList := fun w' hw' => by rw [hx]; exact (hD.below hw' hb1) i hlt2
          have hat1 : i + 1 < m → ∀ w', Below wo.heap.size wo w' → w'.rangeAt b (o + (i + 1) * 32) (arr 32 (ub y)).toList := fun hlt w' hw' => by rw [hy]; exact (hD.below hw' hb1) (i + 1) hlt
          have hzt : ∀ w' q, q < 17 → Below wo.heap.size wo w' → w'.rangeAt zb (q * 32) (arr 32 (ub (zr q))).toList := fun w' q hq hw' => by rw [Nat.mul_comm]; exact hrow_range (keep_below hw' HZ.out hzw) hq
          have hq15 : ∃ q, wi.rangeAt zb (h * 32) (arr 32 (ub q)).toList ∧ (i + 1 < m ∨ y = q) := by
            refine ⟨z, by rw [hz]; exact hzt wi h (by omega) hbi, ?_⟩
            by_cases hlt3 : i + 1 < m
            · exact .inl hlt3
            · right; rw [hy, hz]; exact node_beyond L n h (i + 1) (by rw [← Hm.out]; omega)
          obtain ⟨q, hz15, hqy⟩ := hq15
          have hbq : ∀ f : Nat → BitVec 8, Below wo.heap.size wo (wi.alloc (.cells (arr 32 (ub f)) 27)) := fun f => hbi.alloc hbi.size _
          have hy17 : i + 1 < m → (wi.alloc (.cells (arr 32 (ub q)) 27)).rangeAt b (o + (i + 1) * 32) (arr 32 (ub y)).toList := fun h => hat1 h _ (hbq q)
          have hb6 := hbq y
          have hb6d := hb6.drew
          have hb6dd := hb6d.drew
          have ht13 : ∀ w', (w' = (wi.alloc (.cells (arr 32 (ub y)) 27)).drew ∨ w' = (wi.alloc (.cells (arr 32 (ub y)) 27)).drew.drew) → w'.rangeAt wi.heap.size 0 (arr 32 (ub y)).toList := fun w' h => by
            rcases h with rfl | rfl
            · exact range_of_row (show (wi.alloc (.cells (arr 32 (ub y)) 27)).drew.heap[wi.heap.size]? = some (.cells (arr 32 (ub y)) 27 (0, 0)) from at_alloc _ rfl)
            · exact range_of_row (show (wi.alloc (.cells (arr 32 (ub y)) 27)).drew.drew.heap[wi.heap.size]? = some (.cells (arr 32 (ub y)) 27 (0, 0)) from at_alloc _ rfl)
          have hs1 : ∀ w, (sizeOf 5).run Tryd.prog w = .ok 1 w := fun w => by kernel_rfl
          have heqT : ∀ (f g : Dg), f = g → ∀ w, (binOp .eql 27 (.agg (arr 32 (ub f))) (.agg (arr 32 (ub g)))).run Tryd.prog w = .ok (.bool true) w := fun f g h w =>
            run_eql_ub w 27 5 32 Tryd.underlying27 (by kernel_rfl) hs1 f g true ⟨fun _ i _ => by rw [h], fun _ => rfl⟩
          have heqF : ∀ (f g : Dg), norm f = f → norm g = g → f ≠ g → ∀ w, (binOp .eql 27 (.agg (arr 32 (ub f))) (.agg (arr 32 (ub g)))).run Tryd.prog w = .ok (.bool false) w := fun f g hf hg h w =>
            run_eql_ub w 27 5 32 Tryd.underlying27 (by kernel_rfl) hs1 f g false ⟨(fun h => by cases h), (fun h' => absurd (eq_of_norm hf hg h') h)⟩
          have hcase : ((∀ w, (binOp .eql 27 (.agg (arr 32 (ub x))) (.agg (arr 32 (ub z)))).run Tryd.prog w = .ok (.bool false) w) ∧ True) ∨
              ((∀ w, (binOp .eql 27 (.agg (arr 32 (ub x))) (.agg (arr 32 (ub z)))).run Tryd.prog w = .ok (.bool true) w) ∧ (∀ w, (binOp .eql 27 (.agg (arr 32 (ub y))) (.agg (arr 32 (ub z)))).run Tryd.prog w = .ok (.bool false) w)) ∨
              ((∀ w, (binOp .eql 27 (.agg (arr 32 (ub x))) (.agg (arr 32 (ub z)))).run Tryd.prog w = .ok (.bool true) w) ∧ (∀ w, (binOp .eql 27 (.agg (arr 32 (ub y))) (.agg (arr 32 (ub z)))).run Tryd.prog w = .ok (.bool true) w) ∧ u = zr (h + 1)) := by
            by_cases c1 : x = z
            · by_cases c2 : y = z
              · exact .inr (.inr ⟨heqT x z c1, heqT y z c2, by rw [hup, c1, c2, hz]; rfl⟩)
              · exact .inr (.inl ⟨heqT x z c1, heqF y z hyn hzn c2⟩)
            · exact .inl ⟨heqF x z hxn hzn c1, trivial⟩
          have hnx : firstL (node L n (h + 1)) (k + 1) = firstL (node L n (h + 1)) k ++ [u] := by rw [hu]; exact firstL_succ _ k
          have Hpair := Lib.hid (show ∀ w, Tabs w → Calls Tryd.prog 17 #[.agg (arr 32 (ub x)), .agg (arr 32 (ub y))] w fun e w' => e = .returned (.agg (arr 32 (ub u))) ∧ Below w.heap.size w w' from fun w hw => by
            have := kecpair_any x y w hw
            rw [arr_pr] at this
            rw [hup]; exact this)
          have hTd := HT.out.below (Hb.out.trans (hb6dd.mono Hb.out.size)) HT.out.2.2.2
          have hlim : (firstL (node L n (h + 1)) k).length + [u].length ≤ 4398046511104 := by rw [firstL_length]; have := lenAt_le n (h + 1); simp; omega
          have hu2 : u = zr (h + 1) → ∀ w', Below wo.heap.size wo w' → w'.rangeAt zb ((h + 1) * 32) (arr 32 (ub u)).toList := fun e w' hw' => by rw [e]; exact hzt w' (h + 1) (by omega) hw'
          have hzt1 : ∀ w', Below wo.heap.size wo w' → w'.rangeAt zb (h * 32) (arr 32 (ub z)).toList := fun w' hw' => by rw [hz]; exact hzt w' h (by omega) hw'
          have hk1 : k + 1 ≤ lenAt n (h + 1) := by have := Hm.out; unfold lenAt; omega
          have Hnx := Lib.hid hnx
          have Hoi := Lib.hid hoi
          have Hbi := Lib.hid hbi
          have Hat := Lib.hid hat
          have Hzt1 := Lib.hid hzt1
          have Ht13 := Lib.hid ht13
          have Hu2 := Lib.hid hu2
          have Hik := Lib.hid hik
          clear heqT heqF hnx hoi hbi hat hat1 hzt hzt1 ht13 hu2 hup hu hx hy hz hxn hyn hzn hs1 hD hbq hik
          have keep6 : Hid (Below wi.heap.size wi (wi.alloc (.cells (arr 32 (ub y)) 27)).drew) := Lib.hid (((Below.refl _ _).alloc (Nat.le_refl _) _).drew)
          go_upto_if 55 with (first
            | (guard_target = wpList _ _ _ (⟨_, Op.load _ (.tmp 49), _, _, _, _⟩ :: _) _ _; refine wpList_load_arr rfl 27 (.tmp 49) rfl zb (h * 32) rfl _ _ hz15 Tryd.underlying27 rfl (infH' _) ?_; clear hz15)
            | (guard_target = wpList _ _ _ (⟨_, Op.store _ (.tmp 13) (.tmp 50), _, _, _, _⟩ :: _) _ _; refine wpList_store_new rfl 27 (.tmp 13) (.tmp 50) rfl wi.heap.size _ (arr 32 (ub q)) 27 rfl rfl rfl (z32_size _) (infH _) (bytes_one 32 _) ?_))
          go_cut [13] (fun s wx => s = .pointer (some ⟨wi.heap.size, 0, none⟩) ∧ wx = (wi.alloc (.cells (arr 32 (ub y)) 27)))
          case first =>
            by_cases hlt3 : i + 1 < m
            · have hy17' := hy17 hlt3
              clear hy17 hqy
              go_wp2_with (first
                | (guard_target = wpList _ _ _ (⟨_, Op.load _ (.tmp 59), _, _, _, _⟩ :: _) _ _; refine wpList_load_arr rfl 27 (.tmp 59) rfl b (o + (i + 1) * 32) rfl (arr 32 (ub y)) _ hy17' Tryd.underlying27 rfl (infH' _) ?_; clear hy17')
                | (guard_target = wpList _ _ _ (⟨_, Op.store _ (.tmp 13) (.tmp 60), _, _, _, _⟩ :: _) _ _; refine wpList_store_new rfl 27 (.tmp 13) (.tmp 60) rfl wi.heap.size _ (arr 32 (ub y)) 27 rfl rfl rfl (by rw [arr_size, arr_size]) (infH _) (bytes_one 32 _) ?_))
              (try simp only [Act.put, List.setIfInBounds_toArray, List.set_cons_succ, List.set_cons_zero])
              go_meet
              exact ⟨rfl, rfl⟩
            · have e := hqy.resolve_left hlt3
              subst e
              clear hy17
              go_wp2_with fail
              go_meet
              exact ⟨rfl, rfl⟩
          case rest =>
            obtain ⟨rfl, rfl⟩ := hcut
            clear hy17 hqy
            rcases hcase with ⟨heq1, heq2⟩ | ⟨heq1, heq2⟩ | ⟨heq1, heq2, heu⟩
            · as_aux_lemma =>
              go_wp2_with (first
                | (guard_target = Code.wp _ (Code.region 18 _ _) _ _ _; (refine MtOrd.wp_region_ord_lit (id := 18) [(0, .head), (1, .head), (2, .head), (3, .head), (4, .head), (5, .head), (6, .head), (7, .head), (8, .head), (9, .head), (10, .head), (11, .head), (12, .head), (13, .head), (14, .loud)] (by kernel_rfl) (by kernel_rfl) (by intro c a d v w h; cases d <;> exact h) ?_))
                | (guard_target = Code.wp _ (Code.region 20 _ _) _ _ _; (refine MtOrd.wp_region_ord_lit (id := 20) [(1, .head), (2, .head), (3, .head), (4, .head), (5, .head), (0, .free), (6, .loud), (7, .loud), (8, .loud), (9, .head)] (by kernel_rfl) (by kernel_rfl) (by intro c a d v w h; cases d <;> exact h) ?_))
                | (guard_target = MtOrd.Ord _ _ _ _ ((7, _) :: _) _ _; refine ord_build1H (i := 7) rfl rfl (.tmp 89) rfl u rfl w7.heap.size rfl trivial ?_)
                | (guard_target = MtOrd.Ord _ _ _ _ ((8, _) :: _) _ _; refine ord_appendH (i := 8) rfl rfl (.tmp 83) (.tmp 90) rfl wo.heap.size v (firstL (node L n (h + 1)) k) [u] rfl ho8 ⟨w7.heap.size, 0, none⟩ 1 rfl (src_one (src_new w7 u _)) hlim hs8 ?_; intro v' w9 hv9 hk9 hat9; rw [← Hnx.out] at hv9; have hb9 : Below wo.heap.size wo w9 := hb8.trans (hk9.below hs8 (fun q hq h => by have := ho8.lt q h; omega)); clear ho8 hb8 hs8 hk9 hat9; refine ⟨trivial, ?_⟩)
                | (guard_target = MtOrd.Ord _ _ _ _ _ _ _; first | (refine MtOrd.ord_nil ?_) | (refine MtOrd.ord_head rfl rfl ?_; intro K hK; first | ((first | (refine quiet_load_arr 27 (.tmp 63) rfl b (o + i * 32) rfl (arr 32 (ub x)) _ (fun w' h => Hat.out w' (by subst h; assumption)) Tryd.underlying27 rfl (infH' _) ?_) | (refine quiet_load_arr 27 (.tmp 66) rfl zb (h * 32) rfl (arr 32 (ub z)) _ (fun w' h => Hzt1.out w' (by subst h; assumption)) Tryd.underlying27 rfl (infH' _) ?_) | (refine quiet_load_arr 27 (.tmp 13) rfl wi.heap.size 0 rfl (arr 32 (ub y)) _ (fun w' h => Ht13.out w' (by first | exact .inl h | exact .inr h)) Tryd.underlying27 rfl (infH' _) ?_) | (refine quiet_load_arr 27 (.tmp 72) rfl zb (h * 32) rfl (arr 32 (ub z)) _ (fun w' h => Hzt1.out w' (by subst h; assumption)) Tryd.underlying27 rfl (infH' _) ?_) | (refine quiet_load_arr 27 (.tmp 86) rfl b (o + i * 32) rfl (arr 32 (ub x)) _ (fun w' h => Hat.out w' (by subst h; assumption)) Tryd.underlying27 rfl (infH' _) ?_)); refine hK _ ?_; clear hK K) | (go_big_quiet_op; first | (refine hK _ ?_; clear hK K) | (apply Exists.intro; refine ⟨?_, ?_⟩; (fail); refine hK _ ?_; clear hK K))) | (refine MtOrd.ord_free rfl rfl ?_; intro K hK; go_big_quiet_op; (refine hK _ ?_; clear hK K)) | (refine MtOrd.ord_skip rfl rfl ?_) | (refine MtOrd.ord_loud0 rfl rfl ?_; intro K hK))
                | (go_at_call 17; refine (Hpair.out (wi.alloc (.cells (arr 32 (ub y)) 27)).drew.drew hTd).mono ?_; rintro e w7 ⟨rfl, hb7⟩; have hb7' : Below wo.heap.size wo w7 := hb6dd.trans (hb7.mono hb6dd.size); have ho8 := (own_below Hoi.out (keep6.out.drew.trans (hb7.mono (by simp))) (Nat.le_refl _)).alloc (.cells (arr 32 (ub u)) 27); have hb8 := hb7'.alloc hb7'.size (.cells (arr 32 (ub u)) 27); have hs8 := hb8.size; clear hb7 hb7'; refine hK _ _ ?_; clear hK K))
              exact ⟨⟨i + 2, k + 1, by have := Hik.out; omega, hk1, by go_num, hv9, hb9⟩, by simp [intOf]; omega⟩
            · as_aux_lemma =>
              go_wp2_with (first
                | (guard_target = Code.wp _ (Code.region 18 _ _) _ _ _; (refine MtOrd.wp_region_ord_lit (id := 18) [(0, .head), (1, .head), (2, .head), (3, .head), (4, .head), (5, .head), (6, .head), (7, .head), (8, .head), (9, .head), (10, .head), (11, .head), (12, .head), (13, .head), (14, .loud)] (by kernel_rfl) (by kernel_rfl) (by intro c a d v w h; cases d <;> exact h) ?_))
                | (guard_target = Code.wp _ (Code.region 20 _ _) _ _ _; (refine MtOrd.wp_region_ord_lit (id := 20) [(1, .head), (2, .head), (3, .head), (4, .head), (5, .head), (0, .free), (6, .loud), (7, .loud), (8, .loud), (9, .head)] (by kernel_rfl) (by kernel_rfl) (by intro c a d v w h; cases d <;> exact h) ?_))
                | (guard_target = MtOrd.Ord _ _ _ _ ((7, _) :: _) _ _; refine ord_build1H (i := 7) rfl rfl (.tmp 89) rfl u rfl w7.heap.size rfl trivial ?_)
                | (guard_target = MtOrd.Ord _ _ _ _ ((8, _) :: _) _ _; refine ord_appendH (i := 8) rfl rfl (.tmp 83) (.tmp 90) rfl wo.heap.size v (firstL (node L n (h + 1)) k) [u] rfl ho8 ⟨w7.heap.size, 0, none⟩ 1 rfl (src_one (src_new w7 u _)) hlim hs8 ?_; intro v' w9 hv9 hk9 hat9; rw [← Hnx.out] at hv9; have hb9 : Below wo.heap.size wo w9 := hb8.trans (hk9.below hs8 (fun q hq h => by have := ho8.lt q h; omega)); clear ho8 hb8 hs8 hk9 hat9; refine ⟨trivial, ?_⟩)
                | (guard_target = MtOrd.Ord _ _ _ _ _ _ _; first | (refine MtOrd.ord_nil ?_) | (refine MtOrd.ord_head rfl rfl ?_; intro K hK; first | ((first | (refine quiet_load_arr 27 (.tmp 63) rfl b (o + i * 32) rfl (arr 32 (ub x)) _ (fun w' h => Hat.out w' (by subst h; assumption)) Tryd.underlying27 rfl (infH' _) ?_) | (refine quiet_load_arr 27 (.tmp 66) rfl zb (h * 32) rfl (arr 32 (ub z)) _ (fun w' h => Hzt1.out w' (by subst h; assumption)) Tryd.underlying27 rfl (infH' _) ?_) | (refine quiet_load_arr 27 (.tmp 13) rfl wi.heap.size 0 rfl (arr 32 (ub y)) _ (fun w' h => Ht13.out w' (by first | exact .inl h | exact .inr h)) Tryd.underlying27 rfl (infH' _) ?_) | (refine quiet_load_arr 27 (.tmp 72) rfl zb (h * 32) rfl (arr 32 (ub z)) _ (fun w' h => Hzt1.out w' (by subst h; assumption)) Tryd.underlying27 rfl (infH' _) ?_) | (refine quiet_load_arr 27 (.tmp 86) rfl b (o + i * 32) rfl (arr 32 (ub x)) _ (fun w' h => Hat.out w' (by subst h; assumption)) Tryd.underlying27 rfl (infH' _) ?_)); refine hK _ ?_; clear hK K) | (go_big_quiet_op; first | (refine hK _ ?_; clear hK K) | (apply Exists.intro; refine ⟨?_, ?_⟩; (fail); refine hK _ ?_; clear hK K))) | (refine MtOrd.ord_free rfl rfl ?_; intro K hK; go_big_quiet_op; (refine hK _ ?_; clear hK K)) | (refine MtOrd.ord_skip rfl rfl ?_) | (refine MtOrd.ord_loud0 rfl rfl ?_; intro K hK))
                | (go_at_call 17; refine (Hpair.out (wi.alloc (.cells (arr 32 (ub y)) 27)).drew.drew hTd).mono ?_; rintro e w7 ⟨rfl, hb7⟩; have hb7' : Below wo.heap.size wo w7 := hb6dd.trans (hb7.mono hb6dd.size); have ho8 := (own_below Hoi.out (keep6.out.drew.trans (hb7.mono (by simp))) (Nat.le_refl _)).alloc (.cells (arr 32 (ub u)) 27); have hb8 := hb7'.alloc hb7'.size (.cells (arr 32 (ub u)) 27); have hs8 := hb8.size; clear hb7 hb7'; refine hK _ _ ?_; clear hK K))
              exact ⟨⟨i + 2, k + 1, by have := Hik.out; omega, hk1, by go_num, hv9, hb9⟩, by simp [intOf]; omega⟩
            · as_aux_lemma =>
              go_wp2_with (first
                | (guard_target = Code.wp _ (Code.region 18 _ _) _ _ _; (refine MtOrd.wp_region_ord_lit (id := 18) [(0, .head), (1, .head), (2, .head), (3, .head), (4, .head), (5, .head), (6, .head), (7, .head), (8, .head), (9, .head), (10, .head), (11, .head), (12, .head), (13, .head), (14, .loud)] (by kernel_rfl) (by kernel_rfl) (by intro c a d v w h; cases d <;> exact h) ?_))
                | (guard_target = wpList _ _ _ (⟨_, Op.load _ (.tmp 79), _, _, _, _⟩ :: _) _ _; refine wpList_load_arr rfl 27 (.tmp 79) rfl zb ((h + 1) * 32) rfl (arr 32 (ub u)) _ (Hu2.out heu _ hb6d) Tryd.underlying27 rfl (infH' _) ?_)
                | (guard_target = wpList _ _ _ (⟨_, Op.buildSlice _ _ _, _, _, _, _⟩ :: _) _ _; refine build1H rfl (.tmp 80) rfl u rfl (wi.heap.size + 1) (by simp) ?_; have ho7 := (own_below Hoi.out (keep6.out) (Nat.le_refl _)).alloc (.cells (arr 32 (ub u)) 27); have hb7 := hb6d.alloc (Nat.le_trans hb6d.size (by simp)) (.cells (arr 32 (ub u)) 27); have hs7 := hb7.size; have hsc7 := src_one (src_new (wi.alloc (.cells (arr 32 (ub y)) 27)).drew u 27); rw [show (wi.alloc (.cells (arr 32 (ub y)) 27)).drew.heap.size = wi.heap.size + 1 by simp] at hsc7)
                | (at_builtin; refine appendHs rfl (.tmp 76) (.tmp 81) rfl wo.heap.size v (firstL (node L n (h + 1)) k) [u] rfl ho7 ⟨wi.heap.size + 1, 0, none⟩ 1 rfl hsc7 hlim hs7 ?_; intro v' w9 hv9 hk9 hat9; rw [← Hnx.out] at hv9; have hb9 : Below wo.heap.size wo w9 := hb7.trans (hk9.below hs7 (fun q hq h => by have := ho7.lt q h; omega)); clear ho7 hb7 hs7 hsc7 hk9 hat9)
                | (guard_target = MtOrd.Ord _ _ _ _ _ _ _; first | (refine MtOrd.ord_nil ?_) | (refine MtOrd.ord_head rfl rfl ?_; intro K hK; first | ((first | (refine quiet_load_arr 27 (.tmp 63) rfl b (o + i * 32) rfl (arr 32 (ub x)) _ (fun w' h => Hat.out w' (by subst h; assumption)) Tryd.underlying27 rfl (infH' _) ?_) | (refine quiet_load_arr 27 (.tmp 66) rfl zb (h * 32) rfl (arr 32 (ub z)) _ (fun w' h => Hzt1.out w' (by subst h; assumption)) Tryd.underlying27 rfl (infH' _) ?_) | (refine quiet_load_arr 27 (.tmp 13) rfl wi.heap.size 0 rfl (arr 32 (ub y)) _ (fun w' h => Ht13.out w' (by first | exact .inl h | exact .inr h)) Tryd.underlying27 rfl (infH' _) ?_) | (refine quiet_load_arr 27 (.tmp 72) rfl zb (h * 32) rfl (arr 32 (ub z)) _ (fun w' h => Hzt1.out w' (by subst h; assumption)) Tryd.underlying27 rfl (infH' _) ?_) | (refine quiet_load_arr 27 (.tmp 86) rfl b (o + i * 32) rfl (arr 32 (ub x)) _ (fun w' h => Hat.out w' (by subst h; assumption)) Tryd.underlying27 rfl (infH' _) ?_)); refine hK _ ?_; clear hK K) | (go_big_quiet_op; first | (refine hK _ ?_; clear hK K) | (apply Exists.intro; refine ⟨?_, ?_⟩; (fail); refine hK _ ?_; clear hK K))) | (refine MtOrd.ord_free rfl rfl ?_; intro K hK; go_big_quiet_op; (refine hK _ ?_; clear hK K)) | (refine MtOrd.ord_skip rfl rfl ?_) | (refine MtOrd.ord_loud0 rfl rfl ?_; intro K hK)))
              exact ⟨⟨i + 2, k + 1, by have := Hik.out; omega, hk1, by go_num, hv9, hb9⟩, by simp [intOf]; omega⟩
        · obtain rfl : k = lenAt n (h + 1) := by have := Hm.out; unfold lenAt at hk ⊢; omega
          have hvi : ∀ j, j ≤ h → LevAt wi (fun b => (Value.slice (some ⟨g, 0, none⟩) (h + 1) cap).ownBlock = some b ∨ b = w.heap.size) (vs j) (lenAt n j) (node L n j) := fun j hj => (Hv.out j hj).below hbi fun _ _ h => h
          have hwo : w.heap.size ≤ wo.heap.size := Hb.out.size
          have hwz : w.heap.size < wo.heap.size := lt_row HR.out
          rw [firstL_length] at hoi
          have hnew : LevAt wi (fun b => (Value.slice (some ⟨g, 0, none⟩) (h + 1) cap).ownBlock = some b ∨ b = w.heap.size) v (lenAt n (h + 1)) (node L n (h + 1)) := LevAt.own hoi fun b hb h => by
            rcases h with h | h
            · simp [Value.ownBlock] at h; omega
            · omega
          have hnew' := hnew
          obtain ⟨sp1, c1, hv1, -⟩ := hnew'
          subst hv1
          have hbd2 := hbd1 wi sp1 (lenAt n (h + 1)) c1
          have ho9 : (wi.alloc (.cells #[.slice sp1 (lenAt n (h + 1)) c1] 50)).ownsRow (zb + 1) 50 1 (.slice (some ⟨g, 0, none⟩) (h + 1) cap) (h + 1) (vl vs (h + 1)) := (own_below Ho.out hbi (Nat.le_refl _)).alloc _
          have hb9 : Below w.heap.size w (wi.alloc (.cells #[.slice sp1 (lenAt n (h + 1)) c1] 50)) := (Hb.out.trans (hbi.mono hwo)).alloc (Nat.le_trans hwo hbi.size) _
          have hs9 : zb + 1 ≤ (wi.alloc (.cells #[.slice sp1 (lenAt n (h + 1)) c1] 50)).heap.size := by have := lt_row HZ.out; have := hbi.size; simp; omega
          have hsc9 : ∀ j u, [Value.slice sp1 (lenAt n (h + 1)) c1][j]? = some u → (wi.alloc (.cells #[.slice sp1 (lenAt n (h + 1)) c1] 50)).cell? ((⟨wi.heap.size, 0, none⟩ : Addr).add j) = some u := fun j u hu => by
            have hj : j = 0 := by have := (List.getElem?_eq_some_iff.1 hu).1; simp at this; exact this
            subst hj
            rw [Addr.add_mid, cell_of_row _ wi.heap.size _ _ _ (0, 0) (at_alloc _ rfl)]
            simpa using hu
          have hZ9 := keep_alloc (keep_below hbi HZ.out (lt_row HZ.out)) (.cells #[.slice sp1 (lenAt n (h + 1)) c1] 50 (0, 0))
          have hR9 := keep_alloc (keep_below hbi HR.out hwz) (.cells #[.slice sp1 (lenAt n (h + 1)) c1] 50 (0, 0))
          obtain ⟨q, hq⟩ : ∃ q, q = lenAt n (h + 1) := ⟨_, rfl⟩
          rw [← hq] at hbd2 ho9 hb9 hs9 hsc9 hZ9 hR9 hnew ⊢
          have Hq := Lib.hid hq
          have Hvi := Lib.hid hvi
          have Hnew := Lib.hid hnew
          have Hoi := Lib.hid hoi
          have Hbi := Lib.hid hbi
          have Hb9 := Lib.hid hb9
          have Hsc9 := Lib.hid hsc9
          have HZ9 := Lib.hid hZ9
          have HR9 := Lib.hid hR9
          clear hq hvi hnew hoi hbi hb9 hsc9 hbd1 hZ9 hR9
          have hhd : h ≤ 16 := by omega
          go_wp2_with (first
            | (at_builtin; refine wpList_append_own_at _ rfl (.tmp 92) (.tmp 94) 88 rfl (zb + 1) 50 Tryd.t50 (.slice none 0 0) 1 24 Tryd.underlying88 (by kernel_rfl) (by kernel_rfl) (by kernel_rfl) (by kernel_rfl) (by kernel_rfl) (by decide) (.slice (some ⟨g, 0, none⟩) (h + 1) cap) (h + 1) (vl vs (h + 1)) rfl ho9 ⟨wi.heap.size, 0, none⟩ 1 1 [.slice sp1 q c1] rfl rfl Hsc9.out (by intro u hu; simp at hu; subst hu; rfl) (by have : maxLen = 9223372036854775807 := rfl; omega) (by omega) hs9 ?_; intro v' w8 hv8 hk8 _ hat8; rw [vl_push] at hv8; have Hv8 := Lib.hid hv8; have Hk8 := Lib.hid hk8; have Hat8 := Lib.hid hat8; clear hv8 hk8 hat8))
          have hgw : g < wi.heap.size := Nat.lt_of_lt_of_le hg2 Hbi.out.size
          have hkk : Keeps (· = g) (wi.alloc (.cells #[.slice sp1 q c1] 50)) w8 := keeps_only Hk8.out fun b hb => by simp [Value.ownBlock] at hb; exact hb.symm
          have hT8 : ∀ b, b < wi.heap.size → ¬ ((Value.slice (some ⟨g, 0, none⟩) (h + 1) cap).ownBlock = some b ∨ b = w.heap.size) → ¬ (v'.ownBlock = some b ∨ b = w.heap.size) := fun b hb hn hc => hn (by
            rcases hc with hc | hc
            · rcases Hat8.out with e | e
              · rw [← e]; exact .inl hc
              · rw [e] at hc; simp at hc; omega
            · exact .inr hc)
          have hlv : ∀ (vv : Value) (nn : Nat) (FF : Nat → Dg), LevAt wi (fun b => (Value.slice (some ⟨g, 0, none⟩) (h + 1) cap).ownBlock = some b ∨ b = w.heap.size) vv nn FF → LevAt w8 (fun b => v'.ownBlock = some b ∨ b = w.heap.size) vv nn FF := fun vv nn FF hl =>
            (hl.below (T := fun b => ((Value.slice (some ⟨g, 0, none⟩) (h + 1) cap).ownBlock = some b ∨ b = w.heap.size) ∨ wi.heap.size ≤ b) ((Below.refl _ _).alloc (Nat.le_refl _) _) (fun b hb h1 h2 => by rcases h2 with h2 | h2; exact h1 h2; omega)).keeps hkk fun b _ hn => ⟨fun h => hn (.inl (.inl (by rw [h]; rfl))), hT8 b (by
              refine Classical.byContradiction fun h => hn (.inr (by omega))) fun h => hn (.inl h)⟩
          refine ⟨⟨h + 1, _, by omega, by go_num, Hv8.out, fun j hj => ?_, ?_, ?_, ?_⟩, by simp [intOf]; omega⟩
          · by_cases hjh : j = h + 1
            · subst hjh
              rw [if_pos rfl, ← Hq.out]
              have := hlv _ _ _ Hnew.out
              exact this
            · rw [if_neg hjh]
              exact hlv _ _ _ (Hvi.out j (by omega))
          · exact (hkk.block zb (by have := lt_row HZ9.out; exact this) (by omega)).trans HZ9.out
          · exact (hkk.block w.heap.size (lt_row HR9.out) (by omega)).trans HR9.out
          · exact Hb9.out.trans (hkk.below Hb9.out.size (fun k hk h => by omega))
    · obtain rfl : h = d := by omega
      have hRd : wr.drew.heap[w.heap.size]? = some (.cells Tryd.zeroCells89 89 (0, 0)) := hR
      have hZd : wr.drew.heap[zb]? = some (.cells (hrow 17 zr) 89 (0, 0)) := hZ
      have hrgZ : ∀ w', w' = wr.drew → w'.rangeAt zb 0 (hrow 17 zr).toList := fun w' hw' => by rw [hw']; exact range_of_row hZd
      have hth : wr.drew.there w.heap.size 0 (hrow 17 zr).size := there_row hRd (by rw [zc_size zr]; exact Nat.le_refl _)
      have Hv := Lib.hid hv
      have Hc := Lib.hid hcells
      have Ho := Lib.hid ho
      have Hb := Lib.hid hb
      have HRd := Lib.hid hRd
      clear hv hcells ho hb hRd hZd hR hZ
      go_wp2_with (first
        | (guard_target = Code.wp _ (Code.region 23 _ _) _ _ _; (refine MtOrd.wp_region_ord_lit (id := 23) [(0, .head), (1, .head), (2, .head), (3, .loud), (4, .head)] (by kernel_rfl) (by kernel_rfl) (by intro c a d v w h; cases d <;> exact h) ?_))
        | (guard_target = MtOrd.Ord _ _ _ _ ((3, _) :: _) _ _; refine ord_store (i := 3) rfl rfl 89 (.tmp 5) (.tmp 98) rfl w.heap.size 0 (hrow 17 zr) rfl rfl hth (infZ _) (hrow_one 17 _) ?_; clear hrgZ hth; have hR5 := setCells_all HRd.out (hrow 17 zr) (zc_size zr); have hk5 := only_setCells (g := w.heap.size) (hrow 17 zr).toList 0 wr.drew (only_refl wr.drew _); generalize wr.drew.setCells w.heap.size 0 (hrow 17 zr).toList = w5 at hR5 hk5 ⊢)
        | (guard_target = MtOrd.Ord _ _ _ _ _ _ _; first | (refine MtOrd.ord_nil ?_) | (refine MtOrd.ord_head rfl rfl ?_; intro K hK; first | ((refine quiet_load_arr 89 (.tmp 7) rfl zb 0 rfl (hrow 17 zr) _ hrgZ Tryd.underlying89 rfl (by rw [Array.length_toList]; exact infZ _) ?_); refine hK _ ?_; clear hK K) | (go_big_quiet_op; first | (refine hK _ ?_; clear hK K) | (apply Exists.intro; refine ⟨?_, ?_⟩; (fail); refine hK _ ?_; clear hK K))) | (refine MtOrd.ord_free rfl rfl ?_; intro K hK; go_big_quiet_op; (refine hK _ ?_; clear hK K)) | (refine MtOrd.ord_skip rfl rfl ?_) | (refine MtOrd.ord_loud0 rfl rfl ?_; intro K hK)))
      have hk6 : Keeps (· = w.heap.size) wr w5 := Keeps.trans (Keeps.refl _ _).drew (keeps_only hk5 fun k h => by cases h; rfl) (fun _ _ h => h)
      refine bodyPost_ret (results_tmp_row_tmp (s := 4) (p := 5) (u := 6) (ty := 89) rfl _ _ w.heap.size 89 _ (0, 0) _ rfl hR5 Tryd.underlying89 rfl (infZ _)) rfl ⟨g, cap, vs, rfl, Nat.lt_of_lt_of_le hg2 hk6.size, fun i hi => ?_, fun i hi => ?_, Hb.out.trans ((hk6.below (B := w.heap.size) Hb.out.size (fun k hk h => by omega)))⟩
      · rw [World.cell?_of_block (a := ⟨g, i, none⟩) (hk6.block g hg2 (by omega))]; exact Hc.out i (by omega)
      · exact (Hv.out i hi).keeps hk6 fun b _ hb' => ⟨fun h => hb' (.inr h), fun h => hb' (.inl (by rw [h]; rfl))⟩
end Go.Proofs.YtikkebjhnechdaaDoor
