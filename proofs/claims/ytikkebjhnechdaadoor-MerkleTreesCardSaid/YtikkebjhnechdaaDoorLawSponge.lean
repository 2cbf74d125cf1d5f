/- Walk: mootlaw02.KeccakSponge. -/
import Derived.Test.YtikkebjhnechdaaDoorKecFixed
import Derived.Test.YtikkebjhnechdaaDoorMtPad
import Derived.Test.YtikkebjhnechdaaDoorMtEq
import Derived.Test.YtikkebjhnechdaaDoorMtOrdD
namespace Go.Mt
theorem bl_one1 (x : Int) (b : BitVec 8) (h : B b = x) : (#[Value.int .u8 x] : Array Value).toList = bl [b] := by subst h; rfl
def lenV : Value → Nat
  | .slice _ n _ => n
  | _ => 0
end Go.Mt
namespace Go.Proofs.YtikkebjhnechdaaDoor
open Go.RowKit Go.Mt

set_option maxRecDepth 100000 in
set_option maxHeartbeats 2000000 in
theorem sponge_law (sp : Option Addr) (n c : Nat) (bs : List (BitVec 8)) (w : World) (hT : Tabs w) (hn : bs.length = n) (hsrc : Src w sp bs) (hsb : ∀ a, sp = some a → 0 < bs.length → a.block < w.heap.size) (hnil : sp = none → c = 0) (hlim : n ≤ 140737488351232) :
    Calls Tryd.prog 3 #[.slice sp n c] w fun e w' => e = .returned (.bool true) ∧ Below w.heap.size w w' := by
  subst hn
  have hsb' : ∀ a, sp = some a → 0 < bs.length → a.block < w.heap.size := hsb
  have hb0 : Below w.heap.size w (w.alloc (.cells #[] 5)) := (Below.refl _ _).alloc (Nat.le_refl _) _
  have hsrc0 := hsrc.keepL hb0 hsb
  have ho0 : (w.alloc (.cells #[] 5)).ownsRow w.heap.size 5 1 (.slice (some ⟨w.heap.size, 0, none⟩) 0 0) 0 (bl []) := World.ownsRow_lit w #[] 0 (Nat.le_refl _) (by decide) rfl
  have HT := Lib.hid hT
  have Hsrc := Lib.hid hsrc
  have Hsb := Lib.hid hsb'
  have Hnil := Lib.hid hnil
  clear hT hsrc hsb hsb' hnil
  go_enter Tryd.func3, Tryd.ntmps3
  go_wp2_with (first
    | (at_builtin; (refine wpList_append_bytes rfl (.tmp 10) (.tmp 11) 22 rfl w.heap.size 5 Tryd.t5 Tryd.underlying22 (by kernel_rfl) (by kernel_rfl) (by kernel_rfl) (by kernel_rfl) _ [] rfl ho0 sp c bs rfl hsrc0 Hnil.out (by simp; omega) (by simp) ?_; intro v1 w1 hv1 hk1 hat1; rw [List.nil_append] at hv1; have hb1 := hb0.trans (hk1.below (by simp) (fun k hk h => by cases h; exact absurd hk (Nat.lt_irrefl _))); have hs1 := hb1.size; have hv1a := hv1.alloc (.cells #[.int .u8 1] 5); have hs1x : Src (w1.alloc (.cells #[.int .u8 1] 5)) (some ⟨w1.heap.size, 0, none⟩) [1#8] := (fun _ => ⟨_, rfl, (World.ownsRow_lit (e := 5) (size := 1) w1 #[.int .u8 1] 1 (Nat.le_refl _) (by decide) rfl).cells rfl⟩); have hb1a := hb1.alloc hs1 (.cells #[.int .u8 1] 5); clear ho0 hsrc0 hb0))
    | (at_builtin; (refine wpList_append_bytes rfl (.tmp 12) (.tmp 13) 22 rfl w.heap.size 5 Tryd.t5 Tryd.underlying22 (by kernel_rfl) (by kernel_rfl) (by kernel_rfl) (by kernel_rfl) v1 bs rfl hv1a (some ⟨w1.heap.size, 0, none⟩) 1 [1#8] rfl hs1x (fun h => by cases h) (by simp; omega) (by simp; omega) ?_; intro v2 w2 hv2 hk2 hat2; have hb2 := hb1a.trans (hk2.below (by simp; omega) (fun k hk h => by have := (hv1.lt k h).1; omega)); clear hv1a hs1x hb1a hk1 hk2 hat1 hat2 hv1)))
  have hv2l : (bs ++ [1#8]).length = bs.length + 1 := by simp
  go_loopw [3] (fun v wr => ∃ (k cv : Nat) (ao : Option Addr), k ≤ 135 - bs.length % 136 ∧ v = .slice ao (bs.length + 1 + k) cv ∧ wr.ownsRow w.heap.size 5 1 v (bs.length + 1 + k) (bl (bs ++ [1#8] ++ List.replicate k 0#8)) ∧ Below w.heap.size w wr) (fun v _ => 135 - bs.length % 136 - (lenV v - (bs.length + 1)))
  case atStart =>
    obtain ⟨ao, cv, rfl, _⟩ := src_own hv2
    exact ⟨0, cv, ao, by omega, by rw [hv2l], by rw [← hv2l]; simpa using hv2, hb2⟩
  case round =>
    obtain ⟨k, cv, ao, hk, rfl, ho, hb⟩ := hrel
    clear hv2 hv2l hb2 hb1 hs1
    have hs := hb.size
    have Hb := Lib.hid hb
    clear hb
    have hlen : (bs ++ [1#8] ++ List.replicate k 0#8).length = bs.length + 1 + k := by simp; omega
    by_cases hk2 : k < 135 - bs.length % 136
    · have hm : (bs.length + 1 + k) % 136 ≠ 0 := by omega
      have hoa := ho.alloc (.cells #[.int .u8 0] 5)
      have hs1x : Src (wr.alloc (.cells #[.int .u8 0] 5)) (some ⟨wr.heap.size, 0, none⟩) [0#8] := fun _ => ⟨_, rfl, (World.ownsRow_lit (e := 5) (size := 1) wr #[.int .u8 0] 1 (Nat.le_refl _) (by decide) rfl).cells rfl⟩
      have hlim2 : (bs ++ [1#8] ++ List.replicate k 0#8).length + [0#8].length ≤ 140737488355328 := by rw [hlen]; simp; omega
      have hbs : w.heap.size ≤ (wr.alloc (.cells #[.int .u8 0] 5)).heap.size := by simp; omega
      have hv : ∀ k', (Value.slice ao (bs.length + 1 + k) cv).ownBlock = some k' → w.heap.size ≤ k' := fun k' h => (ho.lt k' h).1
      rw [← hlen] at hoa
      go_wp2_with (first | (at_builtin; go_loud (refine wpList_append_bytes rfl (.tmp 19) (.tmp 20) 22 rfl w.heap.size 5 Tryd.t5 Tryd.underlying22 (by kernel_rfl) (by kernel_rfl) (by kernel_rfl) (by kernel_rfl) (.slice ao (bs.length + 1 + k) cv) (bs ++ [1#8] ++ List.replicate k 0#8) rfl (hlen ▸ hoa) (some ⟨wr.heap.size, 0, none⟩) 1 [0#8] rfl hs1x (fun h => by cases h) hlim2 hbs ?_; intro v2 w2 hv2 hk2 hat2)))
      have hv2l : (bs ++ [1#8] ++ List.replicate k 0#8 ++ [0#8]).length = bs.length + 1 + (k + 1) := by simp; omega
      have hv2e : bs ++ [1#8] ++ List.replicate k 0#8 ++ [0#8] = bs ++ [1#8] ++ List.replicate (k + 1) 0#8 := by
        rw [List.replicate_succ', List.append_assoc (bs ++ [1#8])]
      obtain ⟨ao2, cv2, rfl, _⟩ := src_own hv2
      refine ⟨⟨k + 1, cv2, ao2, by omega, by rw [hv2l], ?_, ?_⟩, ?_⟩
      · rw [hv2e] at hv2; rw [← hv2l, hv2e]; exact hv2
      · exact (Hb.out.alloc hs _).trans (hk2.below hbs (fun k' hk' h => absurd hk' (Nat.not_lt.2 (hv k' h))))
      · show _ - ((bs ++ [1#8] ++ List.replicate k 0#8 ++ [0#8]).length - _) < _ - ((bs.length + 1 + k) - _)
        rw [hv2l]; omega
    · have hm : (bs.length + 1 + k) % 136 = 0 := by omega
      obtain ⟨l, hl⟩ : ∃ l, bs.length + 1 + k = l + 1 := ⟨bs.length + k, by omega⟩
      obtain ⟨P, hP⟩ : ∃ P, P = pd bs := ⟨_, rfl⟩
      have hpd := fun i hi => pd_list (bs := bs) (k := k) (m := l + 1) (by omega) (by omega) (by omega) i hi
      rw [hl] at ho hm hlen ⊢
      obtain ⟨zs, hzs⟩ : ∃ zs, zs = bs ++ [1#8] ++ List.replicate k 0#8 := ⟨_, rfl⟩
      rw [← hP, ← hzs, Nat.add_sub_cancel] at hpd
      rw [← hzs] at ho hlen
      obtain ⟨g, cap, hge, hgb, hgw⟩ := ho.form (by omega)
      cases hge
      obtain ⟨y, hy⟩ : ∃ y, y = zs.getD l 0 := ⟨_, rfl⟩
      rw [← hy] at hpd
      have hc0 := ho.cellAt l (by omega)
      rw [bl_get _ l (by omega), ← hy] at hc0
      have hfr := ho.frozenAt
      have hlc : l + 1 ≤ cv ∧ cv ≤ 9223372036854775807 := by
        rcases ho.2 with ⟨h, _⟩ | ⟨_, _, _, h, _, _, h1, h2, _⟩
        · cases h
        · cases h; exact ⟨h1, h2⟩
      have hp : BytesAt (wr.setCell ⟨g, l, none⟩ (.int .u8 (B (y ^^^ 128#8)))) g 0 (l + 1) P := fun j hj => by
        have h1 := (ho.stored l (.int .u8 (B (y ^^^ 128#8)))).1
        have h2 := h1.cellAt j (by omega)
        have h3 : (bl zs).set l (.int .u8 (B (y ^^^ 128#8))) = bl (zs.set l (y ^^^ 128#8)) := by unfold bl; rw [List.map_set]
        rw [h3, bl_get _ j (by rw [List.length_set]; omega), hpd j hj] at h2
        rw [Nat.zero_add]; exact h2
      have HP := Lib.hid hP
      clear hpd hy ho hzs hP
      go_wp2_with fail
      have hA3 : ((wr.setCell ⟨g, l, none⟩ (.int .u8 (B (y ^^^ 128#8)))).alloc (.cells z25 24)).heap[wr.heap.size]? = some (.cells (arr 25 (uw fun _ => 0)) 24 (0, 0)) := z25_eq ▸ at_alloc _ (by simp)
      have hb2 : Below w.heap.size w ((wr.setCell ⟨g, l, none⟩ (.int .u8 (B (y ^^^ 128#8)))).alloc (.cells z25 24)) := (Hb.out.setCell (p := ⟨g, l, none⟩) hgb _).alloc (by simpa using hs) _
      have hp3 : BytesAt ((wr.setCell ⟨g, l, none⟩ (.int .u8 (B (y ^^^ 128#8)))).alloc (.cells z25 24)) g 0 (l + 1) P := fun j hj => by
        rw [((Below.refl (wr.setCell ⟨g, l, none⟩ (.int .u8 (B (y ^^^ 128#8)))).heap.size _).alloc (Nat.le_refl _) (.cells z25 24)).cell (p := ⟨g, 0 + j, none⟩) (by simpa using hgw)]
        exact hp j hj
      generalize hw3 : (World.alloc _ _) = w3 at hA3 hb2 hp3 ⊢
      clear hw3 hp hc0 hfr Hb
      rename ((_ : Int) != _) = false => hrem
      clear hrem
      generalize wr.heap.size = ga at *
      have inf : ∀ f, (Tryd.prog.info? 24).map (·.size) = some (arr 25 (uw f)).size := fun f => by rw [arr_size]; kernel_rfl
      obtain ⟨q, hq⟩ : ∃ q, l + 1 = 136 * q := ⟨(l + 1) / 136, by omega⟩
      have hqq : q = bs.length / 136 + 1 := by omega
      have Hqq := Lib.hid hqq
      have Hq := Lib.hid hq
      have hz := HT.out.2.2.2
      have hg3 : ga < w3.heap.size := lt_row hA3
      clear hqq hq hk hk2 hm hl hlen
      go_loopw [5] (fun x wr => ∃ j : Nat, j ≤ q ∧ x = .int .i64 ((136 * j : Nat) : Int) ∧ wr.heap[ga]? = some (.cells (arr 25 (uw (spl (fun _ => 0) P j))) 24 (0, 0)) ∧ Below ga w3 wr) (fun x _ => 136 * q - (intOf x).toNat)
      case atStart => exact ⟨0, by omega, rfl, hA3, Below.refl _ _⟩
      case round =>
        obtain ⟨j, hj, rfl, hA, hb⟩ := hrel
        clear hA3
        obtain ⟨f, hf⟩ : ∃ f, f = spl (fun _ => 0) P j := ⟨_, rfl⟩
        rw [← hf] at hA
        have Hf := Lib.hid hf
        clear hf
        have Hb3 := Lib.hid hb
        clear hb
        by_cases hlt : j < q
        · have hj1 : 136 * j < l + 1 := by have h136 : l + 1 = 136 * q := Hq.out; omega
          have hj2 : 136 * j + 136 ≤ cv := by have h136 : l + 1 = 136 * q := Hq.out; omega
          have hj3 : 136 * j + 136 - 136 * j = 136 := by omega
          have hj4 : 136 * j + 136 ≤ l + 1 := by have h136 : l + 1 = 136 * q := Hq.out; omega
          go_wp2_with fail
          obtain ⟨wo, hwo⟩ : ∃ wo : World, wo = wr := ⟨_, rfl⟩
          have Hwo := Lib.hid hwo
          clear hwo
          obtain ⟨p, hpp⟩ : ∃ p : Nat → BitVec 8, p = fun i => P (136 * j + i) := ⟨_, rfl⟩
          have hp4 : ∀ i, i < 136 → w3.cell? ⟨g, 136 * j + i, none⟩ = some (.int .u8 (B (p i))) := fun i hi => by
            have := hp3 (136 * j + i) (by omega)
            rw [Nat.zero_add] at this; rw [hpp]; exact this
          have Hpp := Lib.hid hpp
          clear hpp
          have hA0 : wr.heap[ga]? = some (.cells (arr 25 (uw (xb f p 0))) 24 (0, 0)) := by rw [xb_zero]; exact hA
          clear hA
          have Hp3 := Lib.hid hp3
          clear hp3
          go_loopw [42] (fun x wq => ∃ i : Nat, i ≤ 136 ∧ x = .int .i64 i ∧ wq.heap[ga]? = some (.cells (arr 25 (uw (xb f p i))) 24 (0, 0)) ∧ Below ga w3 wq) (fun x _ => 136 - (intOf x).toNat)
          case atStart => exact ⟨0, by omega, rfl, hA0, Hb3.out⟩
          case round =>
            obtain ⟨i, hi, rfl, hAr, hbr⟩ := hrel
            clear hA0 Hb3
            by_cases hi6 : i < 136
            · have hcb : wr.cell? ⟨g, 136 * j + i, none⟩ = some (.int .u8 (B (p i))) := by
                rw [hbr.cell (p := ⟨g, 136 * j + i, none⟩) hgw]; exact hp4 i hi6
              have hca := words_of hAr (i / 8) (by omega)
              have hfr : ∀ j, wr.frozen? ⟨ga, j, none⟩ = false := fun j => frozen_of_row _ _ _ _ _ hAr
              have Hb := Lib.hid hbr
              clear hbr hp4
              go_wp2_with (first | (refine MtOrd.wp_region_ord_lit (id := 12) [(0, .head), (1, .head), (2, .head), (3, .head), (4, .head), (5, .head), (6, .head), (7, .head), (8, .head), (9, .head), (10, .head), (11, .head), (12, .loud)] (by kernel_rfl) (by kernel_rfl) (by intro c a d v w h; cases d <;> exact h) ?_) | (guard_target = MtOrd.Ord _ _ _ _ _ _ _; first | (refine MtOrd.ord_nil ?_) | (refine MtOrd.ord_head rfl rfl ?_; intro K hK; first | ((fail); refine hK _ ?_; clear hK K) | (go_big_quiet_op; first | (refine hK _ ?_; clear hK K) | (apply Exists.intro; refine ⟨?_, ?_⟩; (fail); refine hK _ ?_; clear hK K))) | (refine MtOrd.ord_free rfl rfl ?_; intro K hK; go_big_quiet_op; (refine hK _ ?_; clear hK K)) | (refine MtOrd.ord_skip rfl rfl ?_) | (refine MtOrd.ord_loud0 rfl rfl ?_; intro K hK)))
              refine ⟨⟨i + 1, by omega, by go_num, ?_, ?_⟩, by simp [intOf]; omega⟩
              · rw [heap_drew, set_words hAr, ← xb_step]
              · exact ((Hb.out).setCell (p := ⟨ga, i / 8, none⟩) (Nat.le_refl _) _).drew
            · obtain rfl : i = 136 := by omega
              have hA6 : wr.heap[ga]? = some (.cells (arr 25 (uw (xin f p))) 24 (0, 0)) := by rw [hAr, xb_end]
              have Hb := Lib.hid hbr
              have hTr := (HT.out).below (hb2.trans (hbr.mono hs)) hz
              clear hbr hp4 hAr
              go_wp2_with (first | (refine wpList_load_row rfl 24 (.tmp 4) rfl ga rfl 24 (arr 25 (uw (xin f p))) (0, 0) _ hA6 Tryd.underlying24 rfl (inf _) ?_) | (go_at_call 12; refine (perm_any _ _ hTr).mono ?_; rintro e w5 ⟨rfl, hb5⟩; have hA5 := keep_below hb5 hA6 (lt_row hA6); have hl5 := lt_row hA6; clear hA6) | (refine wpList_store_mid rfl 24 (.tmp 4) (.tmp 61) rfl ga 0 (arr 25 (uw (perm (xin f p)))) rfl rfl (there_row hA5 (by simp)) (inf _) (words_one 25 _) ?_; generalize hw6 : (World.setCells w5 ga 0 (arr 25 (uw (perm (xin f p)))).toList) = w6; have hA7 : w6.heap[ga]? = some (.cells (arr 25 (uw (perm (xin f p)))) 24 (0, 0)) := hw6 ▸ setCells_all hA5 _ (by simp); have hb6 : Below ga w5 w6 := hw6 ▸ below_only (only_setCells (g := ga) _ 0 _ (only_refl w5 _)) (Nat.le_refl _) (Nat.le_of_lt (lt_row hA5)); clear hw6 hA5))
              refine ⟨⟨j + 1, by omega, by go_num, ?_, ?_⟩, ?_⟩
              · rw [hA7, spl, ← Hf.out, Hpp.out]; rfl
              · exact Hb.out.trans ((hb5.mono (Nat.le_of_lt hl5)).trans hb6)
              · simp [intOf]; omega
        · obtain rfl : j = q := by omega
          obtain ⟨x, hx⟩ : ∃ x, x = sumB bs := ⟨_, rfl⟩
          have hfx : ∀ i, i < 32 → digTo f 32 i = x i := fun i hi => by
            rw [digTo_end f i hi, hx, sumB_pd, ← Hqq.out, ← HP.out, ← Hf.out]
          have hnl : l + 1 ≤ 136 * j := by have h136 : l + 1 = 136 * j := Hq.out; omega
          have HB := Lib.hid (hb2.trans (Hb3.out.mono hs))
          have Hx := Lib.hid hx
          have Hfx := Lib.hid hfx
          have hgr := lt_row hA
          clear hj hp3 hlt hx hfx
          go_wp2_with fail
          obtain ⟨wb, rfl⟩ : ∃ wb : World, wb = wr := ⟨_, rfl⟩
          have hA8 := keep_alloc hA (.cells z32 27)
          have hZ8 : (wb.alloc (.cells z32 27)).heap[wb.heap.size]? = some (.cells (arr 32 (ub (digTo f 0))) 27 (0, 0)) := z32_eq ▸ at_alloc _ rfl
          have hb8 : Below wb.heap.size wb (wb.alloc (.cells z32 27)) := (Below.refl _ _).alloc (Nat.le_refl _) _
          generalize hw8 : (World.alloc _ _) = w8 at hA8 hZ8 hb8 ⊢
          clear hw8 hnl hA
          generalize hgh : wb.heap.size = gh at *
          clear hgh
          go_loopw [62] (fun v wq => ∃ k : Nat, k ≤ 32 ∧ v = .int .i64 k ∧ wq.heap[ga]? = some (.cells (arr 25 (uw f)) 24 (0, 0)) ∧ wq.heap[gh]? = some (.cells (arr 32 (ub (digTo f k))) 27 (0, 0)) ∧ Below gh wb wq) (fun v _ => 32 - (intOf v).toNat)
          case atStart => exact ⟨0, by omega, rfl, hA8, hZ8, hb8⟩
          case round =>
            obtain ⟨k, hk, rfl, hA, hZ, hbr⟩ := hrel
            clear hA8 hZ8 hb8
            by_cases hk2 : k < 32
            · have hca := words_of hA (k / 8) (by omega)
              have hcz := bytes_of hZ k (by omega)
              have hfr : ∀ j, wr.frozen? ⟨gh, j, none⟩ = false := fun j => frozen_of_row _ _ _ _ _ hZ
              go_wp2_with fail
              refine ⟨⟨k + 1, by omega, by go_num, keep_set hA (by show gh ≠ ga; omega) _, ?_, hbr.setCell (p := ⟨gh, k, none⟩) (Nat.le_refl _) _⟩, by simp [intOf]; omega⟩
              rw [set_bytes hZ, ← digTo_step]; rfl
            · obtain rfl : k = 32 := by omega
              have hZx : wr.heap[gh]? = some (.cells (arr 32 (ub x)) 27 (0, 0)) := by rw [hZ, bytes_ext Hfx.out]
              clear hA hZ hk2 hk
              have HBr := Lib.hid (HB.out.trans (hbr.mono (by omega : w.heap.size ≤ gh)))
              have hBs := HBr.out.size
              have hl := lt_row hZx
              have heq : ∀ w, (binOp .eql 27 (.agg (arr 32 (ub x))) (.agg (arr 32 (ub x)))).run Tryd.prog w = .ok (.bool true) w := fun w => run_eql_ub w 27 5 32 Tryd.underlying27 (by kernel_rfl) (fun w => by kernel_rfl) x x true (by simp)
              clear hbr hb2 Hb3 HB Hfx Hqq Hq
              have ty22 := Tryd.underlying22
              have inf5 : Tryd.prog.info? 5 = some Tryd.t5 := by kernel_rfl
              have infh : (Tryd.prog.info? 27).map (·.size) = some (arr 32 (ub x)).toList.length := by rw [Array.length_toList, arr_size]; kernel_rfl
              obtain ⟨B0, hB0⟩ : ∃ B0, wr.heap.size = B0 := ⟨_, rfl⟩
              have hD0 : Below B0 wr wr.drew := (Below.refl _ _).drew
              have hrg : ∀ w', Below B0 wr w' → w'.rangeAt gh 0 (arr 32 (ub x)).toList := fun w' hw' => range_of_row (keep_below hw' hZx (hB0 ▸ hl))
              rw [hB0] at hBs hl
              go_wp2_with (first
                | (refine MtOrd.wp_region_ord_in (id := 21) (fun w' => Below B0 wr w') [(0, .loud), (1, .head), (3, .free), (6, .free), (2, .loud), (4, .loud), (5, .loud), (7, .head), (8, .loud), (9, .head)] (by kernel_rfl) (by kernel_rfl) (by intro c a d v w h; cases d <;> exact h) hD0 ?_)
                | (refine ord_build0 (i := 2) rfl rfl 22 5 Tryd.t5 (.int .u8 0) rfl ty22 inf5 (by kernel_rfl) (hb9.alloc hs9 _) ?_; have ho9 : (w9.alloc (.cells #[] 5)).ownsRow B0 5 1 (.slice (some ⟨w9.heap.size, 0, none⟩) 0 0) 0 (bl []) := World.ownsRow_lit w9 #[] 0 hs9 (by decide) rfl; have hb9a := hb9.alloc hs9 (.cells #[] 5); have hs9a := Hsrc.out.keepL (HBr.out.trans (hb9a.mono hBs)) Hsb.out; have hz9 := hb9a.size)
                | (refine ord_append_bytes (i := 4) rfl rfl (.tmp 79) (.tmp 80) 22 rfl B0 5 Tryd.t5 ty22 inf5 (by kernel_rfl) (by kernel_rfl) (by kernel_rfl) _ [] rfl ho9 sp c bs rfl hs9a Hnil.out (by simp; omega) (by rw [← hB0]; exact hz9) ?_; intro v10 w10 hv10 hk10 hat10; rw [List.nil_append] at hv10; have hb10 : Below B0 wr w10 := hb9a.trans (hk10.below (by rw [← hB0]; exact hz9) (fun k hk h => by have := (ho9.lt k h).1; omega)); refine ⟨hb10, ?_⟩; obtain ⟨s10, c10, rfl, hs10, hn10, hc10, ha10⟩ := src_own hv10; clear ho9 hs9a)
                | (refine ord_pick (i := 8) rfl rfl (.tmp 78) (.tmp 84) (.const (.bool false)) true rfl rfl hb12 ?_)
                | (guard_target = MtOrd.Ord _ _ _ _ _ _ _; first | (refine MtOrd.ord_nil ?_) | (refine MtOrd.ord_head rfl rfl ?_; intro K hK; first | ((refine quiet_load_mid 27 (.tmp 8) rfl gh 0 rfl (arr 32 (ub x)).toList _ hrg Tryd.underlying27 rfl infh ?_); refine hK _ ?_; clear hK K) | (go_big_quiet_op; first | (refine hK _ ?_; clear hK K) | (apply Exists.intro; refine ⟨?_, ?_⟩; (fail); refine hK _ ?_; clear hK K))) | (refine MtOrd.ord_free rfl rfl ?_; intro K hK; first | ((refine quiet_load_mid 27 (.tmp 8) rfl gh 0 rfl (arr 32 (ub x)).toList _ hrg Tryd.underlying27 rfl infh ?_); refine hK _ ?_; clear hK K) | (go_big_quiet_op; refine hK _ ?_; clear hK K)) | (refine MtOrd.ord_skip rfl rfl ?_) | (refine MtOrd.ord_loud rfl rfl ?_; intro K hK))
                | (go_at_call 13; refine (fixed_any wr.drew (HT.out.below HBr.out HT.out.2.2.2).drew).mono ?_; rintro e w9 ⟨rfl, hb9'⟩; have hb9 : Below B0 wr w9 := hD0.trans (hb9'.mono (Nat.le_of_eq hB0.symm)); have hs9 : B0 ≤ w9.heap.size := (hB0 ▸ hb9'.size); refine hK _ _ hb9 ?_; clear hK K)
                | (go_at_call 14; refine (ksum_any s10 bs.length c10 bs w10 (HT.out.below (HBr.out.trans (hb10.mono hBs)) HT.out.2.2.2) rfl hs10 (fun a ha => by obtain ⟨g', rfl, _, h⟩ := ha10 a ha; exact h) hn10 (by omega)).mono ?_; rintro e w11 ⟨rfl, hb11⟩; rw [← Hx.out]; have hz10 := hb10.size; have hb12 : Below B0 wr w11 := hb10.trans (hb11.mono (hB0 ▸ hz10)); refine hK _ _ hb12 ?_; clear hK K))
              exact bodyPost_ret (results_tmp (t := 2) rfl _ _ _) rfl ⟨rfl, HBr.out.trans (hb12.mono hBs)⟩
end Go.Proofs.YtikkebjhnechdaaDoor
