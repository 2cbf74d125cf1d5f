/- Walk: merkle.Fold. -/
import Derived.Test.YtikkebjhnechdaaDoorMerPath
namespace Go.Mt
open Go.RowKit
/-- What a leaf and a path fold to. -/
def foldN (i : Nat) (P : Nat → Dg) (x : Dg) : Nat → Dg
  | 0 => x
  | h + 1 => if (i / 2 ^ h) % 2 = 0 then pr (foldN i P x h) (P h) else pr (P h) (foldN i P x h)
theorem foldN_ext {i : Nat} {P Q : Nat → Dg} {x : Dg} : ∀ m, (∀ h, h < m → P h = Q h) → foldN i P x m = foldN i Q x m
  | 0, _ => rfl
  | h + 1, e => by unfold foldN; rw [foldN_ext h fun k hk => e k (by omega), e h (Nat.lt_succ_self h)]
theorem foldN_path (L : Nat → Dg) (n i : Nat) : ∀ h, foldN i (pathF L n i) (node L n 0 i) h = node L n h (i / 2 ^ h)
  | 0 => by unfold foldN; rw [Nat.pow_zero, Nat.div_one]
  | h + 1 => by
    unfold foldN
    rw [foldN_path L n i h]
    have e : i / 2 ^ (h + 1) = i / 2 ^ h / 2 := by rw [Nat.div_div_eq_div_mul, Nat.pow_succ]
    rw [e]
    unfold pathF sib
    obtain ⟨k, hk⟩ : ∃ k, k = i / 2 ^ h := ⟨_, rfl⟩
    rw [← hk]
    by_cases h2 : k % 2 = 0
    · rw [if_pos h2, if_pos h2]
      show _ = pr (node L n h (2 * (k / 2))) (node L n h (2 * (k / 2) + 1))
      rw [show 2 * (k / 2) = k by omega]
    · rw [if_neg h2, if_neg h2]
      show _ = pr (node L n h (2 * (k / 2))) (node L n h (2 * (k / 2) + 1))
      rw [show 2 * (k / 2) = k - 1 by omega, show k - 1 + 1 = k by omega]
/-- A leaf exchanged: the path stays. -/
theorem path_exchange {L M : Nat → Dg} {n m i : Nat} (e : ∀ j, j ≠ i → node L n 0 j = node M m 0 j) (h : Nat) : pathF L n i h = pathF M m i h := by
  unfold pathF
  refine node_same h _ _ fun j hj => e _ fun hc => ?_
  have h1 : (2 ^ h * sib (i / 2 ^ h) + j) / 2 ^ h = sib (i / 2 ^ h) := by
    rw [Nat.mul_add_div (Nat.pow_pos (by decide)), Nat.div_eq_of_lt hj, Nat.add_zero]
  rw [hc] at h1
  unfold sib at h1
  split at h1 <;> omega
theorem fold_exchange {L M : Nat → Dg} {n m i : Nat} (e : ∀ j, j ≠ i → node L n 0 j = node M m 0 j) (x : Dg) (hx : node M m 0 i = x) (h : Nat) : foldN i (pathF L n i) x h = node M m h (i / 2 ^ h) := by
  rw [foldN_ext h (fun k _ => path_exchange e k), ← hx]; exact foldN_path M m i h
end Go.Mt
namespace Go.Proofs.YtikkebjhnechdaaDoor
open Go.RowKit Go.Mt

set_option maxRecDepth 100000 in
set_option maxHeartbeats 2000000 in
theorem fold_any (i m c : Nat) (pp : Option Addr) (pb po : Nat) (x : Dg) (P : Nat → Dg) (w : World) (hT : Tabs w) (hm : m ≤ 16) (hi : i < 2 ^ m) (hpp : 0 < m → pp = some ⟨pb, po, none⟩) (hpb : 0 < m → pb < w.heap.size) (hP : DgsAt w pb po m P) :
    Calls Tryd.prog 28 #[.int .i64 i, .agg (arr 32 (ub x)), .slice pp m c] w fun e w' => e = .returned (.tuple #[.agg (arr 32 (ub (foldN i P x m))), .nilIface]) ∧ Below w.heap.size w w' := by
  have hi16 : i ≤ 65536 := Nat.le_of_lt (Nat.lt_of_lt_of_le hi (Nat.pow_le_pow_right (n := 2) (by decide) hm))
  have hpw : ((i : Nat) : Int) < pw (m : Int) := by rw [pw_nat]; omega
  have hm62 : (m : Int) ≤ 62 := by omega
  have hz := hT.2.2.2
  have hr4 : ((w.alloc (.cells (arr 32 (ub x)) 27)).alloc (.cells z32 27)).heap[w.heap.size]? = some (.cells (arr 32 (ub x)) 27 (0, 0)) := keep_alloc (at_alloc _ rfl) _
  have hr6 : ((w.alloc (.cells (arr 32 (ub x)) 27)).alloc (.cells z32 27)).heap[w.heap.size + 1]? = some (.cells (arr 32 (ub fun _ => 0)) 27 (0, 0)) := at_z32 _ (by simp)
  have hb0 : Below w.heap.size w ((w.alloc (.cells (arr 32 (ub x)) 27)).alloc (.cells z32 27)) := ((Below.refl _ _).alloc (Nat.le_refl _) _).alloc (by simp) _
  have Hlast : Hid (∀ h, i / 2 ^ h / 2 = i / 2 ^ (h + 1)) := Lib.hid fun h => by rw [Nat.div_div_eq_div_mul, Nat.pow_succ]
  have HT := Lib.hid hT
  have HP := Lib.hid hP
  have Hb0 := Lib.hid hb0
  have Hr4 := Lib.hid hr4
  have Hr6 := Lib.hid hr6
  clear hT hP hi hb0 hr4 hr6
  go_enter Tryd.func28, Tryd.ntmps28
  go_wp2_with fail
  go_loopw [0, 28] (fun a b wr => ∃ (h ih : Nat), h ≤ m ∧ ih = i / 2 ^ h ∧ a = .int .i64 ih ∧ b = .int .i64 h ∧ wr.heap[w.heap.size]? = some (.cells (arr 32 (ub (foldN i P x h))) 27 (0, 0)) ∧ wr.heap[w.heap.size + 1]? = some (.cells (arr 32 (ub fun _ => 0)) 27 (0, 0)) ∧ Below w.heap.size w wr) (fun _ b _ => m - (intOf b).toNat)
  case atStart => exact ⟨0, i, by omega, by simp, rfl, rfl, Hr4.out, Hr6.out, Hb0.out⟩
  case round =>
    obtain ⟨h, ih, hh, hih, rfl, rfl, hr4, hr6, hb⟩ := hrel
    obtain ⟨wi, rfl⟩ : ∃ wi : World, wi = wr := ⟨_, rfl⟩
    by_cases hlt : h < m
    · obtain rfl := hpp (by omega)
      have hpw1 := hpb (by omega)
      obtain ⟨y, hy⟩ : ∃ y, y = foldN i P x h := ⟨_, rfl⟩
      obtain ⟨pe, hpe⟩ : ∃ pe, pe = P h := ⟨_, rfl⟩
      obtain ⟨u, hu⟩ : ∃ u, u = foldN i P x (h + 1) := ⟨_, rfl⟩
      have hup : u = if ih % 2 = 0 then pr y pe else pr pe y := by rw [hu, hy, hpe, hih]; rfl
      rw [← hy] at hr4
      have hrg : wi.rangeAt pb (po + h * 32) (arr 32 (ub pe)).toList := by rw [hpe]; exact (HP.out.below hb hpw1) h hlt
      have hA : (wi.alloc (.cells (arr 32 (ub pe)) 27)).heap[wi.heap.size]? = some (.cells (arr 32 (ub pe)) 27 (0, 0)) := at_alloc _ rfl
      have hr4a := keep_alloc hr4 (.cells (arr 32 (ub pe)) 27 (0, 0))
      have hr6a := keep_alloc hr6 (.cells (arr 32 (ub pe)) 27 (0, 0))
      have hba : Below w.heap.size w (wi.alloc (.cells (arr 32 (ub pe)) 27)) := hb.alloc hb.size _
      have hTa := HT.out.below hba hz
      have hih2 : (ih : Int) / 2 = ((ih / 2 : Nat) : Int) := by omega
      have hih16 : ih ≤ 65536 := by rw [hih]; exact Nat.le_trans (Nat.div_le_self _ _) hi16
      have Hlt : Hid (ih / 2 = i / 2 ^ (h + 1)) := Lib.hid (by rw [hih]; exact Hlast.out h)
      have Hu := Lib.hid hu
      have Hih2 := Lib.hid hih2
      have HA := Lib.hid hA
      have Hr4a := Lib.hid hr4a
      have Hr6a := Lib.hid hr6a
      have Hba := Lib.hid hba
      clear hu hy hpe hih hr4 hr6 hb hih2 hA hr4a hr6a hba
      go_upto_if 34 with (first
        | (guard_target = wpList _ _ _ (⟨_, Op.load _ (.tmp 30), _, _, _, _⟩ :: _) _ _; refine wpList_load_arr rfl 27 (.tmp 30) rfl pb (po + h * 32) rfl (arr 32 (ub pe)) _ hrg Tryd.underlying27 rfl (infH' _) ?_; clear hrg)
        | (guard_target = wpList _ _ _ (⟨_, Op.store _ (.tmp 9) _, _, _, _, _⟩ :: _) _ _; refine wpList_store_new rfl 27 (.tmp 9) (.tmp 31) rfl wi.heap.size _ (arr 32 (ub pe)) 27 rfl rfl rfl (z32_size _) (infH _) (bytes_one 32 _) ?_))
      go_cut [0] (fun s wx => s = .int .i64 ih ∧ wx.heap[w.heap.size]? = some (.cells (arr 32 (ub u)) 27 (0, 0)) ∧ wx.heap[w.heap.size + 1]? = some (.cells (arr 32 (ub fun _ => 0)) 27 (0, 0)) ∧ Below w.heap.size w wx)
      case first =>
        have hfin : ∀ w2 : World, Below (wi.alloc (.cells (arr 32 (ub pe)) 27)).heap.size (wi.alloc (.cells (arr 32 (ub pe)) 27)) w2 → (w2.setCells w.heap.size 0 (arr 32 (ub u)).toList).heap[w.heap.size]? = some (.cells (arr 32 (ub u)) 27 (0, 0)) ∧ (w2.setCells w.heap.size 0 (arr 32 (ub u)).toList).heap[w.heap.size + 1]? = some (.cells (arr 32 (ub fun _ => 0)) 27 (0, 0)) ∧ Below w.heap.size w (w2.setCells w.heap.size 0 (arr 32 (ub u)).toList) := fun w2 h2 => by
          have e4 := keep_below h2 Hr4a.out (lt_row Hr4a.out)
          have e6 := keep_below h2 Hr6a.out (lt_row Hr6a.out)
          have hb2 := Hba.out.trans (h2.mono Hba.out.size)
          refine ⟨setCells_all e4 _ (by simp), ((only_setCells (g := w.heap.size) (arr 32 (ub u)).toList 0 w2 (only_refl w2 _)).block (w.heap.size + 1) (lt_row e6) (by simp)).trans e6, ?_⟩
          exact hb2.trans (below_only (only_setCells _ _ _ (only_refl _ _)) (Nat.le_refl _) hb2.size)
        have Hfin := Lib.hid hfin
        clear hfin
        by_cases hpar : ih % 2 = 0
        · rw [if_pos hpar] at hup
          have Hpair := Lib.hid (show ∀ w, Tabs w → Calls Tryd.prog 17 #[.agg (arr 32 (ub y)), .agg (arr 32 (ub pe))] w fun e w' => e = .returned (.agg (arr 32 (ub u))) ∧ Below w.heap.size w w' from fun w h => by
            have := kecpair_any y pe w h
            rw [arr_pr] at this
            rw [hup]; exact this)
          have hmod : ((ih : Int) % 2 == 0) = true := by simp; omega
          clear hup hpar
          have hr4b := Hr4a.out
          have hA := HA.out
          go_wp2_with (first
            | (guard_target = wpList _ _ _ (⟨_, Op.load _ (.tmp 4), _, _, _, _⟩ :: _) _ _; refine wpList_load_row rfl 27 (.tmp 4) rfl w.heap.size rfl 27 (arr 32 (ub y)) (0, 0) _ hr4b Tryd.underlying27 rfl (infH _) ?_; clear hr4b)
            | (guard_target = wpList _ _ _ (⟨_, Op.load _ (.tmp 9), _, _, _, _⟩ :: _) _ _; refine wpList_load_row rfl 27 (.tmp 9) rfl wi.heap.size rfl 27 (arr 32 (ub pe)) (0, 0) _ hA Tryd.underlying27 rfl (infH _) ?_; clear hA)
            | (go_at_call 17; refine (Hpair.out _ hTa).mono ?_; rintro e w2 ⟨rfl, hb2⟩; have hth : w2.there w.heap.size 0 32 := there_row (keep_below hb2 Hr4a.out (lt_row Hr4a.out)) (by simp); have hfin := Hfin.out w2 hb2; clear hb2)
            | (guard_target = wpList _ _ _ (⟨_, Op.store _ (.tmp 4) _, _, _, _, _⟩ :: _) _ _; refine wpList_store_mid rfl 27 (.tmp 4) (.tmp 37) rfl w.heap.size 0 (arr 32 (ub u)) rfl rfl (by rw [arr_size]; exact hth) (infH _) (bytes_one 32 _) ?_; generalize w2.setCells w.heap.size 0 (arr 32 (ub u)).toList = w3 at hfin ⊢))
          (try simp only [Act.put, List.setIfInBounds_toArray, List.set_cons_succ, List.set_cons_zero])
          go_meet
          exact ⟨rfl, hfin⟩
        · rw [if_neg hpar] at hup
          have Hpair := Lib.hid (show ∀ w, Tabs w → Calls Tryd.prog 17 #[.agg (arr 32 (ub pe)), .agg (arr 32 (ub y))] w fun e w' => e = .returned (.agg (arr 32 (ub u))) ∧ Below w.heap.size w w' from fun w h => by
            have := kecpair_any pe y w h
            rw [arr_pr] at this
            rw [hup]; exact this)
          have hmod : ((ih : Int) % 2 == 0) = false := by simp; omega
          clear hup hpar
          have hr4b := Hr4a.out
          have hA := HA.out
          go_wp2_with (first
            | (guard_target = wpList _ _ _ (⟨_, Op.load _ (.tmp 4), _, _, _, _⟩ :: _) _ _; refine wpList_load_row rfl 27 (.tmp 4) rfl w.heap.size rfl 27 (arr 32 (ub y)) (0, 0) _ hr4b Tryd.underlying27 rfl (infH _) ?_; clear hr4b)
            | (guard_target = wpList _ _ _ (⟨_, Op.load _ (.tmp 9), _, _, _, _⟩ :: _) _ _; refine wpList_load_row rfl 27 (.tmp 9) rfl wi.heap.size rfl 27 (arr 32 (ub pe)) (0, 0) _ hA Tryd.underlying27 rfl (infH _) ?_; clear hA)
            | (go_at_call 17; refine (Hpair.out _ hTa).mono ?_; rintro e w2 ⟨rfl, hb2⟩; have hth : w2.there w.heap.size 0 32 := there_row (keep_below hb2 Hr4a.out (lt_row Hr4a.out)) (by simp); have hfin := Hfin.out w2 hb2; clear hb2)
            | (guard_target = wpList _ _ _ (⟨_, Op.store _ (.tmp 4) _, _, _, _, _⟩ :: _) _ _; refine wpList_store_mid rfl 27 (.tmp 4) (.tmp 40) rfl w.heap.size 0 (arr 32 (ub u)) rfl rfl (by rw [arr_size]; exact hth) (infH _) (bytes_one 32 _) ?_; generalize w2.setCells w.heap.size 0 (arr 32 (ub u)).toList = w3 at hfin ⊢))
          (try simp only [Act.put, List.setIfInBounds_toArray, List.set_cons_succ, List.set_cons_zero])
          go_meet
          exact ⟨rfl, hfin⟩
      case rest =>
        obtain ⟨rfl, hc4, hc6, hcb⟩ := hcut
        have Hc4 := Lib.hid hc4
        have Hc6 := Lib.hid hc6
        clear hc4 hc6
        go_wp2_with fail
        exact ⟨⟨h + 1, ih / 2, by omega, Hlt.out, by rw [Hih2.out], by go_num, by rw [← Hu.out]; exact Hc4.out, Hc6.out, hcb⟩, by simp [intOf]; omega⟩
    · obtain rfl : h = m := by omega
      obtain ⟨u, hu⟩ : ∃ u, u = foldN i P x h := ⟨_, rfl⟩
      rw [← hu] at hr4
      have Hu := Lib.hid hu
      clear hu
      have hth6 := there_row (n := 32) hr6 (by simp)
      have Hr6 := Lib.hid hr6
      clear hr6
      go_wp2_with (first
        | (guard_target = wpList _ _ _ (⟨_, Op.load _ (.tmp 4), _, _, _, _⟩ :: _) _ _; refine wpList_load_row rfl 27 (.tmp 4) rfl w.heap.size rfl 27 (arr 32 (ub u)) (0, 0) _ hr4 Tryd.underlying27 rfl (infH _) ?_; clear hr4)
        | (guard_target = wpList _ _ _ (⟨_, Op.store _ (.tmp 6) _, _, _, _, _⟩ :: _) _ _; refine wpList_store_mid rfl 27 (.tmp 6) (.tmp 44) rfl (w.heap.size + 1) 0 (arr 32 (ub u)) rfl rfl (by rw [arr_size]; exact hth6) (infH _) (bytes_one 32 _) ?_))
      rw [← Hu.out]
      refine bodyPost_ret (results_row_tmp (p := 6) (u := 7) (ty := 27) rfl _ _ (w.heap.size + 1) 27 _ (0, 0) _ rfl (setCells_all Hr6.out _ (by simp)) Tryd.underlying27 rfl (infH _)) rfl ⟨rfl, ?_⟩
      exact hb.trans (below_only (only_setCells _ _ _ (only_refl _ _)) (Nat.le_succ _) hb.size)

set_option maxRecDepth 100000 in
set_option maxHeartbeats 1000000 in
/-- A place that is none. -/
theorem fold_bad (I : Int) (m c : Nat) (pp : Option Addr) (x : Dg) (w : World) (hbad : 16 < m ∨ (m ≤ 16 ∧ (I < 0 ∨ (0 ≤ I ∧ pw (m : Int) ≤ I)))) :
    Calls Tryd.prog 28 #[.int .i64 I, .agg (arr 32 (ub x)), .slice pp m c] w fun e w' => e = .returned (.tuple #[.agg (arr 32 (ub fun _ => 0)), .iface 44 (.int .i64 2)]) ∧ Below w.heap.size w w' := by
  have infz : (Tryd.prog.info? 27).map (·.size) = some z32.size := by kernel_rfl
  have hz1 : z32.all (·.oneCell') = true := by kernel_rfl
  have hr6 : ((w.alloc (.cells (arr 32 (ub x)) 27)).alloc (.cells z32 27)).heap[w.heap.size + 1]? = some (.cells z32 27 (0, 0)) := at_alloc _ (by simp)
  have hb0 : Below w.heap.size w ((w.alloc (.cells (arr 32 (ub x)) 27)).alloc (.cells z32 27)) := ((Below.refl _ _).alloc (Nat.le_refl _) _).alloc (by simp) _
  rw [← z32_eq]
  rcases hbad with h16 | ⟨h16, hI | ⟨hI0, hI⟩⟩
  all_goals
    (try have hm62 : (m : Int) ≤ 62 := by omega)
    go_enter Tryd.func28, Tryd.ntmps28
    go_wp2_with (first
      | (guard_target = wpList _ _ _ (⟨_, Op.store _ (.tmp 6) _, _, _, _, _⟩ :: _) _ _; refine wpList_store_mid rfl 27 (.tmp 6) (.tmp 24) rfl (w.heap.size + 1) 0 z32 rfl rfl (there_row hr6 (Nat.le_refl _)) infz hz1 ?_))
    refine bodyPost_ret (results_row_tmp (p := 6) (u := 7) (ty := 27) rfl _ _ (w.heap.size + 1) 27 _ (0, 0) _ rfl (setCells_all hr6 _ rfl) Tryd.underlying27 rfl infz) rfl ⟨rfl, ?_⟩
    exact hb0.trans (below_only (only_setCells _ _ _ (only_refl _ _)) (Nat.le_succ _) hb0.size)
end Go.Proofs.YtikkebjhnechdaaDoor
