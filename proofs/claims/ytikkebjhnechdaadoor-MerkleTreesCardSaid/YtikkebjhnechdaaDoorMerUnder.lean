/- Walk: mootref05.Under. -/
import Derived.Test.YtikkebjhnechdaaDoorMerZeros
namespace Go.Mt
open Go.RowKit
theorem wrap_i64_of {n : Int} (h0 : -9223372036854775808 ≤ n) (h1 : n < 9223372036854775808) : IntKind.i64.wrap n = n := by
  simp [IntKind.wrap, IntKind.bits, IntKind.signed]; omega
/-- 1<<c. -/
def pw (c : Int) : Int := ((2 ^ c.toNat : Nat) : Int)
theorem pw_nat (k : Nat) : pw (k : Int) = ((2 ^ k : Nat) : Int) := by unfold pw; rw [Int.toNat_natCast]
theorem pw_succ (k : Nat) : pw ((k : Int) + 1) = ((2 ^ (k + 1) : Nat) : Int) := by rw [← pw_nat]; rfl
@[go_sem high] theorem shl_one (t : TypeId) (yk : IntKind) (c : Int) (h0 : 0 ≤ c) (h1 : c ≤ 62) : binOp .shl t (.int .i64 1) (.int yk c) = pure (.int .i64 (pw c)) := by
  obtain ⟨k, rfl⟩ : ∃ k : Nat, c = (k : Int) := ⟨c.toNat, by omega⟩
  have hk : k ≤ 62 := by omega
  obtain ⟨p, hp⟩ : ∃ p, p = 2 ^ k := ⟨_, rfl⟩
  have h1 := Nat.pow_le_pow_right (n := 2) (by decide) hk
  rw [pw_nat, ← hp]
  rw [← hp] at h1
  have e : IntKind.i64.wrap (2 ^ min k 64) = (p : Int) := by
    rw [Nat.min_eq_left (by omega)]
    have e2 : (2 : Int) ^ k = (p : Int) := by rw [hp, Int.natCast_pow]; rfl
    rw [e2]
    have e3 : (2 ^ 62 : Nat) = 4611686018427387904 := by decide
    exact wrap_i64_of (by omega) (by omega)
  rw [binOp_shl]
  simp only [Op.shift, if_neg (show ¬ (k : Int) < 0 by omega), IntKind.bits, Int.toNat_natCast]
  simp [e]
end Go.Mt
namespace Go.Proofs.YtikkebjhnechdaaDoor
open Go.RowKit Go.Mt

set_option maxRecDepth 100000 in
set_option maxHeartbeats 400000 in
theorem under_any (lp : Option Addr) (lb lo N C : Nat) (L : Nat → Dg) (zb zc : Nat) (hlp : 0 < N → lp = some ⟨lb, lo, none⟩) (hN : N ≤ 4398046511104) : ∀ (h k fr : Nat) (w : World), fr = 2 ^ h * k → h ≤ 16 → 2 ^ h * (k + 1) ≤ 1048576 →
    (0 < N → lb < w.heap.size) → DgsAt w lb lo N L → zb < w.heap.size → DgsAt w zb 0 17 zr →
    Calls Tryd.prog 45 #[.slice lp N C, .int .i64 fr, .int .i64 h, .slice (some ⟨zb, 0, none⟩) 17 zc] w fun e w' => e = .returned (.agg (arr 32 (ub (node L N h k)))) ∧ Below w.heap.size w w' := by
  intro h
  induction h with
  | zero =>
    intro k fr w hfr hh hb hlb hL hzb hZ
    have hfr' : fr = k := by rw [hfr]; simp
    subst hfr'
    clear hfr
    by_cases hge : N ≤ fr
    · have hrg : (w.alloc (.cells z32 26)).rangeAt zb 0 (arr 32 (ub (zr 0))).toList := (hZ.below ((Below.refl _ _).alloc (Nat.le_refl _) _) hzb) 0 (by omega)
      have hn : node L N 0 fr = zr 0 := by unfold node; rw [if_neg (by omega)]
      have Hn := Lib.hid hn
      clear hn hL hZ
      go_enter Tryd.func45, Tryd.ntmps45
      go_wp2_with (first
        | (guard_target = wpList _ _ _ (⟨_, Op.load _ (.tmp 15), _, _, _, _⟩ :: _) _ _; refine wpList_load_arr rfl 26 (.tmp 15) rfl zb 0 rfl (arr 32 (ub (zr 0))) _ hrg Tryd.underlying26 rfl (infB' _) ?_; clear hrg)
        | (guard_target = wpList _ _ _ (⟨_, Op.store _ (.tmp 8) _, _, _, _, _⟩ :: _) _ _; refine wpList_store_new rfl 26 (.tmp 8) (.tmp 16) rfl w.heap.size _ (arr 32 (ub (zr 0))) 26 rfl rfl rfl (z32_size _) (infB _) (bytes_one 32 _) ?_))
      rw [Hn.out]
      exact bodyPost_ret (results_cell_row (p := 8) (ty := 26) rfl _ _ w.heap.size 26 _ (0, 0) _ rfl (at_alloc _ rfl) Tryd.underlying26 rfl (infB _)) rfl ⟨rfl, (Below.refl _ _).alloc (Nat.le_refl _) _⟩
    · obtain rfl := hlp (by omega)
      have hrg : (w.alloc (.cells z32 26)).rangeAt lb (lo + fr * 32) (arr 32 (ub (L fr))).toList := (hL.below ((Below.refl _ _).alloc (Nat.le_refl _) _) (hlb (by omega))) fr (by omega)
      have hn : node L N 0 fr = L fr := by unfold node; rw [if_pos (by omega)]
      have Hn := Lib.hid hn
      have hlt : fr < N := by omega
      clear hn hL hZ hge
      go_enter Tryd.func45, Tryd.ntmps45
      go_wp2_with (first
        | (guard_target = wpList _ _ _ (⟨_, Op.load _ (.tmp 21), _, _, _, _⟩ :: _) _ _; refine wpList_load_arr rfl 26 (.tmp 21) rfl lb (lo + fr * 32) rfl (arr 32 (ub (L fr))) _ hrg Tryd.underlying26 rfl (infB' _) ?_; clear hrg)
        | (guard_target = wpList _ _ _ (⟨_, Op.store _ (.tmp 8) _, _, _, _, _⟩ :: _) _ _; refine wpList_store_new rfl 26 (.tmp 8) (.tmp 22) rfl w.heap.size _ (arr 32 (ub (L fr))) 26 rfl rfl rfl (z32_size _) (infB _) (bytes_one 32 _) ?_))
      rw [Hn.out]
      exact bodyPost_ret (results_cell_row (p := 8) (ty := 26) rfl _ _ w.heap.size 26 _ (0, 0) _ rfl (at_alloc _ rfl) Tryd.underlying26 rfl (infB _)) rfl ⟨rfl, (Below.refl _ _).alloc (Nat.le_refl _) _⟩
  | succ h ih =>
    intro k fr w hfr hh hb hlb hL hzb hZ
    have hp : 2 ^ (h + 1) * k = 2 ^ h * (2 * k) := by rw [Nat.pow_succ, Nat.mul_assoc]
    have hp1 : 2 ^ (h + 1) * (k + 1) = 2 ^ h * (2 * k + 1 + 1) := by rw [Nat.pow_succ, Nat.mul_assoc]; congr 1
    have hp2 : 2 ^ h * (2 * k) + 2 ^ h = 2 ^ h * (2 * k + 1) := by rw [Nat.mul_add (2 ^ h) (2 * k) 1, Nat.mul_one]
    have hp3 : 2 ^ h * (2 * k + 1 + 1) = 2 ^ h * (2 * k + 1) + 2 ^ h := by rw [Nat.mul_add (2 ^ h) (2 * k + 1) 1, Nat.mul_one]
    have hpp : 0 < 2 ^ h := Nat.pow_pos (by decide)
    obtain ⟨p, hpd⟩ : ∃ p, p = 2 ^ h := ⟨_, rfl⟩
    by_cases hge : N ≤ fr
    · have hrg : (w.alloc (.cells z32 26)).rangeAt zb ((h + 1) * 32) (arr 32 (ub (zr (h + 1)))).toList := by
        have := (hZ.below ((Below.refl _ _).alloc (Nat.le_refl _) (.cells z32 26)) hzb) (h + 1) (by omega)
        rw [Nat.zero_add] at this; exact this
      have hn : node L N (h + 1) k = zr (h + 1) := node_zero L N (h + 1) k (by omega)
      have Hn := Lib.hid hn
      have hfr2 : (fr : Int) < 9223372036854775807 := by omega
      clear hn hL hZ hfr hp hp1 hp2 hp3 hpd hb ih
      obtain ⟨y, hy⟩ : ∃ y, y = zr (h + 1) := ⟨_, rfl⟩
      rw [← hy] at hrg
      have Hy := Lib.hid hy
      clear hy
      go_enter Tryd.func45, Tryd.ntmps45
      go_wp2_with (first
        | (guard_target = wpList _ _ _ (⟨_, Op.load _ (.tmp 15), _, _, _, _⟩ :: _) _ _; refine wpList_load_arr rfl 26 (.tmp 15) rfl zb ((h + 1) * 32) rfl (arr 32 (ub y)) _ hrg Tryd.underlying26 rfl (infB' _) ?_; clear hrg)
        | (guard_target = wpList _ _ _ (⟨_, Op.store _ (.tmp 8) _, _, _, _, _⟩ :: _) _ _; refine wpList_store_new rfl 26 (.tmp 8) (.tmp 16) rfl w.heap.size _ (arr 32 (ub y)) 26 rfl rfl rfl (z32_size _) (infB _) (bytes_one 32 _) ?_))
      rw [Hn.out, ← Hy.out]
      exact bodyPost_ret (results_cell_row (p := 8) (ty := 26) rfl _ _ w.heap.size 26 _ (0, 0) _ rfl (at_alloc _ rfl) Tryd.underlying26 rfl (infB _)) rfl ⟨rfl, (Below.refl _ _).alloc (Nat.le_refl _) _⟩
    · have hlt : fr < N := by omega
      have hb0 : Below w.heap.size w (w.alloc (.cells z32 26)) := (Below.refl _ _).alloc (Nat.le_refl _) _
      have hz0 : w.heap.size ≤ (w.alloc (.cells z32 26)).heap.size := hb0.size
      have hr0 : (w.alloc (.cells z32 26)).heap[w.heap.size]? = some (.cells (arr 32 (ub fun _ => 0)) 26 (0, 0)) := at_z32 _ rfl
      obtain ⟨x, hx⟩ : ∃ x, x = node L N h (2 * k) := ⟨_, rfl⟩
      obtain ⟨y, hy⟩ : ∃ y, y = node L N h (2 * k + 1) := ⟨_, rfl⟩
      obtain ⟨u, hu⟩ : ∃ u, u = node L N (h + 1) k := ⟨_, rfl⟩
      have Hpair := Lib.hid (show ∀ w, Calls Tryd.prog 18 #[.agg (arr 32 (ub x)), .agg (arr 32 (ub y))] w fun e w' => e = .returned (.agg (arr 32 (ub u))) ∧ Below w.heap.size w w' from fun w => by
        have := refpair_any x y w
        rw [arr_pr] at this
        rw [hu, show node L N (h + 1) k = pr x y by rw [hx, hy]; rfl]; exact this)
      have Hi1 := Lib.hid (show ∀ w', Below w.heap.size w w' → Calls Tryd.prog 45 #[.slice lp N C, .int .i64 fr, .int .i64 h, .slice (some ⟨zb, 0, none⟩) 17 zc] w' fun e w'' => e = .returned (.agg (arr 32 (ub x))) ∧ Below w'.heap.size w' w'' from fun w' hbw => by
        rw [hx]; exact ih (2 * k) fr w' (by omega) (by omega) (by omega) (fun h0 => Nat.lt_of_lt_of_le (hlb h0) hbw.size) (by
          by_cases h0 : 0 < N
          · exact hL.below hbw (hlb h0)
          · exact fun q hq => by omega) (Nat.lt_of_lt_of_le hzb hbw.size) (hZ.below hbw hzb))
      have Hi2 := Lib.hid (show ∀ w', Below w.heap.size w w' → Calls Tryd.prog 45 #[.slice lp N C, .int .i64 ((fr : Int) + pw (h : Int)), .int .i64 h, .slice (some ⟨zb, 0, none⟩) 17 zc] w' fun e w'' => e = .returned (.agg (arr 32 (ub y))) ∧ Below w'.heap.size w' w'' from fun w' hbw => by
        rw [hy]; have := ih (2 * k + 1) (fr + p) w' (by omega) (by omega) (by omega) (fun h0 => Nat.lt_of_lt_of_le (hlb h0) hbw.size) (by
          by_cases h0 : 0 < N
          · exact hL.below hbw (hlb h0)
          · exact fun q hq => by omega) (Nat.lt_of_lt_of_le hzb hbw.size) (hZ.below hbw hzb)
        rw [Int.natCast_add, hpd, ← pw_nat] at this; exact this)
      have hpw : pw (h : Int) = (p : Int) := by rw [pw_nat, hpd]
      have hpw0 : 0 ≤ pw (h : Int) := by omega
      have hpw1 : pw (h : Int) ≤ 1048576 := by omega
      have hh62 : (h : Int) ≤ 62 := by omega
      have hpb : p ≤ 1048576 := by omega
      have hfb : fr ≤ 1048576 := by omega
      rw [← hu]
      clear hL hZ hp hp1 hp2 hp3 hb ih hx hy hu hfr hpw hpd hpp hge
      go_enter Tryd.func45, Tryd.ntmps45
      go_wp2_with (first
        | (go_at_call 45; refine (Hi1.out _ hb0).mono ?_; rintro e w1 ⟨rfl, hb1⟩; have hb1' := hb0.trans (hb1.mono hz0); have hr1 := keep_below hb1 hr0 (lt_row hr0); clear hb0 hr0 hz0 Hi1)
        | (go_at_call 45; refine (Hi2.out _ hb1').mono ?_; rintro e w2 ⟨rfl, hb2⟩; have hb2' := hb1'.trans (hb2.mono hb1'.size); have hr2 := keep_below hb2 hr1 (lt_row hr1); clear Hi2)
        | (go_at_call 18; refine (Hpair.out _).mono ?_; rintro e w3 ⟨rfl, hb3⟩; have hb3' := hb2'.trans (hb3.mono hb2'.size); have hr3 := keep_below hb3 hr2 (lt_row hr2))
        | (guard_target = wpList _ _ _ (⟨_, Op.store _ (.tmp 8) _, _, _, _, _⟩ :: _) _ _; refine wpList_store_mid rfl 26 (.tmp 8) (.tmp 40) rfl w.heap.size 0 (arr 32 (ub u)) rfl rfl (there_row hr3 (by simp)) (infB _) (bytes_one 32 _) ?_))
      exact bodyPost_ret (results_cell_row (p := 8) (ty := 26) rfl _ _ w.heap.size 26 _ (0, 0) _ rfl (setCells_all hr3 _ (by simp)) Tryd.underlying26 rfl (infB _)) rfl ⟨rfl, hb3'.trans (below_only (only_setCells _ _ _ (only_refl _ _)) (Nat.le_refl _) hb3'.size)⟩
end Go.Proofs.YtikkebjhnechdaaDoor
