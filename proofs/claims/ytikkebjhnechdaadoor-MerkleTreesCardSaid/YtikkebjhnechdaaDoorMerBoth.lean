/- Walks: mootlaw05.same; mootref05.Wrong, Root, Zero; merkle.Zero where it refuses; merkle.Path at a place that is none. Walks: mootref05.Path; merkle.Path at a place that is none; merkle.Zero where it refuses. What both answers of a tree are, root and path. -/
import Derived.Test.YtikkebjhnechdaaDoorMerSlice
import Derived.Test.YtikkebjhnechdaaDoorAsErr
namespace Go.Proofs.YtikkebjhnechdaaDoor
open Go.RowKit Go.Mt

set_option maxRecDepth 100000 in
set_option maxHeartbeats 1000000 in
theorem same_any (n : Nat) (sp sq : Option Addr) (pb po qb qo c c' : Nat) (F : Nat → Dg) (w : World) (hn : n ≤ 4398046511104) (hsp : 0 < n → sp = some ⟨pb, po, none⟩) (hsq : 0 < n → sq = some ⟨qb, qo, none⟩) (hpl : 0 < n → pb < w.heap.size) (hql : 0 < n → qb < w.heap.size)
    (hF : 0 < n → DgsAt w pb po n F) (hG : 0 < n → DgsAt w qb qo n F) :
    Calls Tryd.prog 32 #[.slice sp n c, .slice sq n c'] w fun e w' => e = .returned (.bool true) ∧ Below w.heap.size w w' := by
  have HF := Lib.hid hF
  have HG := Lib.hid hG
  have hs1 : ∀ w, (sizeOf 5).run Tryd.prog w = .ok 1 w := fun w => by kernel_rfl
  clear hF hG
  go_enter Tryd.func32, Tryd.ntmps32
  go_wp2_with fail
  go_loopw [13] (fun x wr => ∃ k : Nat, k ≤ n ∧ x = .int .i64 k ∧ Below w.heap.size w wr) (fun x _ => n - (intOf x).toNat)
  case atStart => exact ⟨0, by omega, rfl, Below.refl _ _⟩
  case round =>
    obtain ⟨k, hk, rfl, hb⟩ := hrel
    by_cases hlt : k < n
    · obtain rfl := hsp (by omega)
      obtain rfl := hsq (by omega)
      have hF := HF.out (by omega)
      have hG := HG.out (by omega)
      obtain ⟨f, hf⟩ : ∃ f, f = F k := ⟨_, rfl⟩
      have h1 : ∀ w', w' = wr.drew → w'.rangeAt pb (po + k * 32) (arr 32 (ub f)).toList := fun w' h => by rw [h, hf]; exact (hF.below hb.drew (hpl (by omega))) k hlt
      have h2 : ∀ w', w' = wr.drew → w'.rangeAt qb (qo + k * 32) (arr 32 (ub f)).toList := fun w' h => by rw [h, hf]; exact (hG.below hb.drew (hql (by omega))) k hlt
      have hneq : ∀ w, (binOp .neq 27 (.agg (arr 32 (ub f))) (.agg (arr 32 (ub f)))).run Tryd.prog w = .ok (.bool false) w := fun w => run_neq_ub w 27 5 32 Tryd.underlying27 (by kernel_rfl) hs1 f
      clear hF hG hf
      go_wp2_with (first
        | (guard_target = Code.wp _ (Code.region 6 _ _) _ _ _; (refine MtOrd.wp_region_ord_lit (id := 6) [(0, .head), (1, .head), (2, .head), (3, .head), (4, .head), (5, .head), (6, .head), (7, .head), (8, .head)] (by kernel_rfl) (by kernel_rfl) (by intro c a d v w h; cases d <;> exact h) ?_))
        | (guard_target = MtOrd.Ord _ _ _ _ _ _ _; first | (refine MtOrd.ord_nil ?_) | (refine MtOrd.ord_head rfl rfl ?_; intro K hK; first | ((first | (refine quiet_load_arr 27 (.tmp 18) rfl pb (po + k * 32) rfl (arr 32 (ub f)) _ h1 Tryd.underlying27 rfl (infH' _) ?_) | (refine quiet_load_arr 26 (.tmp 22) rfl qb (qo + k * 32) rfl (arr 32 (ub f)) _ h2 Tryd.underlying26 rfl (infB' _) ?_)); refine hK _ ?_; clear hK K) | (go_big_quiet_op; first | (refine hK _ ?_; clear hK K) | (apply Exists.intro; refine ⟨?_, ?_⟩; (fail); refine hK _ ?_; clear hK K))) | (refine MtOrd.ord_free rfl rfl ?_; intro K hK; go_big_quiet_op; (refine hK _ ?_; clear hK K)) | (refine MtOrd.ord_skip rfl rfl ?_) | (refine MtOrd.ord_loud0 rfl rfl ?_; intro K hK)))
      exact ⟨⟨k + 1, by omega, by go_num, hb.drew⟩, by simp [intOf]; omega⟩
    · go_wp2_with fail
      exact bodyPost_ret (results_tmp (t := 4) rfl _ _ _) rfl ⟨rfl, hb⟩

theorem wrong_ok (d n : Nat) (w : World) (hd : d ≤ 16) (hn : n ≤ 2 ^ d) : Calls Tryd.prog 48 #[.int .i64 d, .int .i64 n] w fun e w' => e = .returned (.int .i64 0) ∧ w' = w := by
  have hpw : ((n : Nat) : Int) ≤ pw (d : Int) := by rw [pw_nat]; omega
  have hd62 : (d : Int) ≤ 62 := by omega
  clear hn
  go_enter Tryd.func48, Tryd.ntmps48
  go_wp2_with fail
  go_ret
  exact ⟨rfl, rfl⟩
theorem wrong_bad (D : Int) (n : Nat) (k : Int) (w : World) (hk : Bad D n k) : Calls Tryd.prog 48 #[.int .i64 D, .int .i64 n] w fun e w' => e = .returned (.int .i64 k) ∧ w' = w := by
  rcases hk with ⟨hD | hD, rfl⟩ | ⟨h0, h1, h2, rfl⟩
  · go_enter Tryd.func48, Tryd.ntmps48
    go_wp2_with fail
    go_ret
    exact ⟨rfl, rfl⟩
  · go_enter Tryd.func48, Tryd.ntmps48
    go_wp2_with fail
    go_ret
    exact ⟨rfl, rfl⟩
  · have hd62 : D ≤ 62 := by omega
    have hu : IntKind.u64.wrap D = D := by rw [IntKind.wrap_u64]; omega
    go_enter Tryd.func48, Tryd.ntmps48
    go_wp2_with fail
    go_ret
    exact ⟨rfl, rfl⟩

set_option maxRecDepth 100000 in
set_option maxHeartbeats 1000000 in
theorem refroot_any (d n : Nat) (lp : Option Addr) (lb lo c : Nat) (L : Nat → Dg) (w : World) (hd : d ≤ 16) (hn : n ≤ 2 ^ d) (hlp : 0 < n → lp = some ⟨lb, lo, none⟩) (hlb : 0 < n → lb < w.heap.size) (hL : DgsAt w lb lo n L) :
    Calls Tryd.prog 29 #[.int .i64 d, .slice lp n c] w fun e w' => e = .returned (.tuple #[.agg (arr 32 (ub (node L n d 0))), .int .i64 0]) ∧ Below w.heap.size w w' := by
  have hb0 : Below w.heap.size w (w.alloc (.cells z32 26)) := (Below.refl _ _).alloc (Nat.le_refl _) _
  have hr0 : (w.alloc (.cells z32 26)).heap[w.heap.size]? = some (.cells (arr 32 (ub fun _ => 0)) 26 (0, 0)) := at_z32 _ rfl
  have hp16 : 2 ^ d ≤ 65536 := Nat.pow_le_pow_right (n := 2) (by decide) hd
  obtain ⟨r, hr⟩ : ∃ r, r = node L n d 0 := ⟨_, rfl⟩
  have Hw := Lib.hid (wrong_ok d n (w.alloc (.cells z32 26)) hd hn)
  have Hu := Lib.hid (show ∀ w' g cap, Below w.heap.size w w' → g < w'.heap.size → DgsAt w' g 0 17 zr → Calls Tryd.prog 45 #[.slice lp n c, .int .i64 0, .int .i64 d, .slice (some ⟨g, 0, none⟩) 17 cap] w' fun e w'' => e = .returned (.agg (arr 32 (ub r))) ∧ Below w'.heap.size w' w'' from fun w' g cap h1 h2 h3 => by
    rw [hr]
    exact under_any lp lb lo n c L g cap hlp (by omega) d 0 0 w' (by simp) hd (by omega) (fun h => Nat.lt_of_lt_of_le (hlb h) h1.size) (by
      by_cases h0 : 0 < n
      · exact hL.below h1 (hlb h0)
      · exact fun q hq => by omega) h2 h3)
  have Hr := Lib.hid hr
  rw [← hr]
  clear hr hn hL hlp hlb
  go_enter Tryd.func29, Tryd.ntmps29
  go_wp2_with (first
    | (go_at_call 48; refine Hw.out.mono ?_; rintro e w1 ⟨rfl, rfl⟩)
    | (go_at_call 46; refine (zeros_any _).mono ?_; rintro e w2 ⟨g, cap, rfl, -, hg, hZ, hb2⟩; have hr2 := keep_below hb2 hr0 (lt_row hr0); have hbw2 := hb0.trans (hb2.mono hb0.size))
    | (go_at_call 45; refine (Hu.out w2 g cap hbw2 hg hZ).mono ?_; rintro e w3 ⟨rfl, hb3⟩; have hr3 := keep_below hb3 hr2 (lt_row hr2); have hbw3 := hbw2.trans (hb3.mono hbw2.size))
    | (guard_target = wpList _ _ _ (⟨_, Op.store _ (.tmp 4) _, _, _, _, _⟩ :: _) _ _; refine wpList_store_mid rfl 26 (.tmp 4) (.tmp 18) rfl w.heap.size 0 (arr 32 (ub r)) rfl rfl (there_row hr3 (by simp)) (infB _) (bytes_one 32 _) ?_))
  refine bodyPost_ret (results_row_tmp (p := 4) (u := 5) (ty := 26) rfl _ _ w.heap.size 26 _ (0, 0) _ rfl (setCells_all hr3 _ (by simp)) Tryd.underlying26 rfl (infB _)) rfl ⟨rfl, ?_⟩
  exact hbw3.trans (below_only (only_setCells _ _ _ (only_refl _ _)) (Nat.le_refl _) hbw3.size)

set_option maxRecDepth 100000 in
set_option maxHeartbeats 1000000 in
theorem refroot_bad (D : Int) (n : Nat) (lp : Option Addr) (c : Nat) (k : Int) (w : World) (hk : Bad D n k) (hk0 : k ≠ 0) :
    Calls Tryd.prog 29 #[.int .i64 D, .slice lp n c] w fun e w' => e = .returned (.tuple #[.agg (arr 32 (ub fun _ => 0)), .int .i64 k]) ∧ Below w.heap.size w w' := by
  have hr0 : (w.alloc (.cells z32 26)).heap[w.heap.size]? = some (.cells z32 26 (0, 0)) := at_alloc _ rfl
  have infz : (Tryd.prog.info? 26).map (·.size) = some z32.size := by kernel_rfl
  have Hw := Lib.hid (wrong_bad D n k (w.alloc (.cells z32 26)) hk)
  have hkb : (k == 0) = false := by simpa using hk0
  have hkn : (k != 0) = true := by simpa using hk0
  have hz1 : z32.all (·.oneCell') = true := by kernel_rfl
  clear hk
  rw [← z32_eq]
  go_enter Tryd.func29, Tryd.ntmps29
  go_wp2_with (first
    | (go_at_call 48; refine Hw.out.mono ?_; rintro e w1 ⟨rfl, rfl⟩)
    | (guard_target = wpList _ _ _ (⟨_, Op.store _ (.tmp 4) _, _, _, _, _⟩ :: _) _ _; refine wpList_store_mid rfl 26 (.tmp 4) (.tmp 13) rfl w.heap.size 0 z32 rfl rfl (there_row hr0 (Nat.le_refl _)) infz hz1 ?_))
  refine bodyPost_ret (results_row_tmp (p := 4) (u := 5) (ty := 26) rfl _ _ w.heap.size 26 _ (0, 0) _ rfl (setCells_all hr0 _ rfl) Tryd.underlying26 rfl infz) rfl ⟨rfl, ?_⟩
  exact ((Below.refl _ _).alloc (Nat.le_refl _) _).trans (below_only (only_setCells _ _ _ (only_refl _ _)) (Nat.le_refl _) (by simp))

set_option maxRecDepth 100000 in
set_option maxHeartbeats 1000000 in
theorem refzero_any (h : Nat) (hh : h ≤ 16) (w : World) :
    Calls Tryd.prog 33 #[.int .i64 h] w fun e w' => e = .returned (.agg (arr 32 (ub (zr h)))) ∧ Below w.heap.size w w' := by
  have hr2 : ((w.alloc (.cells z32 26)).alloc (.cells z32 26)).heap[w.heap.size]? = some (.cells (arr 32 (ub (zr 0))) 26 (0, 0)) := keep_alloc (at_z32 _ rfl) _
  have hr3 : ((w.alloc (.cells z32 26)).alloc (.cells z32 26)).heap[w.heap.size + 1]? = some (.cells (arr 32 (ub (zr 0))) 26 (0, 0)) := at_z32 _ (by simp)
  have hb0 : Below w.heap.size w ((w.alloc (.cells z32 26)).alloc (.cells z32 26)) := ((Below.refl _ _).alloc (Nat.le_refl _) _).alloc (by simp) _
  go_enter Tryd.func33, Tryd.ntmps33
  go_wp2_with fail
  go_loopw [4] (fun x wr => ∃ k : Nat, k ≤ h ∧ x = .int .i64 k ∧ wr.heap[w.heap.size]? = some (.cells (arr 32 (ub (zr 0))) 26 (0, 0)) ∧ wr.heap[w.heap.size + 1]? = some (.cells (arr 32 (ub (zr k))) 26 (0, 0)) ∧ Below w.heap.size w wr) (fun x _ => h - (intOf x).toNat)
  case atStart => exact ⟨0, by omega, rfl, hr2, hr3, hb0⟩
  case round =>
    obtain ⟨k, hk, rfl, hr2, hr3, hb⟩ := hrel
    obtain ⟨x, hx⟩ : ∃ x, x = zr k := ⟨_, rfl⟩
    rw [← hx] at hr3
    by_cases hlt : k < h
    · obtain ⟨y, hy⟩ : ∃ y, y = zr (k + 1) := ⟨_, rfl⟩
      have Hpair := Lib.hid (show ∀ w, Calls Tryd.prog 18 #[.agg (arr 32 (ub x)), .agg (arr 32 (ub x))] w fun e w' => e = .returned (.agg (arr 32 (ub y))) ∧ Below w.heap.size w w' from fun w => by
        have := refpair_any x x w
        rw [arr_pr, hx] at this
        rw [hx, hy]; exact this)
      have Hy := Lib.hid hy
      have Hr2 := Lib.hid hr2
      have Hr3 := Lib.hid hr3
      have Hb := Lib.hid hb
      have tok : True := trivial
      clear hx hy hr2 hb
      go_wp2_with (first
        | (guard_target = wpList _ _ _ (⟨some 10, _, _, _, _, _⟩ :: _) _ _; refine wpList_load_row rfl 26 (.tmp 3) rfl (w.heap.size + 1) rfl 26 (arr 32 (ub x)) (0, 0) _ hr3 Tryd.underlying26 rfl (infB _) ?_)
        | (guard_target = wpList _ _ _ (⟨some 11, _, _, _, _, _⟩ :: _) _ _; refine wpList_load_row rfl 26 (.tmp 3) rfl (w.heap.size + 1) rfl 26 (arr 32 (ub x)) (0, 0) _ hr3 Tryd.underlying26 rfl (infB _) ?_; clear hr3)
        | (go_at_call 18; refine (Hpair.out _).mono ?_; rintro e w2 ⟨rfl, hb2⟩; have e2 := keep_below hb2 Hr2.out (lt_row Hr2.out); have e3 := keep_below hb2 Hr3.out (lt_row Hr3.out); have hb2' := Hb.out.trans (hb2.mono Hb.out.size); have hth := there_row (n := 32) e3 (by simp); have k2 := ((only_setCells (g := w.heap.size + 1) (arr 32 (ub y)).toList 0 w2 (only_refl w2 _)).block w.heap.size (lt_row e2) (by simp)).trans e2; have k3 := setCells_all e3 (arr 32 (ub y)) (by simp); have kb := hb2'.trans (below_only (only_setCells (g := w.heap.size + 1) (arr 32 (ub y)).toList 0 w2 (only_refl w2 _)) (Nat.le_succ _) hb2'.size); have K2 := Lib.hid k2; have K3 := Lib.hid k3; have Kb := Lib.hid kb; clear k2 k3 kb e2 e3 hb2 hb2')
        | (guard_target = wpList _ _ _ (⟨_, Op.store _ (.tmp 3) _, _, _, _, _⟩ :: _) _ _; refine wpList_store_mid rfl 26 (.tmp 3) (.tmp 12) rfl (w.heap.size + 1) 0 (arr 32 (ub y)) rfl rfl (by rw [arr_size]; exact hth) (infB _) (bytes_one 32 _) ?_; have k2 := K2.out; have k3 := K3.out; have kb := Kb.out; clear K2 K3 Kb hth; generalize w2.setCells (w.heap.size + 1) 0 (arr 32 (ub y)).toList = w3 at k2 k3 kb ⊢))
      exact ⟨⟨k + 1, by omega, by go_num, k2, by rw [← Hy.out]; exact k3, kb⟩, by simp [intOf]; omega⟩
    · obtain rfl : k = h := by omega
      have Hx := Lib.hid hx
      clear hx
      have hth := there_row (n := 32) hr2 (by simp)
      have Hr2 := Lib.hid hr2
      clear hr2
      go_wp2_with (first
        | (guard_target = wpList _ _ _ (⟨some 13, _, _, _, _, _⟩ :: _) _ _; refine wpList_load_row rfl 26 (.tmp 3) rfl (w.heap.size + 1) rfl 26 (arr 32 (ub x)) (0, 0) _ hr3 Tryd.underlying26 rfl (infB _) ?_; clear hr3)
        | (guard_target = wpList _ _ _ (⟨_, Op.store _ (.tmp 2) _, _, _, _, _⟩ :: _) _ _; refine wpList_store_mid rfl 26 (.tmp 2) (.tmp 13) rfl w.heap.size 0 (arr 32 (ub x)) rfl rfl (by rw [arr_size]; exact hth) (infB _) (bytes_one 32 _) ?_))
      rw [← Hx.out]
      exact bodyPost_ret (results_cell_row (p := 2) (ty := 26) rfl _ _ w.heap.size 26 _ (0, 0) _ rfl (setCells_all Hr2.out _ (by simp)) Tryd.underlying26 rfl (infB _)) rfl ⟨rfl, hb.trans (below_only (only_setCells _ _ _ (only_refl _ _)) (Nat.le_refl _) hb.size)⟩
end Go.Proofs.YtikkebjhnechdaaDoor
namespace Go.Mt
open Go.RowKit
section
variable {P : Program} {ops : Array Oper} {rest : List Oper} {o : Oper} {a : Act} {w : World} {Q : Exit → Act → World → Prop}
/-- An operation on two values whose outcome is known. -/
theorem wpList_bin (hg : o.guard = none) (bo : BinOp) (t t' : TypeId) (x y : Operand) (ho : o.op = .binOp bo t x y t') (vx vy v : Value) (hx : a.eval x = vx) (hy : a.eval y = vy) (he : eqGuard bo t x y vx vy = pure ()) (hb : binOp bo t vx vy = pure v)
    (h : wpList P ops Q rest (a.put o.dst v) w) : wpList P ops Q (o :: rest) a w :=
  wpList_plain hg fun _ hK => by
    unfold Oper.wp execOp
    simp only [ho, hx, hy, he, hb, Sem.run_bind, Sem.run_pure, Result.andThen_ok]
    exact hK _ _ h
end
theorem bin_shr (t : TypeId) (i h : Nat) (yk : IntKind) (hh : h ≤ 60) : binOp .shr t (.int .i64 (i : Int)) (.int yk (h : Int)) = pure (.int .i64 ((i / 2 ^ h : Nat) : Int)) := by
  have e : ((i : Nat) : Int).fdiv (2 ^ min h 64) = ((i / 2 ^ h : Nat) : Int) := by
    rw [Nat.min_eq_left (by omega), Int.fdiv_eq_ediv_of_nonneg _ (Int.le_of_lt (Int.pow_pos (by decide))), Int.natCast_ediv, Int.natCast_pow]; rfl
  show Op.shift .shr .i64 (i : Int) yk (h : Int) = _
  simp only [Op.shift, if_neg (show ¬ (h : Int) < 0 by omega), IntKind.bits, Int.toNat_natCast]
  simp [e]
theorem bin_shl (t : TypeId) (s h : Nat) (yk : IntKind) (hh : h ≤ 60) (hb : 2 ^ h * s < 4611686018427387904) : binOp .shl t (.int .i64 (s : Int)) (.int yk (h : Int)) = pure (.int .i64 ((2 ^ h * s : Nat) : Int)) := by
  have e : IntKind.i64.wrap ((s : Int) * 2 ^ min h 64) = ((2 ^ h * s : Nat) : Int) := by
    rw [Nat.min_eq_left (by omega)]
    have e2 : (s : Int) * 2 ^ h = ((2 ^ h * s : Nat) : Int) := by rw [Int.natCast_mul, Int.natCast_pow, Int.mul_comm]; rfl
    rw [e2]
    obtain ⟨q, hq⟩ : ∃ q, q = 2 ^ h * s := ⟨_, rfl⟩
    rw [← hq] at hb ⊢
    exact wrap_i64_of (by omega) (by omega)
  show Op.shift .shl .i64 (s : Int) yk (h : Int) = _
  simp only [Op.shift, if_neg (show ¬ (h : Int) < 0 by omega), IntKind.bits, Int.toNat_natCast]
  simp [e]
end Go.Mt
namespace Go.Proofs.YtikkebjhnechdaaDoor
open Go.RowKit Go.Mt
theorem build1B (w : World) {ops : Array Oper} {rest : List Oper} {o : Oper} {a : Act} {Q : Exit → Act → World → Prop} (hg : o.guard = none) (x : Operand) (ho : o.op = .buildSlice 48 1 #[(0, x)]) (f : Nat → BitVec 8) (hx : a.eval x = .agg (arr 32 (ub f))) (N : Nat) (hN : w.heap.size = N)
    (h : wpList Tryd.prog ops Q rest (a.put o.dst (.slice (some ⟨N, 0, none⟩) 1 1)) (w.alloc (.cells (arr 32 (ub f)) 26))) : wpList Tryd.prog ops Q (o :: rest) a w :=
  wpList_plain hg fun _ hK => wp_build1B x ho f hx N hN (hK _ _ h)

set_option maxRecDepth 100000 in
set_option maxHeartbeats 1000000 in
theorem refpath_any (d n i : Nat) (lp : Option Addr) (lb lo c : Nat) (L : Nat → Dg) (w : World) (hd : d ≤ 16) (hn : n ≤ 2 ^ d) (hi : i < 2 ^ d) (hlp : 0 < n → lp = some ⟨lb, lo, none⟩) (hlb : 0 < n → lb < w.heap.size) (hL : DgsAt w lb lo n L) :
    Calls Tryd.prog 30 #[.int .i64 d, .slice lp n c, .int .i64 i] w fun e w' => ∃ v, e = .returned (.tuple #[v, .int .i64 0]) ∧ w'.ownsRow w.heap.size 26 32 v d (dl (firstL (pathF L n i) d)) ∧ Below w.heap.size w w' := by
  have hp16 : 2 ^ d ≤ 65536 := Nat.pow_le_pow_right (n := 2) (by decide) hd
  have hi16 : i ≤ 65536 := by omega
  have hpw : ((i : Nat) : Int) < pw (d : Int) := by rw [pw_nat]; omega
  have hd62 : (d : Int) ≤ 62 := by omega
  have Hw := Lib.hid (wrong_ok d n w hd hn)
  have Hu := Lib.hid (show ∀ w' g cap (h s : Nat), h < d → s ≤ i / 2 ^ h + 1 → Below w.heap.size w w' → g < w'.heap.size → DgsAt w' g 0 17 zr → Calls Tryd.prog 45 #[.slice lp n c, .int .i64 ((2 ^ h * s : Nat) : Int), .int .i64 h, .slice (some ⟨g, 0, none⟩) 17 cap] w' fun e w'' => e = .returned (.agg (arr 32 (ub (node L n h s)))) ∧ Below w'.heap.size w' w'' from fun w' g cap h s h0 hs h1 h2 h3 => by
    have hb : 2 ^ h * (s + 1) ≤ 1048576 := by
      have q1 : 2 ^ h ≤ 65536 := Nat.pow_le_pow_right (n := 2) (by decide) (show h ≤ 16 by omega)
      have q2 : 2 ^ h * (i / 2 ^ h) ≤ i := Nat.mul_div_le i (2 ^ h)
      have q3 : 2 ^ h * (s + 1) ≤ 2 ^ h * (i / 2 ^ h + 2) := Nat.mul_le_mul_left _ (by omega)
      have q4 : 2 ^ h * (i / 2 ^ h + 2) = 2 ^ h * (i / 2 ^ h) + 2 ^ h * 2 := Nat.mul_add _ _ _
      omega
    exact under_any lp lb lo n c L g cap hlp (by omega) h s _ w' rfl (by omega) hb (fun h => Nat.lt_of_lt_of_le (hlb h) h1.size) (by
      by_cases h0 : 0 < n
      · exact hL.below h1 (hlb h0)
      · exact fun q hq => by omega) h2 h3)
  clear hn hi hp16 hL hlp hlb
  go_enter Tryd.func30, Tryd.ntmps30
  go_wp2_with (first
    | (go_at_call 48; refine Hw.out.mono ?_; rintro e w1 ⟨rfl, rfl⟩)
    | (go_at_call 46; refine (zeros_any _).mono ?_; rintro e w2 ⟨g, cap, rfl, -, hg, hZ, hb2⟩; have HZ := Lib.hid hZ; clear hZ))
  go_loopw [10, 11] (fun v y wr => ∃ h : Nat, h ≤ d ∧ y = .int .i64 h ∧ wr.ownsRow w2.heap.size 26 32 v (firstL (pathF L n i) h).length (dl (firstL (pathF L n i) h)) ∧ Below w2.heap.size w2 wr) (fun _ y _ => d - (intOf y).toNat)
  case atStart => exact ⟨0, by omega, rfl, World.ownsRow_nil _ _ _ _, Below.refl _ _⟩
  case round =>
    obtain ⟨h, hh, rfl, ho, hb⟩ := hrel
    obtain ⟨v, rfl⟩ : ∃ v, v = u10 := ⟨_, rfl⟩
    obtain ⟨wi, rfl⟩ : ∃ wi : World, wi = wr := ⟨_, rfl⟩
    by_cases hlt : h < d
    · obtain ⟨ih, hih⟩ : ∃ ih, ih = i / 2 ^ h := ⟨_, rfl⟩
      have hih16 : ih ≤ 65536 := by rw [hih]; exact Nat.le_trans (Nat.div_le_self _ _) hi16
      obtain ⟨s, hs⟩ : ∃ s, s = sib ih := ⟨_, rfl⟩
      have hsi : s ≤ ih + 1 := by rw [hs]; unfold sib; split <;> omega
      have hxor : bits .xor .i64 (ih : Int) 1 = (s : Int) := by rw [hs]; exact bits_xor_one (by omega)
      obtain ⟨y, hy⟩ : ∃ y, y = node L n h s := ⟨_, rfl⟩
      have hnx : firstL (pathF L n i) (h + 1) = firstL (pathF L n i) h ++ [y] := by rw [firstL_succ, hy, hs, hih]; rfl
      have hshr : binOp .shr 3 (.int .i64 (i : Int)) (.int .u64 (h : Int)) = pure (.int .i64 (ih : Int)) := by rw [hih]; exact bin_shr _ i h .u64 (by omega)
      obtain ⟨fr, hfr⟩ : ∃ fr, fr = 2 ^ h * s := ⟨_, rfl⟩
      have hshl : binOp .shl 3 (.int .i64 (s : Int)) (.int .u64 (h : Int)) = pure (.int .i64 (fr : Int)) := by
        rw [hfr]; refine bin_shl _ s h .u64 (by omega) ?_
        have q1 : 2 ^ h ≤ 65536 := Nat.pow_le_pow_right (n := 2) (by decide) (show h ≤ 16 by omega)
        have q2 : 2 ^ h * s ≤ 65536 * 65537 := Nat.mul_le_mul q1 (by omega)
        omega
      have hgi : g < wi.heap.size := Nat.lt_of_lt_of_le hg hb.size
      have Hun := Lib.hid (show Calls Tryd.prog 45 #[.slice lp n c, .int .i64 fr, .int .i64 h, .slice (some ⟨g, 0, none⟩) 17 cap] wi fun e w'' => e = .returned (.agg (arr 32 (ub y))) ∧ Below wi.heap.size wi w'' from by
        rw [hfr, hy]; exact Hu.out wi g cap h s hlt (by omega) (hb2.trans (hb.mono hb2.size)) hgi (HZ.out.below hb hg))
      have hlim : (firstL (pathF L n i) h).length + [y].length ≤ 4398046511104 := by rw [firstL_length]; simp; omega
      have Hnx := Lib.hid hnx
      have Ho := Lib.hid ho
      have Hb := Lib.hid hb
      have Hshr := Lib.hid hshr
      have Hshl := Lib.hid hshl
      clear hnx ho hb hy hs hih hfr hshr hshl
      go_wp2_with (first
        | (guard_target = wpList _ _ _ (⟨some 38, _, _, _, _, _⟩ :: _) _ _; refine wpList_bin rfl .shr 3 49 (.tmp 35) (.tmp 37) rfl _ _ (.int .i64 (ih : Int)) rfl rfl rfl Hshr.out ?_)
        | (guard_target = wpList _ _ _ (⟨some 45, _, _, _, _, _⟩ :: _) _ _; refine wpList_bin rfl .shl 3 49 (.tmp 42) (.tmp 44) rfl _ _ (.int .i64 (fr : Int)) rfl rfl rfl Hshl.out ?_)
        | (go_at_call 45; refine Hun.out.mono ?_; rintro e w3 ⟨rfl, hb3⟩; have ho4 := (own_below Ho.out hb3 (Nat.le_refl _)).alloc (.cells (arr 32 (ub y)) 26); have hb4 := (Hb.out.trans (hb3.mono Hb.out.size)).alloc (Nat.le_trans Hb.out.size hb3.size) (.cells (arr 32 (ub y)) 26); have hs4 := hb4.size; clear hb3)
        | (guard_target = wpList _ _ _ (⟨_, Op.buildSlice _ _ _, _, _, _, _⟩ :: _) _ _; refine build1B _ rfl (.tmp 48) rfl y rfl w3.heap.size rfl ?_)
        | (at_builtin; refine appendBs rfl (.tmp 40) (.tmp 49) rfl w2.heap.size v (firstL (pathF L n i) h) [y] rfl ho4 ⟨w3.heap.size, 0, none⟩ 1 rfl (src_one (src_new w3 y _)) hlim hs4 ?_; intro v' w9 hv9 hk9 hat9; rw [← Hnx.out] at hv9; have hb9 : Below w2.heap.size w2 w9 := hb4.trans (hk9.below hs4 (fun q hq h => by have := ho4.lt q h; omega)); clear hk9 hat9 ho4 hb4 hs4))
      exact ⟨⟨h + 1, by omega, by go_num, hv9, hb9⟩, by simp [intOf]; omega⟩
    · obtain rfl : h = d := by omega
      rw [firstL_length] at ho
      have Ho := Lib.hid ho
      clear ho
      go_wp2_with fail
      go_ret2
      exact ⟨_, rfl, own_base Ho.out hb2.size, hb2.trans (hb.mono hb2.size)⟩

set_option maxHeartbeats 1000000 in
/-- A tree that may not be. -/
theorem refpath_bad (D : Int) (n : Nat) (i : Int) (lp : Option Addr) (c : Nat) (k : Int) (w : World) (hk : Bad D n k) (hk0 : k ≠ 0) :
    Calls Tryd.prog 30 #[.int .i64 D, .slice lp n c, .int .i64 i] w fun e w' => e = .returned (.tuple #[.slice none 0 0, .int .i64 k]) ∧ w' = w := by
  have Hw := Lib.hid (wrong_bad D n k w hk)
  have hkn : (k != 0) = true := by simpa using hk0
  clear hk
  go_enter Tryd.func30, Tryd.ntmps30
  go_wp2_with (go_at_call 48; refine Hw.out.mono ?_; rintro e w1 ⟨rfl, rfl⟩)
  go_ret2
  exact ⟨rfl, rfl⟩
set_option maxHeartbeats 1000000 in
/-- A place that is none. -/
theorem refpath_far (d n : Nat) (I : Int) (lp : Option Addr) (c : Nat) (w : World) (hd : d ≤ 16) (hn : n ≤ 2 ^ d) (hI : I < 0 ∨ (0 ≤ I ∧ pw (d : Int) ≤ I)) :
    Calls Tryd.prog 30 #[.int .i64 d, .slice lp n c, .int .i64 I] w fun e w' => e = .returned (.tuple #[.slice none 0 0, .int .i64 2]) ∧ w' = w := by
  have Hw := Lib.hid (wrong_ok d n w hd hn)
  have hd62 : (d : Int) ≤ 62 := by omega
  clear hn
  rcases hI with hI | ⟨h0, hI⟩
  all_goals
    go_enter Tryd.func30, Tryd.ntmps30
    go_wp2_with (go_at_call 48; refine Hw.out.mono ?_; rintro e w1 ⟨rfl, rfl⟩)
    go_ret2
    exact ⟨rfl, rfl⟩
set_option maxRecDepth 100000 in
set_option maxHeartbeats 1000000 in
theorem path_far (d n : Nat) (I : Int) (pp : Option Addr) (pb po c : Nat) (L : Nat → Dg) (w : World) (hT : Tabs w) (hd : d ≤ 16) (hn : n ≤ 2 ^ d) (hI : I < 0 ∨ (0 ≤ I ∧ pw (d : Int) ≤ I)) (hpp : 0 < n → pp = some ⟨pb, po, none⟩) (hpb : 0 < n → pb < w.heap.size)
    (hL : DgsAt w pb po n L) (hLn : ∀ k, norm (L k) = L k) :
    Calls Tryd.prog 27 #[.int .i64 d, .slice pp n c, .int .i64 I] w fun e w' => e = .returned (.tuple #[.slice none 0 0, .iface 44 (.int .i64 2)]) ∧ Below w.heap.size w w' := by
  have hd62 : (d : Int) ≤ 62 := by omega
  have Hlv := Lib.hid (levels_any d n pp pb po c L w hT hd hn hpp hpb hL hLn)
  clear hT hL hLn hn
  rcases hI with hI | ⟨h0, hI⟩
  all_goals
    go_enter Tryd.func27, Tryd.ntmps27
    go_wp2_with (first
      | (go_at_call 44; refine Hlv.out.mono ?_; rintro e w2 ⟨g, cap, vs, rfl, -, -, -, hb2⟩; clear Hlv)
      | (guard_target = wpList _ _ _ (⟨_, Op.store _ (.tmp 9) _, _, _, _, _⟩ :: _) _ _; refine wpList_store_new rfl 89 (.tmp 9) (.tmp 20) rfl w2.heap.size _ (hrow 17 zr) 89 rfl rfl rfl (zc_size _) (infZ _) (hrow_one 17 _) ?_))
    go_ret2
    exact ⟨rfl, hb2.alloc hb2.size _⟩
set_option maxRecDepth 100000 in
set_option maxHeartbeats 1000000 in
theorem zero_bad (I : Int) (w : World) (hI : I < 0 ∨ 16 < I) :
    Calls Tryd.prog 26 #[.int .i64 I] w fun e w' => e = .returned (.tuple #[.agg (arr 32 (ub fun _ => 0)), .iface 44 (.int .i64 2)]) ∧ Below w.heap.size w w' := by
  have infz : (Tryd.prog.info? 27).map (·.size) = some z32.size := by kernel_rfl
  have hz1 : z32.all (·.oneCell') = true := by kernel_rfl
  have hr0 : (w.alloc (.cells z32 27)).heap[w.heap.size]? = some (.cells z32 27 (0, 0)) := at_alloc _ rfl
  rw [← z32_eq]
  rcases hI with hI | hI
  all_goals
    go_enter Tryd.func26, Tryd.ntmps26
    go_wp2_with (first
      | (guard_target = wpList _ _ _ (⟨none, Op.store _ _ _, _, _, _, _⟩ :: _) _ _; refine wpList_store_mid rfl 27 (.tmp 2) (.tmp 10) rfl w.heap.size 0 z32 rfl rfl (there_row hr0 (Nat.le_refl _)) infz hz1 ?_))
    refine bodyPost_ret (results_row_tmp (p := 2) (u := 3) (ty := 27) rfl _ _ w.heap.size 27 _ (0, 0) _ rfl (setCells_all hr0 _ rfl) Tryd.underlying27 rfl infz) rfl ⟨rfl, ?_⟩
    exact ((Below.refl _ _).alloc (Nat.le_refl _) _).trans (below_only (only_setCells _ _ _ (only_refl _ _)) (Nat.le_refl _) (by simp))
end Go.Proofs.YtikkebjhnechdaaDoor
namespace Go.Mt
section
variable {P : Program} {ops : Array Oper} {rest : List Oper} {o : Oper} {a : Act} {w : World} {Q : Exit → Act → World → Prop}
theorem wpList_build0_g (hw : Region.wanted o (yielded ops a.tmps) = true) (t : TypeId) (parts : Array (Nat × Operand)) (ho : o.op = .build t parts) (v : Value) (hp : parts = #[]) (hrun : ∀ w, (Instr.build t #[]).run P w = .ok v w)
    (h : wpList P ops Q rest (a.put o.dst v) w) : wpList P ops Q (o :: rest) a w :=
  BigFrame.wpList_want hw fun _ hK => by
    have e : (parts.map fun (i, x) => (i, a.eval x)) = #[] := by subst hp; simp
    unfold Oper.wp execOp
    simp only [ho, Sem.run_bind, e, hrun w, Result.andThen_ok]
    exact hK _ _ h
end
end Go.Mt
namespace Go.Proofs.YtikkebjhnechdaaDoor
open Go.RowKit Go.Mt
theorem sz32B (w : World) : (sizeOf 26).run Tryd.prog w = .ok 32 w := by kernel_rfl
/-- A path, handed back. -/
def PathAt (w : World) (v : Value) (m : Nat) (F : Nat → Dg) : Prop := ∃ sp b c, v = .slice sp m c ∧ (0 < m → sp = some ⟨b, 0, none⟩) ∧ (0 < m → b < w.heap.size) ∧ (0 < m → DgsAt w b 0 m F)
theorem PathAt.below {w w' : World} {v : Value} {m : Nat} {F : Nat → Dg} (h : PathAt w v m F) (hb : Below w.heap.size w w') : PathAt w' v m F := by
  obtain ⟨sp, b, c, h1, h2, h3, h4⟩ := h
  exact ⟨sp, b, c, h1, h2, fun h0 => Nat.lt_of_lt_of_le (h3 h0) hb.size, fun h0 => (h4 h0).below hb (h3 h0)⟩
theorem pathAt_own {w : World} {base : Nat} {e : TypeId} {v : Value} {n : Nat} {F : Nat → Dg} (h : w.ownsRow base e 32 v n (dl (firstL F n))) : PathAt w v n F := by
  obtain ⟨sp, c, hv, -, -, hl⟩ := own_slice h
  by_cases h0 : 0 < n
  · obtain ⟨b, h1, -, h2, h3⟩ := hl h0
    exact ⟨sp, b, c, hv, fun _ => h1, fun _ => h2, fun _ => h3⟩
  · exact ⟨sp, 0, c, hv, fun h => absurd h h0, fun h => absurd h h0, fun h => absurd h h0⟩
theorem pathAt_nil (w : World) : PathAt w (.slice none 0 0) 0 (fun _ => zr 0) := ⟨none, 0, 0, rfl, fun h => absurd h (Nat.lt_irrefl _), fun h => absurd h (Nat.lt_irrefl _), fun h => absurd h (Nat.lt_irrefl _)⟩

/-- Both roots, and what number has the error. -/
theorem both_roots (D : Int) (n : Nat) (sp lp : Option Addr) (sb so c lb lo c' : Nat) (L : Nat → Dg) (w1 : World) (hT : Tabs w1) (hn : n ≤ 4398046511104) (hsp : 0 < n → sp = some ⟨sb, so, none⟩) (hsb : 0 < n → sb < w1.heap.size) (hS : DgsAt w1 sb so n L)
    (hlp : 0 < n → lp = some ⟨lb, lo, none⟩) (hlb : 0 < n → lb < w1.heap.size) (hL : DgsAt w1 lb lo n L) (hLn : ∀ k, norm (L k) = L k) :
    ∃ (x : Dg) (ev : Value) (k : Int), (∀ w', Below w1.heap.size w1 w' → Calls Tryd.prog 24 #[.int .i64 D, .slice sp n c] w' fun e w'' => e = .returned (.tuple #[.agg (arr 32 (ub x)), ev]) ∧ Below w'.heap.size w' w'') ∧
      (∀ w', Below w1.heap.size w1 w' → Calls Tryd.prog 29 #[.int .i64 D, .slice lp n c'] w' fun e w'' => e = .returned (.tuple #[.agg (arr 32 (ub x)), .int .i64 k]) ∧ Below w'.heap.size w' w'') ∧
      (∀ w', ErrT w' → Calls Tryd.prog 31 #[ev] w' fun e w'' => e = .returned (.int .i64 k) ∧ Below w'.heap.size w' w'') := by
  have hTw : ∀ w', Below w1.heap.size w1 w' → Tabs w' := fun w' h => hT.below h hT.2.2.2
  have keepD : ∀ {b o : Nat} w', Below w1.heap.size w1 w' → (0 < n → b < w1.heap.size) → DgsAt w1 b o n L → DgsAt w' b o n L := fun w' h hb hD => by
    by_cases h0 : 0 < n
    · exact hD.below h (hb h0)
    · exact fun q hq => by omega
  have bad : ∀ k, k ≠ 0 → Bad D n k → ∃ (x : Dg) (ev : Value) (k : Int), (∀ w', Below w1.heap.size w1 w' → Calls Tryd.prog 24 #[.int .i64 D, .slice sp n c] w' fun e w'' => e = .returned (.tuple #[.agg (arr 32 (ub x)), ev]) ∧ Below w'.heap.size w' w'') ∧
      (∀ w', Below w1.heap.size w1 w' → Calls Tryd.prog 29 #[.int .i64 D, .slice lp n c'] w' fun e w'' => e = .returned (.tuple #[.agg (arr 32 (ub x)), .int .i64 k]) ∧ Below w'.heap.size w' w'') ∧
      (∀ w', ErrT w' → Calls Tryd.prog 31 #[ev] w' fun e w'' => e = .returned (.int .i64 k) ∧ Below w'.heap.size w' w'') := fun k hk hb =>
    ⟨fun _ => 0, .iface 44 (.int .i64 k), k, fun w' h => root_bad D n sp c k w' (hTw w' h) hb, fun w' h => refroot_bad D n lp c' k w' hb hk, fun w' h => number_any k w' h⟩
  by_cases hD : 0 ≤ D ∧ D ≤ 16
  · obtain ⟨d, rfl⟩ : ∃ d : Nat, D = (d : Int) := ⟨D.toNat, by omega⟩
    have hd : d ≤ 16 := by omega
    by_cases hn2 : n ≤ 2 ^ d
    · exact ⟨node L n d 0, .nilIface, 0, fun w' h => root_any d n sp sb so c L w' (hTw w' h) hd hn2 hsp (fun h0 => Nat.lt_of_lt_of_le (hsb h0) h.size) (keepD w' h hsb hS) hLn,
        fun w' h => refroot_any d n lp lb lo c' L w' hd hn2 hlp (fun h0 => Nat.lt_of_lt_of_le (hlb h0) h.size) (keepD w' h hlb hL), fun w' _ => (number_nil w').mono fun e w'' ⟨h1, h2⟩ => ⟨h1, by rw [h2]; exact Below.refl _ _⟩⟩
    · exact bad 5 (by decide) (.inr ⟨hD.1, hD.2, by rw [pw_nat]; omega, rfl⟩)
  · exact bad 2 (by decide) (.inl ⟨by omega, rfl⟩)
/-- Both paths. -/
theorem both_paths (D I : Int) (n : Nat) (sp lp : Option Addr) (sb so c lb lo c' : Nat) (L : Nat → Dg) (w1 : World) (hT : Tabs w1) (hn : n ≤ 4398046511104) (hsp : 0 < n → sp = some ⟨sb, so, none⟩) (hsb : 0 < n → sb < w1.heap.size) (hS : DgsAt w1 sb so n L)
    (hlp : 0 < n → lp = some ⟨lb, lo, none⟩) (hlb : 0 < n → lb < w1.heap.size) (hL : DgsAt w1 lb lo n L) (hLn : ∀ k, norm (L k) = L k) :
    ∃ (m : Nat) (F : Nat → Dg) (ev : Value) (k : Int), m ≤ 16 ∧ (∀ w', Below w1.heap.size w1 w' → Calls Tryd.prog 27 #[.int .i64 D, .slice sp n c, .int .i64 I] w' fun e w'' => ∃ v, e = .returned (.tuple #[v, ev]) ∧ PathAt w'' v m F ∧ Below w'.heap.size w' w'') ∧
      (∀ w', Below w1.heap.size w1 w' → Calls Tryd.prog 30 #[.int .i64 D, .slice lp n c', .int .i64 I] w' fun e w'' => ∃ v, e = .returned (.tuple #[v, .int .i64 k]) ∧ PathAt w'' v m F ∧ Below w'.heap.size w' w'') ∧
      (∀ w', ErrT w' → Calls Tryd.prog 31 #[ev] w' fun e w'' => e = .returned (.int .i64 k) ∧ Below w'.heap.size w' w'') := by
  have hTw : ∀ w', Below w1.heap.size w1 w' → Tabs w' := fun w' h => hT.below h hT.2.2.2
  have keepD : ∀ {b o : Nat} w', Below w1.heap.size w1 w' → (0 < n → b < w1.heap.size) → DgsAt w1 b o n L → DgsAt w' b o n L := fun w' h hb hD => by
    by_cases h0 : 0 < n
    · exact hD.below h (hb h0)
    · exact fun q hq => by omega
  have bad : ∀ k, k ≠ 0 → Bad D n k → ∃ (m : Nat) (F : Nat → Dg) (ev : Value) (k : Int), m ≤ 16 ∧ (∀ w', Below w1.heap.size w1 w' → Calls Tryd.prog 27 #[.int .i64 D, .slice sp n c, .int .i64 I] w' fun e w'' => ∃ v, e = .returned (.tuple #[v, ev]) ∧ PathAt w'' v m F ∧ Below w'.heap.size w' w'') ∧
      (∀ w', Below w1.heap.size w1 w' → Calls Tryd.prog 30 #[.int .i64 D, .slice lp n c', .int .i64 I] w' fun e w'' => ∃ v, e = .returned (.tuple #[v, .int .i64 k]) ∧ PathAt w'' v m F ∧ Below w'.heap.size w' w'') ∧
      (∀ w', ErrT w' → Calls Tryd.prog 31 #[ev] w' fun e w'' => e = .returned (.int .i64 k) ∧ Below w'.heap.size w' w'') := fun k hk hb =>
    ⟨0, fun _ => zr 0, .iface 44 (.int .i64 k), k, by omega, fun w' h => (path_bad D n I sp c k w' (hTw w' h) hb).mono fun e w'' ⟨h1, h2⟩ => ⟨_, h1, pathAt_nil _, h2⟩,
      fun w' h => (refpath_bad D n I lp c' k w' hb hk).mono fun e w'' ⟨h1, h2⟩ => ⟨_, h1, pathAt_nil _, by rw [h2]; exact Below.refl _ _⟩, fun w' h => number_any k w' h⟩
  by_cases hD : 0 ≤ D ∧ D ≤ 16
  · obtain ⟨d, rfl⟩ : ∃ d : Nat, D = (d : Int) := ⟨D.toNat, by omega⟩
    have hd : d ≤ 16 := by omega
    by_cases hn2 : n ≤ 2 ^ d
    · by_cases hI : 0 ≤ I ∧ I < ((2 ^ d : Nat) : Int)
      · obtain ⟨i, rfl⟩ : ∃ i : Nat, I = (i : Int) := ⟨I.toNat, by omega⟩
        have hi : i < 2 ^ d := by omega
        exact ⟨d, pathF L n i, .nilIface, 0, hd, fun w' h => (path_any d n i sp sb so c L w' (hTw w' h) hd hn2 hi hsp (fun h0 => Nat.lt_of_lt_of_le (hsb h0) h.size) (keepD w' h hsb hS) hLn).mono fun e w'' ⟨v, h1, h2, h3⟩ => ⟨v, h1, pathAt_own h2, h3⟩,
          fun w' h => (refpath_any d n i lp lb lo c' L w' hd hn2 hi hlp (fun h0 => Nat.lt_of_lt_of_le (hlb h0) h.size) (keepD w' h hlb hL)).mono fun e w'' ⟨v, h1, h2, h3⟩ => ⟨v, h1, pathAt_own h2, h3⟩,
          fun w' _ => (number_nil w').mono fun e w'' ⟨h1, h2⟩ => ⟨h1, by rw [h2]; exact Below.refl _ _⟩⟩
      · have hI' : I < 0 ∨ (0 ≤ I ∧ pw (d : Int) ≤ I) := by rw [pw_nat]; omega
        exact ⟨0, fun _ => zr 0, .iface 44 (.int .i64 2), 2, by omega, fun w' h => (path_far d n I sp sb so c L w' (hTw w' h) hd hn2 hI' hsp (fun h0 => Nat.lt_of_lt_of_le (hsb h0) h.size) (keepD w' h hsb hS) hLn).mono fun e w'' ⟨h1, h2⟩ => ⟨_, h1, pathAt_nil _, h2⟩,
          fun w' h => (refpath_far d n I lp c' w' hd hn2 hI').mono fun e w'' ⟨h1, h2⟩ => ⟨_, h1, pathAt_nil _, by rw [h2]; exact Below.refl _ _⟩, fun w' h => number_any 2 w' h⟩
    · exact bad 5 (by decide) (.inr ⟨hD.1, hD.2, by rw [pw_nat]; omega, rfl⟩)
  · exact bad 2 (by decide) (.inl ⟨by omega, rfl⟩)
end Go.Proofs.YtikkebjhnechdaaDoor
