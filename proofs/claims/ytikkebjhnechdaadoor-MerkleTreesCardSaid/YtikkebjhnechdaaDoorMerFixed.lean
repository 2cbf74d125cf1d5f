/- Walk: mootlaw05.fixed. -/
import Derived.Test.YtikkebjhnechdaaDoorMerRefuse
import Derived.Test.YtikkebjhnechdaaDoorMtEq
namespace Go.Mt
def one : Dg := fun i => if i = 0 then 1 else 0
def two : Dg := fun i => if i = 0 then 2 else 0
section
variable {P : Program} {ops : Array Oper} {rest : List Oper} {o : Oper} {a : Act} {w : World} {Q : Exit → Act → World → Prop}
/-- An array built of constants. -/
theorem wpList_buildC (hg : o.guard = none) (t : TypeId) (parts : Array (Nat × Operand)) (ho : o.op = .build t parts) (v u : Value) (hp : parts = #[(0, .const u)]) (hrun : ∀ w, (Instr.build t #[(0, u)]).run P w = .ok v w)
    (h : wpList P ops Q rest (a.put o.dst v) w) : wpList P ops Q (o :: rest) a w :=
  wpList_plain hg fun _ hK => by
    have e : (parts.map fun (i, x) => (i, a.eval x)) = #[(0, u)] := by subst hp; simp [Act.eval]
    unfold Oper.wp execOp
    simp only [ho, Sem.run_bind, e, hrun w, Result.andThen_ok]
    exact hK _ _ h
theorem quiet_buildC {C : World → Prop} {K : Act → Prop} (t : TypeId) (parts : Array (Nat × Operand)) (ho : o.op = .build t parts) (v u : Value) (hp : parts = #[(0, .const u)]) (hrun : ∀ w, (Instr.build t #[(0, u)]).run P w = .ok v w)
    (h : K (a.put o.dst v)) : o.quiet P a C K :=
  ⟨v, fun w _ => by
    have e : (parts.map fun (i, x) => (i, a.eval x)) = #[(0, u)] := by subst hp; simp [Act.eval]
    unfold Oper.quietAt execOp
    simp only [ho, Sem.run_bind, e, hrun w, Result.andThen_ok]
    exact ⟨rfl, rfl⟩, h⟩
end
end Go.Mt
namespace Go.Proofs.YtikkebjhnechdaaDoor
open Go.RowKit Go.Mt
theorem buildH1 (w : World) : (Instr.build 27 #[(0, .int .u8 1)]).run Tryd.prog w = .ok (.agg (arr 32 (ub one))) w := by kernel_rfl
theorem buildH2 (w : World) : (Instr.build 27 #[(0, .int .u8 2)]).run Tryd.prog w = .ok (.agg (arr 32 (ub two))) w := by kernel_rfl
theorem buildB1 (w : World) : (Instr.build 26 #[(0, .int .u8 1)]).run Tryd.prog w = .ok (.agg (arr 32 (ub one))) w := by kernel_rfl
theorem zh_size : z32.size = 32 := by kernel_rfl
theorem fill12 : Instr.fill (fun i => some (i * 32, 32)) ((Array.range (2 * 32)).map (z32[· % z32.size]!)) [(0, .agg (arr 32 (ub one))), (1, .agg (arr 32 (ub two)))] = some (arr 32 (ub one) ++ arr 32 (ub two)) := by kernel_rfl

theorem build12 {ops : Array Oper} {rest : List Oper} {o : Oper} {a : Act} {w : World} {Q : Exit → Act → World → Prop} (hg : o.guard = none) (x y : Operand) (ho : o.op = .buildSlice 50 2 #[(0, x), (1, y)]) (hx : a.eval x = .agg (arr 32 (ub one))) (hy : a.eval y = .agg (arr 32 (ub two)))
    (h : wpList Tryd.prog ops Q rest (a.put o.dst (.slice (some ⟨w.heap.size, 0, none⟩) 2 2)) (w.alloc (.cells (arr 32 (ub one) ++ arr 32 (ub two)) 27))) : wpList Tryd.prog ops Q (o :: rest) a w := by
  have hs : Tryd.t27.size = 32 := by kernel_rfl
  refine wpList_buildSlice hg 50 27 2 _ ho (arr 32 (ub one) ++ arr 32 (ub two)) Tryd.t27 (.agg z32) Tryd.underlying50 (by kernel_rfl) (by kernel_rfl) (by rw [hs]; decide) (by rw [hs]; decide) ?_ h
  have e1 : ((#[(0, x), (1, y)] : Array (Nat × Operand)).map fun (i, x) => (i, a.eval x)).toList = [(0, .agg (arr 32 (ub one))), (1, .agg (arr 32 (ub two)))] := by simp [hx, hy]
  rw [e1, hs]
  exact fill12

set_option maxRecDepth 100000 in
set_option maxHeartbeats 2000000 in
theorem fixedM_any (w : World) (hT : Tabs w) :
    Calls Tryd.prog 25 #[] w fun e w' => e = .returned (.bool true) ∧ Below w.heap.size w w' := by
  have hz := hT.2.2.2
  have HT := Lib.hid hT
  clear hT
  have hn1 : ∀ k, norm ((fun _ => one : Nat → Dg) k) = (fun _ => one : Nat → Dg) k := fun _ => by
    funext i
    show norm one i = one i
    unfold norm one
    split
    · rfl
    · rw [if_neg (by omega)]
  have hD1 : ∀ (w : World) (t : TypeId), DgsAt (w.alloc (.cells (arr 32 (ub one)) t)) w.heap.size 0 1 (fun _ => one) := fun w t k hk => by
    obtain rfl : k = 0 := by omega
    exact range_of_row (at_alloc _ rfl)
  have hb0 : Below w.heap.size w (w.alloc (.cells (arr 32 (ub one)) 27)) := (Below.refl _ _).alloc (Nat.le_refl _) _
  obtain ⟨r, hr⟩ : ∃ r, r = node (fun _ => one) 1 1 0 := ⟨_, rfl⟩
  have H1 := Lib.hid (show Calls Tryd.prog 24 #[.int .i64 1, .slice (some ⟨w.heap.size, 0, none⟩) 1 1] (w.alloc (.cells (arr 32 (ub one)) 27)) fun e w' => e = .returned (.tuple #[.agg (arr 32 (ub r)), .nilIface]) ∧ Below (w.alloc (.cells (arr 32 (ub one)) 27)).heap.size (w.alloc (.cells (arr 32 (ub one)) 27)) w' by
    rw [hr]; exact root_any 1 1 _ w.heap.size 0 1 (fun _ => one) _ (HT.out.below hb0 hz) (by decide) (by decide) (fun _ => rfl) (fun _ => by simp) (hD1 w _) hn1)
  have H2 := Lib.hid (show ∀ w1, Tabs w1 → Calls Tryd.prog 27 #[.int .i64 1, .slice (some ⟨w1.heap.size, 0, none⟩) 1 1, .int .i64 1] (w1.alloc (.cells (arr 32 (ub one)) 27)) fun e w' => ∃ v, e = .returned (.tuple #[v, .nilIface]) ∧ w'.ownsRow (w1.alloc (.cells (arr 32 (ub one)) 27)).heap.size 27 32 v 1 (dl (firstL (pathF (fun _ => one) 1 1) 1)) ∧ Below (w1.alloc (.cells (arr 32 (ub one)) 27)).heap.size (w1.alloc (.cells (arr 32 (ub one)) 27)) w' from fun w1 h =>
    path_any 1 1 1 _ w1.heap.size 0 1 (fun _ => one) _ (h.below ((Below.refl _ _).alloc (Nat.le_refl _) _) h.2.2.2) (by decide) (by decide) (by decide) (fun _ => rfl) (fun _ => by simp) (hD1 w1 _) hn1)
  have H3 := Lib.hid (show ∀ w1 b, Tabs w1 → Calls Tryd.prog 24 #[.int .i64 0, .slice (some ⟨b, 0, none⟩) 2 2] w1 fun e w' => e = .returned (.tuple #[.agg (arr 32 (ub fun _ => 0)), .iface 44 (.int .i64 5)]) ∧ Below w1.heap.size w1 w' from fun w1 b h =>
    root_bad 0 2 _ 2 5 w1 h (.inr ⟨by decide, by decide, by decide, rfl⟩))
  have Hr := Lib.hid hr
  have Hn1 := Lib.hid hn1
  have HD1 := Lib.hid hD1
  clear hr hn1 hD1
  go_enter Tryd.func25, Tryd.ntmps25
  go_wp2_with (first
    | (guard_target = wpList _ _ _ (⟨some 8, _, _, _, _, _⟩ :: _) _ _; refine wpList_buildC rfl 27 _ rfl (.agg (arr 32 (ub one))) (.int .u8 1) rfl buildH1 ?_)
    | (guard_target = wpList _ _ _ (⟨some 14, _, _, _, _, _⟩ :: _) _ _; refine wpList_buildC rfl 27 _ rfl (.agg (arr 32 (ub one))) (.int .u8 1) rfl buildH1 ?_)
    | (guard_target = wpList _ _ _ (⟨some 20, _, _, _, _, _⟩ :: _) _ _; refine wpList_buildC rfl 27 _ rfl (.agg (arr 32 (ub one))) (.int .u8 1) rfl buildH1 ?_)
    | (guard_target = wpList _ _ _ (⟨some 21, _, _, _, _, _⟩ :: _) _ _; refine wpList_buildC rfl 27 _ rfl (.agg (arr 32 (ub two))) (.int .u8 2) rfl buildH2 ?_)
    | (guard_target = wpList _ _ _ (⟨some 9, _, _, _, _, _⟩ :: _) _ _; refine build1H rfl (.tmp 8) rfl one rfl w.heap.size rfl ?_)
    | (go_at_call 24; refine H1.out.mono ?_; rintro e w1 ⟨rfl, hb1⟩; have hbw1 := hb0.trans (hb1.mono hb0.size); clear H1 hb0 hb1)
    | (guard_target = wpList _ _ _ (⟨_, Op.store _ (.tmp 1) _, _, _, _, _⟩ :: _) _ _; refine wpList_store_new rfl 27 (.tmp 1) (.tmp 11) rfl w1.heap.size _ (arr 32 (ub r)) 27 rfl rfl rfl (z32_size _) (infH _) (bytes_one 32 _) ?_; have hr2 : (w1.alloc (.cells (arr 32 (ub r)) 27)).heap[w1.heap.size]? = some (.cells (arr 32 (ub r)) 27 (0, 0)) := at_alloc _ rfl; have hb2 := hbw1.alloc hbw1.size (.cells (arr 32 (ub r)) 27); obtain ⟨w2, hw2⟩ : ∃ w2, w2 = w1.alloc (.cells (arr 32 (ub r)) 27) := ⟨_, rfl⟩; rw [← hw2] at hr2 hb2 ⊢; clear hw2)
    | (guard_target = wpList _ _ _ (⟨some 15, _, _, _, _, _⟩ :: _) _ _; refine build1H rfl (.tmp 14) rfl one rfl w2.heap.size rfl ?_)
    | (go_at_call 27; refine (H2.out w2 (HT.out.below hb2 hz)).mono ?_; rintro e w3 ⟨v3, rfl, hv3, hb3⟩; have hb3' : Below w2.heap.size w2 w3 := ((Below.refl _ _).alloc (Nat.le_refl _) _).trans (hb3.mono (by simp)); have hv3' := own_dgs hv3 (by decide); obtain ⟨g3, c3, rfl, -, hg3, hg3s, -, hP3⟩ := hv3'; have hr3 := keep_below hb3' hr2 (lt_row hr2); have hbw3 := hb2.trans (hb3'.mono hb2.size); clear H2 hb3 hb3' hr2 hb2 hv3 hg3)
    | (guard_target = wpList _ _ _ (⟨some 22, _, _, _, _, _⟩ :: _) _ _; refine build12 rfl (.tmp 20) (.tmp 21) rfl rfl rfl ?_; have hb4 := hbw3.alloc hbw3.size (.cells (arr 32 (ub one) ++ arr 32 (ub two)) 27); have hr4 := keep_alloc hr3 (.cells (arr 32 (ub one) ++ arr 32 (ub two)) 27 (0, 0)))
    | (go_at_call 24; refine (H3.out _ w3.heap.size (HT.out.below hb4 hz)).mono ?_; rintro e w5 ⟨rfl, hb5⟩; have hr5 := keep_below hb5 hr4 (lt_row hr4); have hbw5 := hb4.trans (hb5.mono hb4.size); have hP5 := (hP3.below ((Below.refl _ _).alloc (Nat.le_refl _) (.cells (arr 32 (ub one) ++ arr 32 (ub two)) 27)) hg3s).below hb5 (Nat.lt_of_lt_of_le hg3s (by simp)); have hg5 : g3 < w5.heap.size := Nat.lt_of_lt_of_le hg3s (Nat.le_trans (by simp) hb5.size); clear hr4 hr3 hP3 hb5 hb4 hbw3 hg3s)
    | (guard_target = wpList _ _ _ (⟨_, Op.store _ (.tmp 5) _, _, _, _, _⟩ :: _) _ _; refine wpList_store_new rfl 27 (.tmp 5) (.tmp 24) rfl w5.heap.size _ (arr 32 (ub fun _ => 0)) 27 rfl rfl rfl (z32_size _) (infH _) (bytes_one 32 _) ?_))
  have hr6 := keep_alloc hr5 (.cells (arr 32 (ub fun _ => 0)) 27 (0, 0))
  have hb6 : Below w.heap.size w (w5.alloc (.cells (arr 32 (ub fun _ => 0)) 27)) := hbw5.alloc hbw5.size _
  have hP6 := hP5.below ((Below.refl _ _).alloc (Nat.le_refl _) (.cells (arr 32 (ub fun _ => 0)) 27)) hg5
  have hg6 : g3 < (w5.alloc (.cells (arr 32 (ub fun _ => 0)) 27)).heap.size := by simp; omega
  obtain ⟨w6, hw6⟩ : ∃ w6, w6 = w5.alloc (.cells (arr 32 (ub fun _ => 0)) 27) := ⟨_, rfl⟩
  rw [← hw6] at hr6 hb6 hP6 hg6 ⊢
  clear hw6 hr5 hbw5 hP5 hg5
  have hp0 : pathF (fun _ => one) 1 1 0 = one := by unfold pathF node; rw [if_pos (by decide)]
  have hat1 : ∀ w', Below w6.heap.size w6 w' → w'.rangeAt w1.heap.size 0 (arr 32 (ub r)).toList := fun w' h => range_of_row (keep_below h hr6 (lt_row hr6))
  have hatP : ∀ w', Below w6.heap.size w6 w' → w'.rangeAt g3 0 (arr 32 (ub one)).toList := fun w' h => by
    have := (hP6.below h hg6) 0 (by decide)
    rw [hp0] at this; exact this
  have hSi : ∀ (v : Value) (w w' : World), Below w.heap.size w w' → (∃ b, v = .slice (some ⟨b, 0, none⟩) 1 1 ∧ b < w.heap.size ∧ DgsAt w b 0 1 (fun _ => one)) → (∃ b, v = .slice (some ⟨b, 0, none⟩) 1 1 ∧ b < w'.heap.size ∧ DgsAt w' b 0 1 (fun _ => one)) :=
    fun v w w' hb ⟨b, h1, h2, h3⟩ => ⟨b, h1, Nat.lt_of_lt_of_le h2 hb.size, h3.below hb h2⟩
  have hSj : ∀ (v : Value) (w w' : World), Below w.heap.size w w' → (∃ g cap, v = .slice (some ⟨g, 0, none⟩) 17 cap ∧ g < w.heap.size ∧ DgsAt w g 0 17 zr) → (∃ g cap, v = .slice (some ⟨g, 0, none⟩) 17 cap ∧ g < w'.heap.size ∧ DgsAt w' g 0 17 zr) :=
    fun v w w' hb ⟨g, c, h1, h2, h3⟩ => ⟨g, c, h1, Nat.lt_of_lt_of_le h2 hb.size, h3.below hb h2⟩
  have hs1 : ∀ w, (sizeOf 5).run Tryd.prog w = .ok 1 w := fun w => by kernel_rfl
  have heq1 : ∀ w, (binOp .eql 27 (.agg (arr 32 (ub r))) (.agg (arr 32 (ub r)))).run Tryd.prog w = .ok (.bool true) w := fun w => run_eql_ub w 27 5 32 Tryd.underlying27 (by kernel_rfl) hs1 r r true (by simp)
  have heq2 : ∀ w, (binOp .eql 27 (.agg (arr 32 (ub one))) (.agg (arr 32 (ub one)))).run Tryd.prog w = .ok (.bool true) w := fun w => run_eql_ub w 27 5 32 Tryd.underlying27 (by kernel_rfl) hs1 one one true (by simp)
  have HUnd := Lib.hid (show ∀ w b g cap, b < w.heap.size → DgsAt w b 0 1 (fun _ => one) → g < w.heap.size → DgsAt w g 0 17 zr → Calls Tryd.prog 45 #[.slice (some ⟨b, 0, none⟩) 1 1, .int .i64 0, .int .i64 1, .slice (some ⟨g, 0, none⟩) 17 cap] w fun e w' => e = .returned (.agg (arr 32 (ub r))) ∧ Below w.heap.size w w' from fun w b g cap h1 h2 h3 h4 => by
    rw [Hr.out]; exact under_any _ b 0 1 1 (fun _ => one) g cap (fun _ => rfl) (by decide) 1 0 0 w rfl (by decide) (by decide) (fun _ => h1) h2 h3 h4)
  have hD0 : Below w6.heap.size w6 w6.drew := (Below.refl _ _).drew
  have Hat1 := Lib.hid hat1
  have HatP := Lib.hid hatP
  have HSi := Lib.hid hSi
  have HSj := Lib.hid hSj
  clear hat1 hatP hSi hSj hp0 hP6 hr6 hs1 H3
  go_wp2_with (first
    | (guard_target = Code.wp _ (Code.region 4 _ _) _ _ _; refine MtOrd.wp_region_ord_in (id := 4) (fun w' => Below w6.heap.size w6 w') [(0, .head), (1, .head), (2, .head), (3, .free), (4, .free), (5, .pair 6), (7, .loud), (8, .head), (9, .head), (10, .head), (11, .head), (12, .head), (13, .head), (14, .head), (15, .head), (16, .head), (17, .head), (18, .head), (19, .head), (20, .head), (21, .head), (22, .head), (23, .head), (24, .head), (25, .head), (26, .head), (27, .head), (28, .head), (29, .loud), (30, .head), (31, .head)] (by kernel_rfl) (by kernel_rfl) (by intro c a d v w h; first | exact h | (cases d <;> exact h)) hD0 ?_)
    | (guard_target = MtOrd.Ord _ _ _ _ ((5, _) :: _) _ _; refine MtOrd.ord_pair (i := 5) (j := 6) rfl rfl (by intro a' h; rcases h with rfl | ⟨u, rfl⟩ <;> rfl) (by intro a' h; rcases h with rfl | ⟨u, rfl⟩ <;> rfl) _ _ (fun w w' => Below w.heap.size w w') HSi.out HSj.out (by rintro d h h2; cases h; cases h2) hD0
        (by intro a' ha w' hd K hK; rcases ha with rfl | ⟨u, rfl⟩ <;> exact wp_build1B (.tmp 30) rfl one rfl w'.heap.size rfl (hK _ _ (hd.alloc hd.size _) ((Below.refl _ _).alloc (Nat.le_refl _) _) ⟨w'.heap.size, rfl, by simp, HD1.out w' _⟩))
        (by intro a' ha w' hd K hK; rcases ha with rfl | ⟨u, rfl⟩ <;> (go_wp2_with (go_at_call 46; refine (zeros_any w').mono ?_; rintro e w'' ⟨g, cap, rfl, h1, h2, h3, h4⟩; exact hK _ _ (hd.trans (h4.mono hd.size)) h4 ⟨g, cap, rfl, h2, h3⟩)))
        ?_; rintro v u w7 hD7 ⟨b, rfl, hb7, hL7⟩ ⟨g, cap, rfl, hg7, hZ7⟩)
    | (go_at_call 45; refine (HUnd.out w7 b g cap hb7 hL7 hg7 hZ7).mono ?_; rintro e w8 ⟨rfl, hb8⟩; have hD8 : Below w6.heap.size w6 w8 := hD7.trans (hb8.mono hD7.size); refine hK _ _ hD8 ?_; clear hK K hb8)
    | (go_at_call 21; refine (is_same 5 w8).mono ?_; rintro e w9 ⟨rfl, rfl⟩; refine hK _ _ hD8 ?_; clear hK K)
    | (guard_target = MtOrd.Ord _ _ _ _ _ _ _; first | (refine MtOrd.ord_nil ?_) | (refine MtOrd.ord_head rfl rfl ?_; intro K hK; first | (first | (refine quiet_load_arr 27 (.tmp 1) rfl w1.heap.size 0 rfl (arr 32 (ub r)) _ Hat1.out Tryd.underlying27 rfl (infH' _) ?_) | (refine quiet_load_arr 27 (.tmp 47) rfl g3 0 rfl (arr 32 (ub one)) _ (fun w' h => HatP.out w' (by subst h; assumption)) Tryd.underlying27 rfl (infH' _) ?_) | (refine quiet_buildC 26 _ rfl (.agg (arr 32 (ub one))) (.int .u8 1) rfl buildB1 ?_) | (refine quiet_buildC 27 _ rfl (.agg (arr 32 (ub one))) (.int .u8 1) rfl buildH1 ?_); refine hK _ ?_; clear hK K) | (go_big_quiet_op; first | (refine hK _ ?_; clear hK K) | (apply Exists.intro; refine ⟨?_, ?_⟩; (fail); refine hK _ ?_; clear hK K))) | (refine MtOrd.ord_free rfl rfl ?_; intro K hK; first | (first | (refine quiet_load_arr 27 (.tmp 1) rfl w1.heap.size 0 rfl (arr 32 (ub r)) _ Hat1.out Tryd.underlying27 rfl (infH' _) ?_) | (refine quiet_load_arr 27 (.tmp 47) rfl g3 0 rfl (arr 32 (ub one)) _ (fun w' h => HatP.out w' (by subst h; assumption)) Tryd.underlying27 rfl (infH' _) ?_) | (refine quiet_buildC 26 _ rfl (.agg (arr 32 (ub one))) (.int .u8 1) rfl buildB1 ?_) | (refine quiet_buildC 27 _ rfl (.agg (arr 32 (ub one))) (.int .u8 1) rfl buildH1 ?_); refine hK _ ?_; clear hK K) | (go_big_quiet_op; refine hK _ ?_; clear hK K)) | (refine MtOrd.ord_skip rfl rfl ?_) | (refine MtOrd.ord_loud rfl rfl ?_; intro K hK)))
  exact bodyPost_ret (results_tmp (t := 0) rfl _ _ _) rfl ⟨rfl, hb6.trans (hD8.mono hb6.size)⟩
end Go.Proofs.YtikkebjhnechdaaDoor
