/- Walk: keccak.New, slices.Clone, Hasher.Add. -/
import Derived.Test.YtikkebjhnechdaaDoorKecAbs
import Derived.Test.YtikkebjhnechdaaDoorMtRow
import Derived.Deep.DeepCutAuto
import Derived.Laws.OwnMore
import Derived.Lib.SliceRun
namespace Go.Proofs.YtikkebjhnechdaaDoor
open Go.RowKit Go.Mt

theorem Tabs.drew {w : World} (h : Tabs w) : Tabs w.drew := h.below (Below.refl w.heap.size w).drew h.2.2.2
theorem new_any (w : World) :
    Calls Tryd.prog 19 #[] w fun e w' => e = .returned (.pointer (some ⟨w.heap.size, 0, none⟩)) ∧ w'.heap[w.heap.size]? = some (.cells (hs (fun _ => 0) (.slice none 0 0)) 82 (0, 0)) ∧ Below w.heap.size w w' ∧ w'.heap.size = w.heap.size + 1 := by
  have e1 : (w.alloc (.cells (hs (fun _ => 0) (.slice none 0 0)) 82)).heap[w.heap.size]? = some (.cells (hs (fun _ => 0) (.slice none 0 0)) 82 (0, 0)) := at_alloc _ rfl
  have hb : Below w.heap.size w (w.alloc (.cells (hs (fun _ => 0) (.slice none 0 0)) 82)) := (Below.refl _ _).alloc (Nat.le_refl _) _
  go_enter Tryd.func19, Tryd.ntmps19
  go_wp2
  exact bodyPost_ret (results_tmp rfl _ _ _) rfl ⟨rfl, e1, hb, by simp⟩

set_option maxRecDepth 100000 in
theorem clone_any (w : World) (sp : Option Addr) (n c : Nat) (bs : List (BitVec 8)) (hn : bs.length = n) (hs : Src w sp bs) (hnil : sp = none → c = 0) (hlim : n ≤ 140737488355328) :
    Calls Tryd.prog 43 #[.slice sp n c] w fun e w' => ∃ v, e = .returned v ∧ w'.ownsRow w.heap.size 5 1 v n (bl bs) ∧ Below w.heap.size w w' := by
  have heq := Lib.run_eql_slice_nil (P := Tryd.prog) w 22 5 sp n c 0 0 Tryd.underlying22
  subst hn
  cases sp with
  | none =>
    obtain rfl : bs = [] := by
      cases bs with
      | nil => rfl
      | cons b bs => obtain ⟨ad, h, _⟩ := hs (by simp); cases h
    obtain rfl := hnil rfl
    simp only [List.length_nil] at heq
    go_enter Tryd.func43, Tryd.ntmps43
    go_wp2_with fail
    go_ret
    exact ⟨_, rfl, World.ownsRow_nil _ _ _ _, Below.refl _ _⟩
  | some ad =>
    have hlt : 0 < bs.length → ad.block < w.heap.size := fun h0 => by
      obtain ⟨ad', h, hsrc⟩ := hs h0
      cases h
      have := World.block_lt_of_cell? w _ (hsrc 0 _ (bl_get bs 0 h0))
      unfold Addr.add at this
      split at this <;> exact this
    have hown : (w.alloc (.cells #[] 5)).ownsRow w.heap.size 5 1 (.slice (some ⟨w.heap.size, 0, none⟩) 0 0) ([] : List (BitVec 8)).length (bl []) := World.ownsRow_lit w #[] 0 (Nat.le_refl _) (by decide) rfl
    have hs' : Src (w.alloc (.cells #[] 5)) (some ad) bs := fun h0 => by
      obtain ⟨ad', h, hsrc⟩ := hs h0
      refine ⟨ad', h, fun j u hu => ?_⟩
      cases h
      rw [World.cell?_of_block (w := w) (heap_alloc_old _ _ (by unfold Addr.add; split <;> exact hlt h0))]
      exact hsrc j u hu
    go_enter Tryd.func43, Tryd.ntmps43
    go_wp2_with (at_builtin; refine wpList_append_bytes rfl (.tmp 5) (.tmp 6) 22 rfl w.heap.size 5 Tryd.t5 Tryd.underlying22 (by kernel_rfl) (by kernel_rfl) (by kernel_rfl) (by kernel_rfl) (.slice (some ⟨w.heap.size, 0, none⟩) 0 0) [] rfl hown (some ad) c bs rfl hs' (fun h => by cases h) (by simpa using hlim) (by simp) ?_; intro v' w1 hown' hk hat)
    rw [List.nil_append] at hown'
    refine bodyPost_ret (results_tmp (t := 2) rfl _ _ _) rfl ⟨_, rfl, hown', ?_⟩
    exact ((Below.refl _ _).alloc (Nat.le_refl _) _).trans (hk.below (by simp) (fun k hk h => by cases h; exact Nat.lt_irrefl _ hk))

def restLen (g : Nat) (w : World) : Nat := match w.cell? ⟨g, 25, none⟩ with | some (.slice _ n _) => n | _ => 0
theorem restLen_of {w : World} {g : Nat} {f : St} {v : Value} {t : TypeId} {base : Nat} {ys : List (BitVec 8)} (h : w.heap[g]? = some (.cells (hs f v) t (0, 0))) (ho : w.ownsRow base 5 1 v ys.length (bl ys)) : restLen g w = ys.length := by
  obtain ⟨sp, c, rfl, _⟩ := src_own ho
  unfold restLen
  rw [hs_rest h]

set_option maxRecDepth 100000 in
set_option maxHeartbeats 2000000 in
/-- 'Add', of a hasher of the call's own. -/
theorem add_any (g base : Nat) (f : St) (xs : List (BitVec 8)) (v : Value) (sp : Option Addr) (n c : Nat) (bs : List (BitVec 8)) (w : World) (hT : Tabs w)
    (hg : w.heap[g]? = some (.cells (hs f v) 82 (0, 0))) (hv : w.ownsRow base 5 1 v xs.length (bl xs)) (hgb : g < base) (hbase : base ≤ w.heap.size) (hg3 : 2 < g)
    (hn : bs.length = n) (hsrc : Src w sp bs) (hnil : sp = none → c = 0) (hlim : xs.length + n ≤ 140737488355328) :
    Calls Tryd.prog 22 #[.pointer (some ⟨g, 0, none⟩), .slice sp n c] w fun e w' => e = .returned .nilIface ∧
      ∃ v', w'.heap[g]? = some (.cells (hs (feed f (xs ++ bs)).1 v') 82 (0, 0)) ∧ w'.ownsRow base 5 1 v' (feed f (xs ++ bs)).2.length (bl (feed f (xs ++ bs)).2) ∧
        (∀ k, v'.ownBlock = some k → v.ownBlock = some k ∨ w.heap.size ≤ k) ∧ Keeps (fun k => k = g ∨ v.ownBlock = some k) w w' := by
  have hr := hs_rest hg
  have hfr : ∀ j, w.frozen? ⟨g, j, none⟩ = false := fun j => frozen_of_row _ _ _ _ _ hg
  subst hn
  have hng : ∀ e : Prop, (v.ownBlock = some g) → e := fun e h => absurd (hv.lt g h).1 (by omega)
  obtain ⟨vs, vc, rfl, hvs, hvn, hvc, hva⟩ := src_own hv
  go_enter Tryd.func22, Tryd.ntmps22
  go_wp2_with (at_builtin; refine wpList_append_bytes rfl (.tmp 12) (.tmp 13) 22 rfl base 5 Tryd.t5 Tryd.underlying22 (by kernel_rfl) (by kernel_rfl) (by kernel_rfl) (by kernel_rfl) (.slice vs xs.length vc) xs rfl hv sp c bs rfl hsrc hnil hlim hbase ?_; intro v1 w1 hv1 hk1 hat1; have hg1 := (hk1.block g (lt_row hg) (hng _)).trans hg; have hfr1 : ∀ j, w1.frozen? ⟨g, j, none⟩ = false := fun j => frozen_of_row _ _ _ _ _ hg1; have hr1 := hs_rest hg1; have hbs1 : base ≤ w1.heap.size := Nat.le_trans hbase hk1.size; obtain ⟨vs1, vc1, rfl, hvs1, hvn1, hvc1, hva1⟩ := src_own hv1; have Hk1 := Lib.hid hk1; clear hk1)
  have hlen : (xs ++ bs).length ≤ 140737488355328 := by rw [List.length_append]; exact hlim
  generalize hys : xs ++ bs = ys at hv1 hvs1 hvc1 hlen
  go_loopw [17] (fun _ wr => ∃ (f' : St) (zs : List (BitVec 8)) (v' : Value), wr.heap[g]? = some (.cells (hs f' v') 82 (0, 0)) ∧ wr.ownsRow base 5 1 v' zs.length (bl zs) ∧ feed f' zs = feed f ys ∧ zs.length ≤ 140737488355328 ∧ (∀ k, v'.ownBlock = some k → (Value.slice vs xs.length vc).ownBlock = some k ∨ w.heap.size ≤ k) ∧ Keeps (fun k => k = g ∨ (Value.slice vs xs.length vc).ownBlock = some k) w wr) (fun _ wr => restLen g wr)
  case atStart =>
    have e : xs.length + bs.length = ys.length := by rw [← hys, List.length_append]
    have hat1' : (Value.slice vs1 ys.length vc1).ownBlock = (Value.slice vs xs.length vc).ownBlock ∨ (Value.slice vs1 ys.length vc1).ownBlock = some w.heap.size := by cases vs1 <;> exact hat1
    rw [e]
    refine ⟨f, ys, .slice vs1 ys.length vc1, hs_setRest hg1 _, ?_, rfl, hlen, ?_, ?_⟩
    · exact own_keep hv1 ((Keeps.refl (fun k => k = g) w1).setCell (.inl rfl) _) fun k hk e => by have := (hv1.lt k hk).1; omega
    · intro k hk
      rcases hat1' with h | h
      · exact .inl (h ▸ hk)
      · rw [h] at hk; cases hk; exact .inr (Nat.le_refl _)
    · exact ((Keeps.refl (fun k => k = g ∨ (Value.slice vs xs.length vc).ownBlock = some k) w).trans Hk1.out (fun i _ h => .inr h)).setCell (.inl (.inl rfl)) _
  case round =>
    obtain ⟨f', zs, v', hA, ho, hfd, hzl, hown, hkp⟩ := hrel
    have hwr := hkp.size
    have hTr : Tabs wr := hT.below (hkp.below (B := g) (by omega) fun k hk h => by
      rcases h with h | h
      · omega
      · have := (hv.lt k h).1; omega) (by omega)
    have hr0 := hs_rest hA
    have hgr := lt_row hA
    have Hkp := Lib.hid hkp
    have HTr := Lib.hid hTr
    have Hown := Lib.hid hown
    clear hkp hTr hown hr hfr hr1 hfr1 hg1 hv1 hvs1 hvn1 hva1 hat1 Hk1 hT hsrc hnil hvs hvn hva hg
    by_cases h136 : 136 ≤ zs.length
    · obtain ⟨b, cap, rfl, hbb, hbl⟩ := ho.form (by omega)
      have hcap : zs.length ≤ cap ∧ cap ≤ 9223372036854775807 := by
        rcases ho.2 with ⟨h, _⟩ | ⟨_, _, _, h, _, _, h1, h2, _⟩
        · cases h
        · cases h; exact ⟨h1, h2⟩
      obtain ⟨hc1, hc2⟩ := hcap
      have hp : BytesAt wr b 0 136 (fun j => zs.getD j 0) := fun j hj => by
        rw [Nat.zero_add, ho.cellAt j (by omega), bl_get zs j (by omega)]
      have Ho := Lib.hid ho
      have hcall := absorbed_any f' (fun j => zs.getD j 0) b 0 136 cap wr.drew HTr.out.drew (by omega) (by omega) hc2 (fun j hj => hp j hj)
      obtain ⟨fa, hfa⟩ : ∃ fa, fa = absorb f' fun j => zs.getD j 0 := ⟨_, rfl⟩
      rw [← hfa] at hcall
      have Hfa := Lib.hid hfa
      clear hfa
      have hgd : wr.drew.heap[g]? = some (.cells (hs f' (.slice (some ⟨b, 0, none⟩) zs.length cap)) 82 (0, 0)) := hA
      have hgl : g < wr.drew.heap.size := hgr
      have inf24 : (Tryd.prog.info? 24).map (·.size) = some 25 := by kernel_rfl
      have inf : ∀ f, (Tryd.prog.info? 24).map (·.size) = some (arr 25 (uw f)).toList.length := fun f => by rw [inf24]; simp
      have infs : ∀ f, (Tryd.prog.info? 24).map (·.size) = some (arr 25 (uw f)).size := fun f => by rw [inf24]; simp
      clear ho
      go_wp2_with (first | (refine ord_store (i := 13) rfl rfl 24 (.tmp 35) (.tmp 33) rfl g 0 (arr 25 (uw fa)) rfl rfl (there_row hA2 (by rw [hs_size]; simp)) (infs fa) (words_one 25 fa) ?_; have hA3 := hs_setState hA2 fa; have hk3 := Keeps.setCells (S := fun k => k = g) (b := g) rfl (arr 25 (uw fa)).toList 0 w2 (Keeps.refl _ _); generalize w2.setCells g 0 (arr 25 (uw fa)).toList = w3 at hA3 hk3 ⊢; have hr3 := hs_rest hA3; have ho3 := own_keep (own_keep (S := fun _ => False) Ho.out.drew (keeps_below hb2) (fun _ _ h => h)) hk3 (fun k hk e => by have := (Ho.out.lt k hk).1; omega); have hsrcA := src_drop ho3 136; have hsrcB : cap = 136 → Src w3 (some ⟨b, 0, none⟩) (zs.drop 136) := (fun h h0 => by simp at h0; omega); have h3s := hk3.size; have h2s := hb2.size) | (refine MtOrd.wp_region_ord_lit (id := 5) [(1, .head), (2, .head), (3, .head), (4, .head), (5, .head), (6, .head), (7, .head), (8, .head), (9, .head), (0, .free), (10, .loud), (11, .head), (12, .head), (13, .loud)] (by kernel_rfl) (by kernel_rfl) (by intro c a d v w h; cases d <;> exact h) ?_) | (guard_target = MtOrd.Ord _ _ _ _ _ _ _; first | (refine MtOrd.ord_nil ?_) | (refine MtOrd.ord_head rfl rfl ?_; intro K hK; first | ((refine quiet_load_mid 24 (.tmp 26) rfl g 0 rfl (arr 25 (uw f')).toList _ (fun w hw => by cases hw; exact hs_range hA) Tryd.underlying24 rfl (inf f') ?_); refine hK _ ?_; clear hK K) | (go_big_quiet_op; first | (refine hK _ ?_; clear hK K) | (apply Exists.intro; refine ⟨?_, ?_⟩; (fail); refine hK _ ?_; clear hK K))) | (refine MtOrd.ord_free rfl rfl ?_; intro K hK; go_big_quiet_op; (refine hK _ ?_; clear hK K)) | (refine MtOrd.ord_skip rfl rfl ?_) | (refine MtOrd.ord_loud0 rfl rfl ?_; intro K hK)) |
        (go_at_call 40; refine hcall.mono ?_; rintro e w2 ⟨rfl, hb2⟩; have hA2 := keep_below hb2 hgd hgl; refine hK _ _ ?_; clear hK K) | (go_at_call 43; refine (clone_any w3 _ _ _ (zs.drop 136) (by simp) (by first | exact hsrcA | exact hsrcB (by assumption)) (fun h => by cases h) (by omega)).mono ?_; rintro e w4 ⟨v4, rfl, ho4, hb4⟩; have hA4 := keep_below hb4 hA3 (lt_row hA3); have hr4 := hs_rest hA4; have hfr4 : ∀ j, w4.frozen? ⟨g, j, none⟩ = false := (fun j => frozen_of_row _ _ _ _ _ hA4); rw [show zs.length - 136 = (zs.drop 136).length by simp] at ho4; obtain ⟨s4, c4, rfl, _, _, _, _⟩ := src_own ho4))
      all_goals
        have hdl : zs.length - 136 = (zs.drop 136).length := by simp
        rw [hdl]
        have hA5 := hs_setRest hA4 (.slice s4 (zs.drop 136).length c4)
        have ho5 := own_keep (ho4.mono (base' := base) (by have : wr.drew.heap.size = wr.heap.size := rfl; omega)) ((Keeps.refl (fun k => k = g) w4).setCell (p := ⟨g, 25, none⟩) (.inl rfl) (.slice s4 (zs.drop 136).length c4)) (fun k hk e => by have := (ho4.lt k hk).1; have := lt_row hA3; omega)
        refine ⟨⟨fa, zs.drop 136, _, hA5, ho5, ?_, ?_, ?_, ?_⟩, ?_⟩
        · rw [Hfa.out, ← feed_step h136]; exact hfd
        · omega
        · intro k hk
          have := (ho4.lt k hk).1
          have e : wr.drew.heap.size = wr.heap.size := rfl
          exact .inr (by omega)
        · exact (((Hkp.out.drew.trans (keeps_below (S := fun _ => False) hb2) (fun _ _ h => h.elim)).trans hk3 (fun _ _ h => .inl h)).trans (keeps_below (S := fun _ => False) hb4) (fun _ _ h => h.elim)).setCell (.inl (.inl rfl)) _
        · rw [restLen_of hA5 ho5, restLen_of hA Ho.out]; simp; omega
    · obtain ⟨sv, cv, rfl, _, _, _, _⟩ := src_own ho
      go_wp2_with fail
      refine bodyPost_ret (results_tmp (t := 4) rfl _ _ _) rfl ⟨rfl, .slice sv zs.length cv, ?_⟩
      rw [hys, ← hfd, feed_end (by omega)]
      exact ⟨hA, ho, Hown.out, Hkp.out⟩
end Go.Proofs.YtikkebjhnechdaaDoor
