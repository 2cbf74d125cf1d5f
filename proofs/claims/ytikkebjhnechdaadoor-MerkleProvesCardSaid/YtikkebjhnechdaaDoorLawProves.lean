/- Walk: mootlaw05.MerkleProves. -/
import Derived.Test.YtikkebjhnechdaaDoorMerSlice
import Derived.Test.YtikkebjhnechdaaDoorMerFold
namespace Go.Mt
def lenS : Value → Nat
  | .slice _ n _ => n
  | _ => 0
section
variable {P : Program} {ops : Array Oper} {rest : List Oper} {o : Oper} {a : Act} {w : World} {Q : Exit → Act → World → Prop}
theorem wpList_build0 (hg : o.guard = none) (t : TypeId) (parts : Array (Nat × Operand)) (ho : o.op = .build t parts) (v : Value) (hp : parts = #[]) (hrun : ∀ w, (Instr.build t #[]).run P w = .ok v w)
    (h : wpList P ops Q rest (a.put o.dst v) w) : wpList P ops Q (o :: rest) a w :=
  wpList_plain hg fun _ hK => by
    have e : (parts.map fun (i, x) => (i, a.eval x)) = #[] := by subst hp; simp
    unfold Oper.wp execOp
    simp only [ho, Sem.run_bind, e, hrun w, Result.andThen_ok]
    exact hK _ _ h
/-- A whole array, loaded under a guard that says yes. -/
theorem wpList_load_g (hw : Region.wanted o (yielded ops a.tmps) = true) (ty : TypeId) (x : Operand) (ho : o.op = .load ty x) (b off : Nat) (hx : a.eval x = .pointer (some ⟨b, off, none⟩)) (cs : Array Value) (d : TypeDesc)
    (hc : w.rangeAt b off cs.toList) (hu : P.underlying ty = some d) (hd : d.isRow = true) (hi : (P.info? ty).map (·.size) = some cs.toList.length)
    (h : wpList P ops Q rest (a.put o.dst (.agg cs)) w) : wpList P ops Q (o :: rest) a w :=
  BigFrame.wpList_want hw fun _ hK => wp_load_mid ty x ho b off hx cs.toList d hc hu hd hi (by rw [Array.toArray_toList]; exact hK _ _ h)
end
end Go.Mt
namespace Go.Proofs.YtikkebjhnechdaaDoor
open Go.RowKit Go.Mt
theorem buildH0 (w : World) : (Instr.build 27 #[]).run Tryd.prog w = .ok (.agg (arr 32 (ub fun _ => 0))) w := by kernel_rfl

set_option maxRecDepth 100000 in
set_option maxHeartbeats 2000000 in
theorem proves_law (D I : Int) (pp : Option Addr) (pb po N C : Nat) (L : Nat → Dg) (lf : Dg) (w : World) (hT : Tabs w) (hpp : 0 < N → pp = some ⟨pb, po, none⟩) (hpb : 0 < N → pb < w.heap.size) (hL : DgsAt w pb po N L) (hLn : ∀ k, norm (L k) = L k) (hN : N ≤ 4398046511104) (hlf : norm lf = lf) :
    Calls Tryd.prog 9 #[.int .i64 D, .slice pp N C, .int .i64 I, .agg (arr 32 (ub lf))] w fun e w' => e = .returned (.bool true) ∧ Below w.heap.size w w' := by
  have hz := hT.2.2.2
  obtain ⟨d0, hd0, hdm⟩ := wrap_mod D 9 (by decide)
  have hdm' : (IntKind.u64.wrap D).tmod 9 = (d0 : Int) := hdm
  clear hdm
  obtain ⟨w0, hw0⟩ : ∃ w0, w0 = w.alloc (.cells (arr 32 (ub lf)) 26) := ⟨_, rfl⟩
  have hb0 : Below w.heap.size w w0 := by rw [hw0]; exact (Below.refl _ _).alloc (Nat.le_refl _) _
  have hrl : w0.heap[w.heap.size]? = some (.cells (arr 32 (ub lf)) 26 (0, 0)) := by rw [hw0]; exact at_alloc _ rfl
  have hT0 := hT.below hb0 hz
  have Hh := Lib.hid (hashes_any pp pb po N C L w0 hpp (fun h => Nat.lt_of_lt_of_le (hpb h) hb0.size) (by
    by_cases h0 : 0 < N
    · exact hL.below hb0 (hpb h0)
    · exact fun q hq => by omega) hN)
  have HT0 := Lib.hid hT0
  have HLn := Lib.hid hLn
  have Hlf := Lib.hid hlf
  clear hT hT0 hL hLn hlf hpp hpb
  go_enter Tryd.func9, Tryd.ntmps9
  go_upto_region 2 with fail
  rw [← hw0]
  have Hw0 := Lib.hid hw0
  clear hw0
  obtain ⟨d, hd⟩ : ∃ d, d = 1 + d0 := ⟨_, rfl⟩
  have hdI : (1 : Int) + (d0 : Int) = (d : Int) := by omega
  rw [hdI]
  clear hdI hdm'
  have hd9 : d ≤ 9 := by omega
  have hd1 : 1 ≤ d := by omega
  clear hd hd0
  have hd62 : (d : Int) ≤ 62 := by omega
  obtain ⟨p, hp⟩ : ∃ p, p = 2 ^ d := ⟨_, rfl⟩
  have hpb9 : p ≤ 512 := by rw [hp]; exact Nat.pow_le_pow_right (n := 2) (by decide) hd9
  have hpos : 0 < p := by rw [hp]; exact Nat.pow_pos (by decide)
  have hpw0 : pw (d : Int) = (p : Int) := by rw [pw_nat, hp]
  obtain ⟨i, hi, him⟩ := wrap_mod I p hpos
  have Hp := Lib.hid hp
  clear hp
  go_upto_if 32 with (first
    | (go_at_call 23; refine Hh.out.mono ?_; rintro e w1 ⟨v1, rfl, hv1, hb1⟩; obtain ⟨sp, c1, rfl, hc1, hnil1, hlev⟩ := own_slice hv1; have Hnil1 := Lib.hid hnil1; have Hlev := Lib.hid hlev; have Hb1 := Lib.hid hb1; have Hv1 := Lib.hid hv1; clear Hh hlev hb1 hv1 hnil1))
  obtain ⟨n, hn⟩ : ∃ n, n = min N p := ⟨_, rfl⟩
  have hnc : n ≤ c1 := by omega
  have hn2 : n ≤ p := by omega
  have hnN : n ≤ N := by omega
  go_cut [9] (fun s wx => s = .slice sp n c1 ∧ wx = w1)
  case first =>
    by_cases hbig : p < N
    · have hi : (p : Int) = (n : Int) := by omega
      have Hi := Lib.hid hi
      clear hi hn
      go_wp2_with (first
        | (guard_target = wpList _ _ _ (⟨some 37, _, _, _, _, _⟩ :: _) _ _; refine wpList_slice_hi rfl 50 27 (.tmp 33) (.tmp 36) rfl sp N c1 n .i64 (p : Int) rfl rfl Hi.out Tryd.underlying50 32 sz32 hnc ?_))
      go_meet
      exact ⟨rfl, rfl⟩
    · have hN2 : N = n := by omega
      have HN2 := Lib.hid hN2
      clear hn hN2
      go_wp2_with fail
      go_meet
      exact ⟨by rw [HN2.out], rfl⟩
  case rest =>
    obtain ⟨rfl, hwc⟩ := hcut; have hwc := hwc.symm; subst hwc
    clear hn
    have hv1n := own_cut Hv1.out hnN Hnil1.out
    have hgl : ∀ k, (Value.slice sp n c1).ownBlock = some k → w0.heap.size ≤ k ∧ k < w1.heap.size := hv1n.lt
    have hbe : ∃ b, (0 < n → sp = some ⟨b, 0, none⟩ ∧ b < w1.heap.size ∧ DgsAt w1 b 0 n L) := by
      by_cases h0 : 0 < n
      · obtain ⟨b, h1, h2, h3, h4⟩ := Hlev.out (by omega); exact ⟨b, fun _ => ⟨h1, h3, fun k hk => h4 k (by omega)⟩⟩
      · exact ⟨0, fun h => absurd h h0⟩
    obtain ⟨b, hbe⟩ := hbe
    have hT1 : ∀ w', Below w1.heap.size w1 w' → Tabs w' := fun w' h => HT0.out.below (Hb1.out.trans (h.mono Hb1.out.size)) HT0.out.2.2.2
    obtain ⟨r, hr⟩ : ∃ r, r = node L n d 0 := ⟨_, rfl⟩
    obtain ⟨Q, hQ⟩ : ∃ Q, Q = pathF L n i := ⟨_, rfl⟩
    have Hpa := Lib.hid (show Calls Tryd.prog 27 #[.int .i64 d, .slice sp n c1, .int .i64 i] w1 fun e w' => ∃ v, e = .returned (.tuple #[v, .nilIface]) ∧ w'.ownsRow w1.heap.size 27 32 v d (dl (firstL Q d)) ∧ Below w1.heap.size w1 w' from by
      rw [hQ]; exact path_any d n i sp b 0 c1 L w1 (hT1 w1 (Below.refl _ _)) (by omega) (by rw [← Hp.out]; exact hn2) (by rw [← Hp.out]; exact hi) (fun h0 => (hbe h0).1) (fun h0 => (hbe h0).2.1) (fun k hk => (hbe (by omega)).2.2 k hk) HLn.out)
    have Hro := Lib.hid (show ∀ w', Below w1.heap.size w1 w' → Calls Tryd.prog 24 #[.int .i64 d, .slice sp n c1] w' fun e w'' => e = .returned (.tuple #[.agg (arr 32 (ub r)), .nilIface]) ∧ Below w'.heap.size w' w'' from fun w' h => by
      rw [hr]; exact root_any d n sp b 0 c1 L w' (hT1 w' h) (by omega) (by rw [← Hp.out]; exact hn2) (fun h0 => (hbe h0).1) (fun h0 => Nat.lt_of_lt_of_le (hbe h0).2.1 h.size) (fun k hk => ((hbe (by omega)).2.2.below h (hbe (by omega)).2.1) k hk) HLn.out)
    have Hv1n := Lib.hid hv1n
    have Hgl := Lib.hid hgl
    have HT1 := Lib.hid hT1
    have Hr := Lib.hid hr
    have HQ := Lib.hid hQ
    clear hv1n hgl hbe hT1 hr hQ
    go_upto_if 73 with (first
      | (go_at_call 27; refine Hpa.out.mono ?_; rintro e w2 ⟨v2, rfl, hv2, hb2⟩; obtain ⟨g2, cp, rfl, -, hg2, hg2s, -, hP2⟩ := own_dgs hv2 (by omega); clear Hpa hv2)
      | (go_at_call 24; refine (Hro.out w2 hb2).mono ?_; rintro e w3 ⟨rfl, hb3⟩; have hP3 := hP2.below hb3 hg2s; have hg3s := Nat.lt_of_lt_of_le hg2s hb3.size; have hb3' := hb2.trans (hb3.mono hb2.size); clear Hro hb3 hb2 hP2 hg2s)
      | (guard_target = wpList _ _ _ (⟨_, Op.store _ (.tmp 12) _, _, _, _, _⟩ :: _) _ _; refine wpList_store_new rfl 27 (.tmp 12) (.tmp 56) rfl w3.heap.size _ (arr 32 (ub r)) 27 rfl rfl rfl (z32_size _) (infH _) (bytes_one 32 _) ?_; have hr4 : (w3.alloc (.cells (arr 32 (ub r)) 27)).heap[w3.heap.size]? = some (.cells (arr 32 (ub r)) 27 (0, 0)) := at_alloc _ rfl; have hb4 := hb3'.alloc hb3'.size (.cells (arr 32 (ub r)) 27); have hP4 := hP3.below ((Below.refl _ _).alloc (Nat.le_refl _) (.cells (arr 32 (ub r)) 27)) hg3s; have hg4s := Nat.lt_of_lt_of_le hg3s (show w3.heap.size ≤ (w3.alloc (.cells (arr 32 (ub r)) 27)).heap.size by simp); have hk12 : w1.heap.size ≤ w3.heap.size := hb3'.size; generalize hw4 : w3.alloc (.cells (arr 32 (ub r)) 27) = w4 at hr4 hb4 hP4 hg4s ⊢; generalize hk12e : w3.heap.size = k12 at hr4 hk12 ⊢; clear hw4 hk12e hb3' hP3 hg3s)
      | (go_at_call 25; refine (fixedM_any _ (HT1.out _ hb4)).mono ?_; rintro e w5 ⟨rfl, hb5⟩; have hr5 := keep_below hb5 hr4 (lt_row hr4); have hP5 := hP4.below hb5 hg4s; have hg5s := Nat.lt_of_lt_of_le hg4s hb5.size; have hb5' := hb4.trans (hb5.mono hb4.size); clear hr4 hP4 hg4s hb5 hb4))
    go_cut [73] (fun s wx => s = .bool false ∧ wx = w5)
    case first =>
      go_wp2_with fail
      go_meet
      exact ⟨rfl, rfl⟩
    case rest =>
      obtain ⟨rfl, hwc⟩ := hcut; have hwc := hwc.symm; subst hwc
      obtain ⟨L3, hL3⟩ : ∃ L3 : Nat → Dg, L3 = fun k => if k < n then L k else zr 0 := ⟨_, rfl⟩
      have HL3 : Hid (∀ k, L3 k = if k < n then L k else zr 0) := Lib.hid fun k => by rw [hL3]
      clear hL3
      have hs15 : w1.heap.size ≤ w5.heap.size := hb5'.size
      have hv5 : w5.ownsRow w0.heap.size 27 32 (.slice sp n c1) n (dl (firstL L3 n)) := by
        have e : firstL L3 n = firstL L n := by unfold firstL; exact List.map_congr_left fun k hk => by rw [HL3.out, if_pos (List.mem_range.1 hk)]
        rw [e]; exact own_below Hv1n.out hb5' (Nat.le_refl _)
      have Hr5 := Lib.hid hr5
      have HP5 := Lib.hid hP5
      have Hb5 := Lib.hid hb5'
      clear hr5 hP5 hb5'
      go_wp2_with fail
      go_loopw [9] (fun v wr => ∃ k : Nat, n ≤ k ∧ k ≤ n + (i + 1) ∧ k ≤ p ∧ wr.ownsRow w0.heap.size 27 32 v k (dl (firstL L3 k)) ∧ Keeps (fun b => (Value.slice sp n c1).ownBlock = some b) w5 wr ∧ (v.ownBlock = (Value.slice sp n c1).ownBlock ∨ ∀ b, v.ownBlock = some b → w5.heap.size ≤ b)) (fun v _ => i + 1 - lenS v)
      case atStart => exact ⟨n, Nat.le_refl _, by omega, hn2, hv5, Keeps.refl _ _, .inl rfl⟩
      case round =>
        obtain ⟨k, hk1, hk2, hk3, ho, hkp, hob⟩ := hrel
        obtain ⟨wi, rfl⟩ : ∃ wi : World, wi = wr := ⟨_, rfl⟩
        clear hv5
        by_cases hlt : k ≤ i
        · obtain ⟨sp9, c9, rfl, -, -, -⟩ := own_slice ho
          have hnx : firstL L3 (k + 1) = firstL L3 k ++ [fun _ => 0] := by rw [firstL_succ, HL3.out, if_neg (by omega)]; rfl
          have hsc := src_one (src_new wi (fun _ => 0) 27)
          have ho2 : (wi.alloc (.cells (arr 32 (ub fun _ => 0)) 27)).ownsRow w0.heap.size 27 32 (.slice sp9 k c9) (firstL L3 k).length (dl (firstL L3 k)) := by rw [firstL_length]; exact ho.alloc _
          have hw05 : w0.heap.size ≤ w5.heap.size := Nat.le_trans Hb1.out.size hs15
          have hbs : w0.heap.size ≤ (wi.alloc (.cells (arr 32 (ub fun _ => 0)) 27)).heap.size := by have := hkp.size; simp; omega
          have hlim : (firstL L3 k).length + [(fun _ => 0 : Dg)].length ≤ 4398046511104 := by rw [firstL_length]; simp; omega
          have Hkp := Lib.hid hkp
          have Hob := Lib.hid hob
          have Ho := Lib.hid ho
          have Hsc := Lib.hid hsc
          have Ho2 := Lib.hid ho2
          have Hnx := Lib.hid hnx
          clear hkp hob ho hsc ho2 hnx
          go_wp2_with (first
            | (guard_target = wpList _ _ _ (⟨some 79, _, _, _, _, _⟩ :: _) _ _; refine wpList_build0 rfl 27 _ rfl (.agg (arr 32 (ub fun _ => 0))) rfl buildH0 ?_)
            | (guard_target = wpList _ _ _ (⟨some 80, _, _, _, _, _⟩ :: _) _ _; refine build1H rfl (.tmp 79) rfl (fun _ => 0) rfl wi.heap.size rfl ?_)
            | (guard_target = wpList _ _ _ (⟨some 81, _, _, _, _, _⟩ :: _) _ _; refine appendHs rfl (.tmp 78) (.tmp 80) rfl w0.heap.size _ (firstL L3 k) [fun _ => 0] rfl Ho2.out ⟨wi.heap.size, 0, none⟩ 1 rfl Hsc.out hlim hbs ?_; intro v' w9 hv9 hk9 hat9; rw [← Hnx.out] at hv9; have Hv9 := Lib.hid hv9; have Hk9 := Lib.hid hk9; have Hat9 := Lib.hid hat9; clear hv9 hk9 hat9))
          have hv9 := Hv9.out
          rw [firstL_length] at hv9
          have hlen : lenS v' = k + 1 := by obtain ⟨s', c', rfl, -⟩ := own_slice hv9; rfl
          refine ⟨⟨k + 1, by omega, by omega, by omega, hv9, ?_, ?_⟩, by rw [hlen]; show _ < i + 1 - k; omega⟩
          · refine Hkp.out.trans ((Keeps.refl (fun b => (Value.slice sp9 k c9).ownBlock = some b) wi).alloc _ |>.trans Hk9.out (fun _ _ h => h)) fun b hb hS => ?_
            rcases Hob.out with h | h
            · rw [← h]; exact hS
            · exact absurd (h b hS) (by omega)
          · rcases Hat9.out with h | h
            · rw [h]; exact Hob.out
            · right; intro b hb; rw [h] at hb; cases hb; have := Hkp.out.size; simp; omega
        · obtain ⟨v, rfl⟩ : ∃ v, v = u9 := ⟨_, rfl⟩
          obtain ⟨g, c9, rfl, hog, hg0, hgs, -, hF1⟩ := own_dgs ho (by omega)
          have hS : ∀ q, (Value.slice sp n c1).ownBlock = some q → w0.heap.size ≤ q ∧ q < w1.heap.size := Hgl.out
          have hk12s : k12 < w5.heap.size := lt_row Hr5.out
          have hk7 : w.heap.size < w0.heap.size := lt_row hrl
          have hw05 : w0.heap.size ≤ w1.heap.size := Hb1.out.size
          have hgor : (w0.heap.size ≤ g ∧ g < w1.heap.size) ∨ w5.heap.size ≤ g := by
            rcases hob with h | h
            · rw [hog] at h; exact .inl (hS g h.symm)
            · exact .inr (h g hog)
          have hF2 : DgsAt wi g2 0 d Q := HP5.out.keeps hkp hg5s (fun h => by have := hS _ h; omega)
          have hF3 : wi.heap[k12]? = some (.cells (arr 32 (ub r)) 27 (0, 0)) := (hkp.block k12 hk12s (fun h => by have := hS _ h; omega)).trans Hr5.out
          have hr7 : w5.heap[w.heap.size]? = some (.cells (arr 32 (ub lf)) 26 (0, 0)) := keep_below Hb5.out (keep_below Hb1.out hrl (by omega)) (by omega)
          have hF4 : wi.heap[w.heap.size]? = some (.cells (arr 32 (ub lf)) 26 (0, 0)) := (hkp.block w.heap.size (lt_row hr7) (fun h => by have := hS _ h; omega)).trans hr7
          have hbi : Below w0.heap.size w0 wi := (Hb1.out.trans (Hb5.out.mono hw05)).trans (hkp.below (by have := Hb5.out.size; omega) (fun q hq h => by have := hS _ h; omega))
          have hg2i : g2 < wi.heap.size := Nat.lt_of_lt_of_le hg5s hkp.size
          have hTi : ∀ w', Below w0.heap.size w0 w' → Tabs w' := fun w' h => HT0.out.below h HT0.out.2.2.2
          obtain ⟨z, hz'⟩ : ∃ z, z = L3 i := ⟨_, rfl⟩
          obtain ⟨u, hu⟩ : ∃ u, u = foldN i Q lf d := ⟨_, rfl⟩
          have hzi : node L n 0 i = z := by rw [hz', HL3.out]; rfl
          have hid : i / 2 ^ d = 0 := by rw [← Hp.out]; exact Nat.div_eq_of_lt hi
          have hrf : foldN i Q z d = r := by rw [HQ.out, ← hzi, foldN_path, hid, Hr.out]
          obtain ⟨L4, hL4⟩ : ∃ L4 : Nat → Dg, L4 = fun q => if q = i then lf else L3 q := ⟨_, rfl⟩
          have hL4n : ∀ q, norm (L4 q) = L4 q := fun q => by
            rw [hL4]
            show norm (if q = i then lf else L3 q) = if q = i then lf else L3 q
            split
            · exact Hlf.out
            · rw [HL3.out]; split
              · exact HLn.out q
              · exact norm_zr 0
          have hu4 : u = node L4 k d 0 := by
            rw [hu, HQ.out, ← hid]
            refine fold_exchange (fun j hj => ?_) lf ?_ d
            · unfold node
              rw [hL4]
              by_cases h1 : j < n
              · rw [if_pos h1, if_pos (by omega)]
                show _ = if j = i then lf else L3 j
                rw [if_neg hj, HL3.out, if_pos h1]
              · rw [if_neg h1]
                split
                · show _ = if j = i then lf else L3 j
                  rw [if_neg hj, HL3.out, if_neg h1]
                · rfl
            · unfold node
              rw [if_pos (by omega), hL4]
              show (if i = i then lf else L3 i) = lf
              rw [if_pos rfl]
          have Hf1 := Lib.hid (show ∀ w', Below w0.heap.size w0 w' → g2 < w'.heap.size → DgsAt w' g2 0 d Q → Calls Tryd.prog 28 #[.int .i64 i, .agg (arr 32 (ub z)), .slice (some ⟨g2, 0, none⟩) d cp] w' fun e w'' => e = .returned (.tuple #[.agg (arr 32 (ub r)), .nilIface]) ∧ Below w'.heap.size w' w'' from fun w' h1 h2 h3 => by
            rw [← hrf]; exact fold_any i d cp _ g2 0 z Q w' (hTi w' h1) (by omega) (by rw [← Hp.out]; exact hi) (fun _ => rfl) (fun _ => h2) h3)
          have Hf2 := Lib.hid (show ∀ w', Below w0.heap.size w0 w' → g2 < w'.heap.size → DgsAt w' g2 0 d Q → Calls Tryd.prog 28 #[.int .i64 i, .agg (arr 32 (ub lf)), .slice (some ⟨g2, 0, none⟩) d cp] w' fun e w'' => e = .returned (.tuple #[.agg (arr 32 (ub u)), .nilIface]) ∧ Below w'.heap.size w' w'' from fun w' h1 h2 h3 => by
            rw [hu]; exact fold_any i d cp _ g2 0 lf Q w' (hTi w' h1) (by omega) (by rw [← Hp.out]; exact hi) (fun _ => rfl) (fun _ => h2) h3)
          have Hro2 := Lib.hid (show ∀ w', Below w0.heap.size w0 w' → g < w'.heap.size → DgsAt w' g 0 k L4 → Calls Tryd.prog 24 #[.int .i64 d, .slice (some ⟨g, 0, none⟩) k c9] w' fun e w'' => e = .returned (.tuple #[.agg (arr 32 (ub u)), .nilIface]) ∧ Below w'.heap.size w' w'' from fun w' h1 h2 h3 => by
            rw [hu4]; exact root_any d k _ g 0 c9 L4 w' (hTi w' h1) (by omega) (by rw [← Hp.out]; exact hk3) (fun _ => rfl) (fun _ => h2) h3 hL4n)
          have hat0 : wi.rangeAt g (i * 32) (arr 32 (ub z)).toList := by have := hF1 i (by omega); rw [Nat.zero_add, ← hz'] at this; exact this
          have HL4 := Lib.hid hL4
          have Hbi := Lib.hid hbi
          have HF2 := Lib.hid hF2
          have HF3 := Lib.hid hF3
          have HF4 := Lib.hid hF4
          have Ho := Lib.hid ho
          have Hz' := Lib.hid hz'
          clear hL4 hL4n hu4 hrf hzi hid hu hz' hbi hF1 hF2 hF3 hF4 ho hkp hob hS hTi hr7
          obtain ⟨Inv, hInv⟩ : ∃ Inv : World → Prop, Inv = fun w' => Below w0.heap.size w0 w' ∧ g2 < w'.heap.size ∧ DgsAt w' g2 0 d Q ∧ w'.heap[k12]? = some (.cells (arr 32 (ub r)) 27 (0, 0)) ∧ w'.heap[w.heap.size]? = some (.cells (arr 32 (ub lf)) 26 (0, 0)) := ⟨_, rfl⟩
          have Iout : Hid (∀ w', Inv w' → Below w0.heap.size w0 w' ∧ g2 < w'.heap.size ∧ DgsAt w' g2 0 d Q ∧ w'.heap[k12]? = some (.cells (arr 32 (ub r)) 27 (0, 0)) ∧ w'.heap[w.heap.size]? = some (.cells (arr 32 (ub lf)) 26 (0, 0))) := Lib.hid fun w' h => by rw [hInv] at h; exact h
          have Ikeep : Hid (∀ w' w'', Inv w' → Below w'.heap.size w' w'' → Inv w'') := Lib.hid fun w' w'' h hb => by
            rw [hInv] at h ⊢
            obtain ⟨h1, h2, h3, h4, h5⟩ := h
            exact ⟨h1.trans (hb.mono h1.size), Nat.lt_of_lt_of_le h2 hb.size, h3.below hb h2, keep_below hb h4 (lt_row h4), keep_below hb h5 (lt_row h5)⟩
          have Iset : Hid (∀ w' w'', Inv w' → Keeps (· = g) w' w'' → Inv w'') := Lib.hid fun w' w'' h hk => by
            rw [hInv] at h ⊢
            obtain ⟨h1, h2, h3, h4, h5⟩ := h
            exact ⟨h1.trans (hk.below h1.size fun q hq e => by omega), Nat.lt_of_lt_of_le h2 hk.size, h3.keeps hk h2 (by omega), (hk.block k12 (lt_row h4) (by omega)).trans h4, (hk.block w.heap.size (lt_row h5) (by omega)).trans h5⟩
          have hIi : Inv wi := by rw [hInv]; exact ⟨Hbi.out, hg2i, HF2.out, HF3.out, HF4.out⟩
          clear hInv HF2 HF3 HF4 Hbi hg2i
          go_upto_region 14 with (first
            | (guard_target = wpList _ _ _ (⟨some 87, _, _, _, _, _⟩ :: _) _ _; refine wpList_load_arr rfl 27 (.tmp 86) rfl g (i * 32) rfl (arr 32 (ub z)) _ hat0 Tryd.underlying27 rfl (infH' _) ?_; clear hat0)
            | (go_at_call 28; refine (Hf1.out wi (Iout.out wi hIi).1 (Iout.out wi hIi).2.1 (Iout.out wi hIi).2.2.1).mono ?_; rintro e w6 ⟨rfl, hb6⟩; have hI6 := Ikeep.out _ _ hIi hb6; have ho6 := own_below Ho.out hb6 (Nat.le_refl _); clear Hf1 hb6 hIi)
            | (guard_target = wpList _ _ _ (⟨_, Op.store _ (.tmp 14) _, _, _, _, _⟩ :: _) _ _; refine wpList_store_new rfl 27 (.tmp 14) (.tmp 90) rfl w6.heap.size _ (arr 32 (ub r)) 27 rfl rfl rfl (z32_size _) (infH _) (bytes_one 32 _) ?_; have h14 : (w6.alloc (.cells (arr 32 (ub r)) 27)).heap[w6.heap.size]? = some (.cells (arr 32 (ub r)) 27 (0, 0)) := at_alloc _ rfl; have hb7 : Below w6.heap.size w6 (w6.alloc (.cells (arr 32 (ub r)) 27)) := (Below.refl _ _).alloc (Nat.le_refl _) _; have hI7 := Ikeep.out _ _ hI6 hb7; have ho7 := own_below ho6 hb7 (Nat.le_refl _); have hgk : g < w6.heap.size := (ho6.lt g rfl).2; generalize hw7 : w6.alloc (.cells (arr 32 (ub r)) 27) = w7 at h14 hI7 ho7 ⊢; generalize hk14 : w6.heap.size = k14 at h14 hgk ⊢; have h7lf := (Iout.out w7 hI7).2.2.2.2; clear hw7 hk14 hb7 hI6 ho6)
            | (guard_target = wpList _ _ _ (⟨some 94, _, _, _, _, _⟩ :: _) _ _; refine wpList_load_row rfl 26 (.tmp 7) rfl w.heap.size rfl 26 (arr 32 (ub lf)) (0, 0) _ h7lf Tryd.underlying26 rfl (infB _) ?_; clear h7lf)
            | (go_at_call 28; refine (Hf2.out w7 (Iout.out w7 hI7).1 (Iout.out w7 hI7).2.1 (Iout.out w7 hI7).2.2.1).mono ?_; rintro e w8 ⟨rfl, hb8⟩; have hI8 := Ikeep.out _ _ hI7 hb8; have ho8 := own_below ho7 hb8 (Nat.le_refl _); have h14b := keep_below hb8 h14 (lt_row h14); clear Hf2 hb8 hI7 ho7 h14)
            | (guard_target = wpList _ _ _ (⟨_, Op.store _ (.tmp 15) _, _, _, _, _⟩ :: _) _ _; refine wpList_store_new rfl 27 (.tmp 15) (.tmp 97) rfl w8.heap.size _ (arr 32 (ub u)) 27 rfl rfl rfl (z32_size _) (infH _) (bytes_one 32 _) ?_; have h15 : (w8.alloc (.cells (arr 32 (ub u)) 27)).heap[w8.heap.size]? = some (.cells (arr 32 (ub u)) 27 (0, 0)) := at_alloc _ rfl; have hb9 : Below w8.heap.size w8 (w8.alloc (.cells (arr 32 (ub u)) 27)) := (Below.refl _ _).alloc (Nat.le_refl _) _; have hI9 := Ikeep.out _ _ hI8 hb9; have ho9 := own_below ho8 hb9 (Nat.le_refl _); have h14c := keep_below hb9 h14b (lt_row h14b); have hgk15 : g < w8.heap.size := (ho8.lt g rfl).2; generalize hw9 : w8.alloc (.cells (arr 32 (ub u)) 27) = w9 at h15 h14c hI9 ho9 ⊢; generalize hk15 : w8.heap.size = k15 at h15 hgk15 ⊢; have h9lf := (Iout.out w9 hI9).2.2.2.2; clear hw9 hk15 hb9 hI8 ho8 h14b))
          obtain ⟨hth, hset⟩ := own_set ho9 (show i < k by omega) lf
          have hks : Keeps (· = g) w9 (w9.setCells g (i * 32) (arr 32 (ub lf)).toList) := keeps_only (only_setCells (g := g) _ _ _ (only_refl _ _)) fun q h => by cases h; rfl
          have hI10 := Iset.out _ _ hI9 hks
          have h14d := (hks.block k14 (lt_row h14c) (by omega)).trans h14c
          have h15d := (hks.block k15 (lt_row h15) (by omega)).trans h15
          rw [← HL4.out] at hset
          have Hset := Lib.hid hset
          have Hth := Lib.hid hth
          have HI10 := Lib.hid hI10
          have H14d := Lib.hid h14d
          have H15d := Lib.hid h15d
          clear hset hth hks hI10 hI9 h14c h15 h14d h15d ho9
          go_upto_region 17 with (first
            | (guard_target = wpList _ _ _ (⟨some 101, _, _, _, _, _⟩ :: _) _ _; refine wpList_load_row rfl 26 (.tmp 7) rfl w.heap.size rfl 26 (arr 32 (ub lf)) (0, 0) _ h9lf Tryd.underlying26 rfl (infB _) ?_; clear h9lf; simp only [Act.put, List.setIfInBounds_toArray, List.set_cons_succ, List.set_cons_zero])
            | (guard_target = wpList _ _ _ (⟨_, Op.store _ (.tmp 102) _, _, _, _, _⟩ :: _) _ _; refine wpList_store_mid rfl 27 (.tmp 102) (.tmp 101) rfl g (i * 32) (arr 32 (ub lf)) rfl rfl (by rw [arr_size]; exact Hth.out) (infH _) (bytes_one 32 _) ?_; have hset := Hset.out; have hI10 := HI10.out; have h14d := H14d.out; have h15d := H15d.out; generalize w9.setCells g (i * 32) (arr 32 (ub lf)).toList = w10 at hset hI10 h14d h15d ⊢; clear Hset HI10 H14d H15d Hth; obtain ⟨hgs10, hD⟩ := own_dgs_at hset (by omega))
            | (go_at_call 24; refine (Hro2.out w10 (Iout.out w10 hI10).1 hgs10 hD).mono ?_; rintro e w11 ⟨rfl, hb11⟩; have hI11 := Ikeep.out _ _ hI10 hb11; have hD11 := hD.below hb11 hgs10; have hgs11 := Nat.lt_of_lt_of_le hgs10 hb11.size; have h14e := keep_below hb11 h14d (lt_row h14d); have h15e := keep_below hb11 h15d (lt_row h15d); clear Hro2 hb11 hI10 hD hgs10 h14d h15d hset)
            | (guard_target = wpList _ _ _ (⟨_, Op.store _ (.tmp 16) _, _, _, _, _⟩ :: _) _ _; refine wpList_store_new rfl 27 (.tmp 16) (.tmp 107) rfl w11.heap.size _ (arr 32 (ub u)) 27 rfl rfl rfl (z32_size _) (infH _) (bytes_one 32 _) ?_; have h16 : (w11.alloc (.cells (arr 32 (ub u)) 27)).heap[w11.heap.size]? = some (.cells (arr 32 (ub u)) 27 (0, 0)) := at_alloc _ rfl; have hb12 : Below w11.heap.size w11 (w11.alloc (.cells (arr 32 (ub u)) 27)) := (Below.refl _ _).alloc (Nat.le_refl _) _; have hI12 := Ikeep.out _ _ hI11 hb12; have hD12 := hD11.below hb12 hgs11; have h14f := keep_below hb12 h14e (lt_row h14e); have h15f := keep_below hb12 h15e (lt_row h15e); have hat12 := hD12 i (by omega); rw [Nat.zero_add] at hat12; generalize hw12 : w11.alloc (.cells (arr 32 (ub u)) 27) = w12 at h16 h14f h15f hI12 hat12 ⊢; generalize hk16 : w11.heap.size = k16 at h16 ⊢; clear hw12 hk16 hb12 hI11 hD12 hD11 hgs11 h14e h15e)
            | (guard_target = wpList _ _ _ (⟨some 116, _, _, _, _, _⟩ :: _) _ _; refine wpList_load_arr rfl 27 (.tmp 115) rfl g (i * 32) rfl (arr 32 (ub (L4 i))) _ hat12 Tryd.underlying27 rfl (infH' _) ?_; clear hat12)
            | (go_at_call 28; refine (fold_bad (p : Int) d cp _ (L4 i) w12 (.inr ⟨by omega, .inr ⟨by omega, by rw [hpw0]; exact Int.le_refl _⟩⟩)).mono ?_; rintro e w13 ⟨rfl, hb13⟩; have hI13 := Ikeep.out _ _ hI12 hb13; have h14g := keep_below hb13 h14f (lt_row h14f); have h15g := keep_below hb13 h15f (lt_row h15f); have h16g := keep_below hb13 h16 (lt_row h16); clear hb13 hI12 h14f h15f h16)
            | (guard_target = wpList _ _ _ (⟨_, Op.store _ (.tmp 18) _, _, _, _, _⟩ :: _) _ _; refine wpList_store_new rfl 27 (.tmp 18) (.tmp 119) rfl w13.heap.size _ (arr 32 (ub fun _ => 0)) 27 rfl rfl rfl (z32_size _) (infH _) (bytes_one 32 _) ?_; have hb14 : Below w13.heap.size w13 (w13.alloc (.cells (arr 32 (ub fun _ => 0)) 27)) := (Below.refl _ _).alloc (Nat.le_refl _) _; have hI14 := Ikeep.out _ _ hI13 hb14; have h14h := keep_below hb14 h14g (lt_row h14g); have h15h := keep_below hb14 h15g (lt_row h15g); have h16h := keep_below hb14 h16g (lt_row h16g); generalize w13.alloc (.cells (arr 32 (ub fun _ => 0)) 27) = w14 at h14h h15h h16h hI14 ⊢; clear hb14 hI13 h14g h15g h16g))
          have hs1 : ∀ w, (sizeOf 5).run Tryd.prog w = .ok 1 w := fun w => by kernel_rfl
          have heq : ∀ (f : Nat → BitVec 8) w, (binOp .eql 27 (.agg (arr 32 (ub f))) (.agg (arr 32 (ub f)))).run Tryd.prog w = .ok (.bool true) w := fun f w => run_eql_ub w 27 5 32 Tryd.underlying27 (by kernel_rfl) hs1 f f true (by simp)
          have heqr := heq r
          have hequ := heq u
          have g14 := range_of_row h14h
          have g12 := range_of_row (Iout.out w14 hI14).2.2.2.1
          have g15 := range_of_row h15h
          have g16 := range_of_row h16h
          have HI14 := Lib.hid (Iout.out w14 hI14).1
          clear hs1 heq h14h h15h h16h hI14
          go_wp2_with (first
            | (guard_target = wpList _ _ _ (⟨some 132, _, _, _, _, _⟩ :: _) _ _; refine wpList_load_g rfl 27 (.tmp 14) rfl k14 0 rfl (arr 32 (ub r)) _ g14 Tryd.underlying27 rfl (infH' _) ?_; clear g14; simp only [Act.put, List.setIfInBounds_toArray, List.set_cons_succ, List.set_cons_zero])
            | (guard_target = wpList _ _ _ (⟨some 133, _, _, _, _, _⟩ :: _) _ _; refine wpList_load_g rfl 27 (.tmp 12) rfl k12 0 rfl (arr 32 (ub r)) _ g12 Tryd.underlying27 rfl (infH' _) ?_; clear g12; simp only [Act.put, List.setIfInBounds_toArray, List.set_cons_succ, List.set_cons_zero])
            | (guard_target = wpList _ _ _ (⟨some 137, _, _, _, _, _⟩ :: _) _ _; refine wpList_load_g rfl 27 (.tmp 15) rfl k15 0 rfl (arr 32 (ub u)) _ g15 Tryd.underlying27 rfl (infH' _) ?_; clear g15; simp only [Act.put, List.setIfInBounds_toArray, List.set_cons_succ, List.set_cons_zero])
            | (guard_target = wpList _ _ _ (⟨some 138, _, _, _, _, _⟩ :: _) _ _; refine wpList_load_g rfl 27 (.tmp 16) rfl k16 0 rfl (arr 32 (ub u)) _ g16 Tryd.underlying27 rfl (infH' _) ?_; clear g16; simp only [Act.put, List.setIfInBounds_toArray, List.set_cons_succ, List.set_cons_zero])
            | (go_at_call 21; refine (is_same 2 w14).mono ?_; rintro e w15 ⟨rfl, rfl⟩))
          exact bodyPost_ret (results_tmp (t := 8) rfl _ _ _) rfl ⟨rfl, hb0.trans (HI14.out.mono hb0.size)⟩
end Go.Proofs.YtikkebjhnechdaaDoor
