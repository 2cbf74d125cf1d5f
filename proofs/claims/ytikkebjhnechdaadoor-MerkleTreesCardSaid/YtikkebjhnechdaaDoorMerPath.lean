/- Walk: merkle.Path. -/
import Derived.Test.YtikkebjhnechdaaDoorMerLev
namespace Go.Mt
/-- The place beside. -/
def sib (k : Nat) : Nat := if k % 2 = 0 then k + 1 else k - 1
theorem xor_one (k : Nat) : k ^^^ 1 = sib k := by
  have h1 : (k ^^^ 1) / 2 = k / 2 := by rw [Nat.xor_div_two]; simp
  have h2 : (k ^^^ 1) % 2 = (k + 1) % 2 := by
    have e := Nat.xor_mod_two_pow (a := k) (b := 1) (n := 1)
    rw [Nat.pow_one] at e
    rw [e]
    rcases Nat.mod_two_eq_zero_or_one k with h | h
    · rw [h]; show 0 ^^^ 1 = _; rw [show (0 ^^^ 1 : Nat) = 1 from rfl]; omega
    · rw [h]; show 1 ^^^ 1 = _; rw [show (1 ^^^ 1 : Nat) = 0 from rfl]; omega
  unfold sib; split <;> omega
theorem bits_xor_one {k : Nat} (h : k < 4611686018427387904) : bits .xor .i64 (k : Int) 1 = (sib k : Int) := by
  show IntKind.i64.wrap ((BitVec.ofInt 64 (k : Int) ^^^ BitVec.ofInt 64 1).toNat : Int) = _
  have e1 : (BitVec.ofInt 64 (k : Int)).toNat = k := by rw [BitVec.ofInt_natCast, BitVec.toNat_ofNat]; omega
  have e2 : (BitVec.ofInt 64 1).toNat = 1 := by decide
  rw [BitVec.toNat_xor, e1, e2, xor_one]
  have : sib k ≤ k + 1 := by unfold sib; split <;> omega
  exact wrap_i64_of (by omega) (by omega)
theorem own_base {w : World} {base base' : Nat} {e : TypeId} {s : Nat} {v : Value} {n : Nat} {xs : List Value} (h : w.ownsRow base e s v n xs) (hb : base' ≤ base) : w.ownsRow base' e s v n xs := by
  rcases h.2 with ⟨rfl, h0⟩ | ⟨g, cap, cur, rfl, hb', hg, h1, h2, h3, h4⟩
  · exact ⟨h.1, .inl ⟨rfl, h0⟩⟩
  · exact ⟨h.1, .inr ⟨g, cap, cur, rfl, Nat.le_trans hb hb', hg, h1, h2, h3, h4⟩⟩
/-- The path's digest of height h. -/
def pathF (L : Nat → Dg) (n i : Nat) (h : Nat) : Dg := node L n h (sib (i / 2 ^ h))
end Go.Mt
namespace Go.Proofs.YtikkebjhnechdaaDoor
open Go.RowKit Go.Mt

set_option maxRecDepth 100000 in
set_option maxHeartbeats 2000000 in
theorem path_any (d n i : Nat) (pp : Option Addr) (pb po c : Nat) (L : Nat → Dg) (w : World) (hT : Tabs w) (hd : d ≤ 16) (hn : n ≤ 2 ^ d) (hi : i < 2 ^ d) (hpp : 0 < n → pp = some ⟨pb, po, none⟩) (hpb : 0 < n → pb < w.heap.size)
    (hL : DgsAt w pb po n L) (hLn : ∀ k, norm (L k) = L k) :
    Calls Tryd.prog 27 #[.int .i64 d, .slice pp n c, .int .i64 i] w fun e w' => ∃ v, e = .returned (.tuple #[v, .nilIface]) ∧ w'.ownsRow w.heap.size 27 32 v d (dl (firstL (pathF L n i) d)) ∧ Below w.heap.size w w' := by
  have hp16 : 2 ^ d ≤ 65536 := Nat.pow_le_pow_right (n := 2) (by decide) hd
  have hn16 : n ≤ 65536 := by omega
  have hi16 : i ≤ 65536 := by omega
  have hpw : ((i : Nat) : Int) < pw (d : Int) := by rw [pw_nat]; omega
  have hd62 : (d : Int) ≤ 62 := by omega
  have Hlv := Lib.hid (levels_any d n pp pb po c L w hT hd hn hpp hpb hL hLn)
  clear hT hL hLn hn hi hp16
  go_enter Tryd.func27, Tryd.ntmps27
  go_wp2_with (first
    | (go_at_call 44; refine Hlv.out.mono ?_; rintro e w2 ⟨g, cap, vs, rfl, hg2, hcs, hlv, hb2⟩; have Hcs := Lib.hid hcs; have Hlev := Lib.hid hlv; clear hcs hlv Hlv)
    | (guard_target = wpList _ _ _ (⟨_, Op.store _ (.tmp 9) _, _, _, _, _⟩ :: _) _ _; refine wpList_store_new rfl 89 (.tmp 9) (.tmp 20) rfl w2.heap.size _ (hrow 17 zr) 89 rfl rfl rfl (zc_size _) (infZ _) (hrow_one 17 _) ?_))
  obtain ⟨zb, hzb⟩ : ∃ zb, zb = w2.heap.size := ⟨_, rfl⟩
  obtain ⟨w3, hw3⟩ : ∃ w3, w3 = w2.alloc (.cells (hrow 17 zr) 89) := ⟨_, rfl⟩
  have hb3 : Below w2.heap.size w2 w3 := by rw [hw3]; exact (Below.refl _ _).alloc (Nat.le_refl _) _
  have hs3 : w3.heap.size = zb + 1 := by rw [hw3, hzb]; simp
  have hZ3 : w3.heap[zb]? = some (.cells (hrow 17 zr) 89 (0, 0)) := by rw [hw3]; exact at_alloc _ hzb.symm
  have hcs3 : ∀ h, h ≤ d → w3.cell? ⟨g, h, none⟩ = some (vs h) := fun h hh => by rw [hb3.cell (p := ⟨g, h, none⟩) hg2]; exact Hcs.out h hh
  have hlv3 : ∀ h, h ≤ d → LevAt w3 (· = g) (vs h) (lenAt n h) (node L n h) := fun h hh => (Hlev.out h hh).below hb3 fun _ _ h => h
  have hbw : Below w.heap.size w w3 := hb2.trans (hb3.mono hb2.size)
  have hg3 : g < w3.heap.size := Nat.lt_of_lt_of_le hg2 hb3.size
  rw [← hzb, ← hw3]
  have Hcs3 := Lib.hid hcs3
  have Hlv3 := Lib.hid hlv3
  have Hbw := Lib.hid hbw
  have HZ3 := Lib.hid hZ3
  have Hs3 := Lib.hid hs3
  clear hcs3 hlv3 hbw hZ3 hs3 Hcs Hlev hb2 hb3 hw3 hzb hg2
  have hlast : ∀ h, i / 2 ^ h / 2 = i / 2 ^ (h + 1) := fun h => by rw [Nat.div_div_eq_div_mul, Nat.pow_succ]
  have Hlast := Lib.hid hlast
  clear hlast
  go_loopw [2, 11, 35] (fun x v y wr => ∃ (h ih : Nat), h ≤ d ∧ ih = i / 2 ^ h ∧ x = .int .i64 ih ∧ y = .int .i64 h ∧ wr.ownsRow w3.heap.size 27 32 v (firstL (pathF L n i) h).length (dl (firstL (pathF L n i) h)) ∧ Below w3.heap.size w3 wr) (fun _ _ y _ => d - (intOf y).toNat)
  case atStart => exact ⟨0, i, by omega, by simp, rfl, rfl, World.ownsRow_nil _ _ _ _, Below.refl _ _⟩
  case round =>
    obtain ⟨h, ih, hh, hih, rfl, rfl, ho, hb⟩ := hrel
    obtain ⟨v, rfl⟩ : ∃ v, v = u11 := ⟨_, rfl⟩
    obtain ⟨wi, rfl⟩ : ∃ wi : World, wi = wr := ⟨_, rfl⟩
    by_cases hlt : h < d
    · obtain ⟨sp, cc, hvh, hlev⟩ := Hlv3.out h hh
      have hch := Hcs3.out h hh
      rw [hvh, ← hb.cell (p := ⟨g, h, none⟩) hg3] at hch
      obtain ⟨m, hm⟩ : ∃ m, m = lenAt n h := ⟨_, rfl⟩
      have hm16 : m ≤ 65536 := by rw [hm]; exact Nat.le_trans (lenAt_le n h) hn16
      rw [← hm] at hch hlev
      obtain ⟨s, hs⟩ : ∃ s, s = sib ih := ⟨_, rfl⟩
      obtain ⟨y, hy⟩ : ∃ y, y = node L n h s := ⟨_, rfl⟩
      have hih16 : ih ≤ 65536 := by rw [hih]; exact Nat.le_trans (Nat.div_le_self _ _) hi16
      have hxor : bits .xor .i64 (ih : Int) 1 = (s : Int) := by rw [hs]; exact bits_xor_one (by omega)
      have hnx : firstL (pathF L n i) (h + 1) = firstL (pathF L n i) h ++ [y] := by rw [firstL_succ, hy, hs, hih]; rfl
      have hzw : zb < w3.heap.size := lt_row HZ3.out
      have hz15 : wi.rangeAt zb (h * 32) (arr 32 (ub (zr h))).toList := by rw [Nat.mul_comm]; exact hrow_range (keep_below hb HZ3.out hzw) (by omega)
      have hfar : ¬ s < m → y = zr h := fun hn => by rw [hy]; exact node_beyond L n h s (by omega)
      have hnear : s < m → ∃ b o, sp = some ⟨b, o, none⟩ ∧ ∀ w', Below w3.heap.size w3 w' → w'.rangeAt b (o + s * 32) (arr 32 (ub y)).toList := fun hlt => by
        obtain ⟨b, o, h1, h2, h3, h4⟩ := hlev (by omega)
        exact ⟨b, o, h1, fun w' hw' => by rw [hy]; exact (h4.below hw' h2) s hlt⟩
      have hlim : (firstL (pathF L n i) h).length + [y].length ≤ 4398046511104 := by rw [firstL_length]; simp; omega
      have hb6 : ∀ f : Nat → BitVec 8, Below w3.heap.size w3 (wi.alloc (.cells (arr 32 (ub f)) 27)) := fun f => hb.alloc hb.size _
      have ho7 : ((wi.alloc (.cells (arr 32 (ub y)) 27)).alloc (.cells (arr 32 (ub y)) 27)).ownsRow w3.heap.size 27 32 v (firstL (pathF L n i) h).length (dl (firstL (pathF L n i) h)) := (ho.alloc _).alloc _
      have hb7 : Below w3.heap.size w3 ((wi.alloc (.cells (arr 32 (ub y)) 27)).alloc (.cells (arr 32 (ub y)) 27)) := (hb6 y).alloc (hb6 y).size _
      have hs7 := hb7.size
      have hsc7 := src_one (src_new (wi.alloc (.cells (arr 32 (ub y)) 27)) y 27)
      rw [show (wi.alloc (.cells (arr 32 (ub y)) 27)).heap.size = wi.heap.size + 1 by simp] at hsc7
      obtain ⟨z, hz⟩ : ∃ z, z = zr h := ⟨_, rfl⟩
      rw [← hz] at hz15 hfar
      have hchz : (wi.alloc (.cells (arr 32 (ub z)) 27)).cell? ⟨g, h, none⟩ = some (.slice sp m cc) := by rw [World.cell?_of_block (a := ⟨g, h, none⟩) (heap_alloc_old _ _ (World.block_lt_of_cell? _ _ hch))]; exact hch
      clear hch
      have hih2 : (ih : Int) / 2 = ((ih / 2 : Nat) : Int) := by omega
      have Hlt : Hid (ih / 2 = i / 2 ^ (h + 1)) := Lib.hid (by rw [hih]; exact Hlast.out h)
      have Hnx := Lib.hid hnx
      have Hb6 := Lib.hid hb6
      have Hb7 := Lib.hid hb7
      have Hnear := Lib.hid hnear
      have Hfar := Lib.hid hfar
      have Hsc7 := Lib.hid hsc7
      have Ho7 := Lib.hid ho7
      have Hs7 := Lib.hid hs7
      have Hih2 := Lib.hid hih2
      clear hm hs hy hnx ho hb hb6 hb7 hs7 hsc7 hlev hvh hnear hfar hz hih ho7 hih2
      go_upto_if 49 with (first
        | (guard_target = wpList _ _ _ (⟨_, Op.load _ (.tmp 39), _, _, _, _⟩ :: _) _ _; refine wpList_load_arr rfl 27 (.tmp 39) rfl zb (h * 32) rfl _ _ hz15 Tryd.underlying27 rfl (infH' _) ?_; clear hz15)
        | (guard_target = wpList _ _ _ (⟨_, Op.store _ (.tmp 13) (.tmp 40), _, _, _, _⟩ :: _) _ _; refine wpList_store_new rfl 27 (.tmp 13) (.tmp 40) rfl wi.heap.size _ (arr 32 (ub z)) 27 rfl rfl rfl (z32_size _) (infH _) (bytes_one 32 _) ?_))
      go_cut [13] (fun s13 wx => s13 = .pointer (some ⟨wi.heap.size, 0, none⟩) ∧ wx = wi.alloc (.cells (arr 32 (ub y)) 27))
      case first =>
        by_cases hlt3 : s < m
        · obtain ⟨b, o, rfl, hat⟩ := Hnear.out hlt3
          have hy17 := hat _ (Hb6.out z)
          clear hat
          go_wp2_with (first
            | (guard_target = wpList _ _ _ (⟨_, Op.load _ (.tmp 55), _, _, _, _⟩ :: _) _ _; refine wpList_load_arr rfl 27 (.tmp 55) rfl b (o + s * 32) rfl (arr 32 (ub y)) _ hy17 Tryd.underlying27 rfl (infH' _) ?_; clear hy17)
            | (guard_target = wpList _ _ _ (⟨_, Op.store _ (.tmp 13) (.tmp 56), _, _, _, _⟩ :: _) _ _; refine wpList_store_new rfl 27 (.tmp 13) (.tmp 56) rfl wi.heap.size _ (arr 32 (ub y)) 27 rfl rfl rfl (by rw [arr_size, arr_size]) (infH _) (bytes_one 32 _) ?_))
          (try simp only [Act.put, List.setIfInBounds_toArray, List.set_cons_succ, List.set_cons_zero])
          go_meet
          exact ⟨rfl, rfl⟩
        · have e := Hfar.out hlt3
          subst e
          go_wp2_with fail
          go_meet
          exact ⟨rfl, rfl⟩
      case rest =>
        obtain ⟨rfl, rfl⟩ := hcut
        have hA : (wi.alloc (.cells (arr 32 (ub y)) 27)).heap[wi.heap.size]? = some (.cells (arr 32 (ub y)) 27 (0, 0)) := at_alloc _ rfl
        go_wp2_with (first
          | (guard_target = wpList _ _ _ (⟨_, Op.load _ (.tmp 13), _, _, _, _⟩ :: _) _ _; refine wpList_load_row rfl 27 (.tmp 13) rfl wi.heap.size rfl 27 (arr 32 (ub y)) (0, 0) _ hA Tryd.underlying27 rfl (infH _) ?_; clear hA)
          | (guard_target = wpList _ _ _ (⟨_, Op.buildSlice _ _ _, _, _, _, _⟩ :: _) _ _; refine build1H rfl (.tmp 58) rfl y rfl (wi.heap.size + 1) (by simp) ?_)
          | (at_builtin; refine appendHs rfl (.tmp 57) (.tmp 59) rfl w3.heap.size v (firstL (pathF L n i) h) [y] rfl Ho7.out ⟨wi.heap.size + 1, 0, none⟩ 1 rfl Hsc7.out hlim Hs7.out ?_; intro v' w9 hv9 hk9 hat9; rw [← Hnx.out] at hv9; have hb9 : Below w3.heap.size w3 w9 := Hb7.out.trans (hk9.below Hs7.out (fun q hq h => by have := Ho7.out.lt q h; omega)); clear hk9 hat9))
        exact ⟨⟨h + 1, ih / 2, by omega, Hlt.out, by rw [Hih2.out], by go_num, hv9, hb9⟩, by simp [intOf]; omega⟩
    · obtain rfl : h = d := by omega
      rw [firstL_length] at ho
      have Ho := Lib.hid ho
      clear ho
      go_wp2_with fail
      go_ret2
      exact ⟨_, rfl, own_base Ho.out Hbw.out.size, Hbw.out.trans (hb.mono Hbw.out.size)⟩
end Go.Proofs.YtikkebjhnechdaaDoor
