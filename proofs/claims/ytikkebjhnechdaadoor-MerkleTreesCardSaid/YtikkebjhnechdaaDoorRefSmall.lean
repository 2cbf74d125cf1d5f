/- Walk: the reference's left, Constants, Turns. -/
import Derived.Test.YtikkebjhnechdaaDoorKecRot
import Derived.Test.YtikkebjhnechdaaDoorMtEmpty
import Derived.Test.YtikkebjhnechdaaDoorMtOrdD
import Derived.Laws.MakeOwn
namespace Go.Mt
open Go.RowKit
/-! ### Tables -/
def shiftsL : List Nat := [1, 2, 4, 8, 16, 32, 64, 128, 113, 226, 181, 27, 54, 108, 216, 193, 243, 151, 95, 190, 13, 26, 52, 104, 208, 209, 211, 215, 223, 207, 239, 175, 47, 94, 188, 9, 18, 36, 72, 144, 81, 162, 53, 106, 212, 217, 195, 247, 159, 79, 158, 77, 154, 69, 138, 101, 202, 229, 187, 7, 14, 28, 56, 112, 224, 177, 19, 38, 76, 152, 65, 130, 117, 234, 165, 59, 118, 236, 169, 35, 70, 140, 105, 210, 213, 219, 199, 255, 143, 111, 222, 205, 235, 167, 63, 126, 252, 137, 99, 198, 253, 139, 103, 206, 237, 171, 39, 78, 156, 73, 146, 85, 170, 37, 74, 148, 89, 178, 21, 42, 84, 168, 33, 66, 132, 121, 242, 149, 91, 182, 29, 58, 116, 232, 161, 51, 102, 204, 233, 163, 55, 110, 220, 201, 227, 183, 31, 62, 124, 248, 129, 115, 230, 189, 11, 22, 44, 88, 176, 17, 34, 68, 136, 97, 194, 245, 155, 71, 142]
def shiftAt (n : Nat) : Nat := shiftsL.getD n 0
def wordsL : List Nat := [0, 1, 1, 1, 1, 1, 1, 1, 0, 0, 2, 2, 130, 32898, 32898, 32898, 0, 0, 2, 10, 138, 32906, 32906, 9223372036854808714, 0, 0, 0, 0, 0, 32768, 2147516416, 9223372039002292224, 0, 1, 3, 11, 139, 32907, 32907, 32907, 0, 1, 1, 1, 1, 1, 2147483649, 2147483649, 0, 1, 1, 1, 129, 32897, 2147516545, 9223372039002292353, 0, 1, 1, 9, 9, 32777, 32777, 9223372036854808585, 0, 0, 2, 10, 138, 138, 138, 138, 0, 0, 0, 8, 136, 136, 136, 136, 0, 1, 1, 9, 9, 32777, 2147516425, 2147516425, 0, 0, 2, 10, 10, 10, 2147483658, 2147483658, 0, 1, 3, 11, 139, 32907, 2147516555, 2147516555, 0, 1, 3, 11, 139, 139, 139, 9223372036854775947, 0, 1, 1, 9, 137, 32905, 32905, 9223372036854808713, 0, 1, 3, 3, 3, 32771, 32771, 9223372036854808579, 0, 0, 2, 2, 2, 32770, 32770, 9223372036854808578, 0, 0, 0, 0, 128, 128, 128, 9223372036854775936, 0, 0, 2, 10, 10, 32778, 32778, 32778, 0, 0, 2, 10, 10, 10, 2147483658, 9223372039002259466, 0, 1, 1, 1, 129, 32897, 2147516545, 9223372039002292353, 0, 0, 0, 0, 128, 32896, 32896, 9223372036854808704, 0, 1, 1, 1, 1, 1, 2147483649, 2147483649, 0, 0, 0, 8, 8, 32776, 2147516424, 9223372039002292232]
def wordAt (i j : Nat) : Nat := wordsL.getD (8 * i + j) 0
theorem shift_even : ∀ n, n < 168 → shiftAt n * 2 ≤ 255 → shiftAt n * 2 = shiftAt (n + 1) := by decide +kernel
theorem shift_over : ∀ n, n < 168 → 255 < shiftAt n * 2 → bits .xor .i64 ((shiftAt n * 2 : Nat) : Int) 369 = (shiftAt (n + 1) : Int) := by decide +kernel
theorem shift_small : ∀ n, n < 169 → shiftAt n ≤ 255 := by decide +kernel
theorem word_skip : ∀ i, i < 24 → ∀ j, j < 7 → shiftAt (7 * i + j) % 2 ≠ 1 → wordAt i j = wordAt i (j + 1) := by decide +kernel
theorem word_or : ∀ i, i < 24 → ∀ j, j < 7 → shiftAt (7 * i + j) % 2 = 1 → bits .or .u64 (wordAt i j : Int) ((2 ^ (2 ^ j - 1) : Nat) : Int) = (wordAt i (j + 1) : Int) := by decide +kernel
theorem word_zero : ∀ i, i < 24 → wordAt i 0 = 0 := by decide +kernel
theorem word_end : ∀ i, i < 24 → wordAt i 7 = roundsL.getD i 0 := by decide +kernel
theorem shift_zero : shiftAt 0 = 1 := rfl
def xsL : List Nat := [1, 0, 2, 1, 2, 3, 3, 0, 1, 3, 1, 4, 4, 0, 3, 4, 3, 2, 2, 0, 4, 2, 4, 1, 1]
def ysL : List Nat := [0, 2, 1, 2, 3, 3, 0, 1, 3, 1, 4, 4, 0, 3, 4, 3, 2, 2, 0, 4, 2, 4, 1, 1, 0]
def xAt (n : Nat) : Nat := xsL.getD n 0
def yAt (n : Nat) : Nat := ysL.getD n 0
theorem xy_small : ∀ n, n < 25 → xAt n < 5 ∧ yAt n < 5 := by decide +kernel
theorem xy_step : ∀ n, n < 24 → yAt n = xAt (n + 1) ∧ (2 * xAt n + 3 * yAt n) % 5 = yAt (n + 1) := by decide +kernel
def tnTo : Nat → Nat → Nat
  | 0 => fun _ => 0
  | n + 1 => fun i => if i = xAt n + 5 * yAt n then (n + 1) * (n + 2) / 2 % 64 else tnTo n i
theorem tn_end : ∀ i, i < 25 → tnTo 24 i = turnsOf.getD i 0 := by decide +kernel
/-- Numbers of a list of whole numbers, as cells. -/
def nl (k : IntKind) (ns : List Nat) : List Value := ns.map fun n : Nat => .int k n
/-- 'append' of one number onto a slice of the call's own. -/
theorem wpList_append_num {P : Program} {w : World} {ops : Array Oper} {rest : List Oper} {o : Oper} {a : Act} {Q : Exit → Act → World → Prop} (hgd : o.guard = none) (s x : Operand) (t : TypeId)
    (ho : o.op = .call { callee := .builtin .append, args := #[s, x], argTypes := #[t, t] })
    (base : Nat) (e : TypeId) (i : TypeInfo) (k : IntKind) (ht : P.underlying t = some (.slice e)) (hi : P.info? e = some i) (hz : i.zero = some (.int k 0)) (hsize : i.size = 1) (hby : i.bytes ≤ 8)
    (v : Value) (ns : List Nat) (m : Nat) (hs : a.eval s = v) (hown : w.ownsRow base e 1 v ns.length (nl k ns))
    (g c : Nat) (hx : a.eval x = .slice (some ⟨g, 0, none⟩) 1 c) (hsrc : w.cell? ⟨g, 0, none⟩ = some (.int k m))
    (hlim : ns.length < 1000) (hbase : base ≤ w.heap.size)
    (h : ∀ v' w', w'.ownsRow base e 1 v' (ns ++ [m]).length (nl k (ns ++ [m])) → Keeps (fun k => v.ownBlock = some k) w w' → wpList P ops Q rest (a.put o.dst v') w') :
    wpList P ops Q (o :: rest) a w := by
  subst hs
  refine wpList_append_own_at w hgd s x t ho base e i (.int k 0) 1 i.bytes ht hi hz hsize rfl rfl (by omega) _ ns.length (nl k ns) rfl hown ⟨g, 0, none⟩ 1 c [.int k m] hx (by simp) ?_ (by simp; rfl) (by have : maxLen = 9223372036854775807 := rfl; omega) ?_ hbase ?_
  · intro j u hu
    have hj := (List.getElem?_eq_some_iff.1 hu).1
    simp at hj
    subst hj
    simp at hu
    subst hu
    exact hsrc
  · have := Nat.mul_le_mul (show ns.length + 1 ≤ 1000 by omega) hby; omega
  · intro v' w1 hown' hgrow _ _
    refine h v' w1 ?_ (keeps_only hgrow fun k hk => hk)
    rw [show (ns ++ [m]).length = ns.length + 1 by simp, show nl k (ns ++ [m]) = nl k ns ++ [.int k m] by simp [nl]]
    exact hown'
end Go.Mt
namespace Go.Proofs.YtikkebjhnechdaaDoor
open Go.RowKit Go.Mt

theorem left_any (x : BitVec 64) (k : Nat) (w : World) (k1 : k < 64) :
    Calls Tryd.prog 50 #[.int .u64 (U x), .int .i64 k] w fun e w' => e = .returned (.int .u64 (U (x.rotateLeft k))) ∧ w = w' := by
  have h0 : x.rotateLeft 0 = x := rot_none x
  by_cases hk : k = 0
  · subst hk
    go_enter Tryd.func50, Tryd.ntmps50
    go_wp2
    go_ret
    exact ⟨by simp [h0], rfl⟩
  · have hs := rot_shifts x k (by omega) (by omega)
    rw [show (64 - (k : Int)).toNat = 64 - k by omega, show ((k : Int)).toNat = k by omega] at hs
    have hm : (k : Int) % 64 = k := by omega
    go_enter Tryd.func50, Tryd.ntmps50
    go_wp2
    all_goals go_ret
    all_goals exact ⟨by rw [← hs]; rfl, rfl⟩

set_option maxRecDepth 100000 in
set_option maxHeartbeats 2000000 in
theorem constants_any (w : World) :
    Calls Tryd.prog 37 #[] w fun e w' => ∃ g c, e = .returned (.slice (some ⟨g, 0, none⟩) 24 c) ∧ w.heap.size ≤ g ∧ w'.ownsRow w.heap.size 23 1 (.slice (some ⟨g, 0, none⟩) 24 c) 24 (nl .u64 roundsL) ∧ Below w.heap.size w w' := by
  go_enter Tryd.func37, Tryd.ntmps37
  go_wp2_with fail
  go_loopw [1, 2, 3] (fun v b x wr => ∃ i : Nat, i ≤ 24 ∧ b = .int .i64 (shiftAt (7 * i)) ∧ x = .int .i64 i ∧ wr.ownsRow w.heap.size 23 1 v (roundsL.take i).length (nl .u64 (roundsL.take i)) ∧ Below w.heap.size w wr) (fun _ _ x _ => 24 - (intOf x).toNat)
  case atStart => exact ⟨0, by omega, rfl, rfl, World.ownsRow_nil _ _ _ _, Below.refl _ _⟩
  case round =>
    obtain ⟨i, hi, rfl, rfl, ho, hb⟩ := hrel
    have Hb := Lib.hid hb
    clear hb
    by_cases hlt : i < 24
    · have Ho := Lib.hid ho
      clear ho
      go_wp2_with fail
      obtain ⟨wo, hwo⟩ : ∃ wo : World, wo = wr := ⟨_, rfl⟩
      have hwr : wr = wo := hwo.symm
      clear hwo
      go_loopw [2, 4, 5] (fun b k x wq => ∃ j : Nat, j ≤ 7 ∧ b = .int .i64 (shiftAt (7 * i + j)) ∧ k = .int .u64 (wordAt i j) ∧ x = .int .i64 j ∧ wq = wo) (fun _ _ x _ => 7 - (intOf x).toNat)
      case atStart => exact ⟨0, by omega, rfl, by rw [word_zero i hlt]; rfl, rfl, hwr⟩
      case round =>
        obtain ⟨j, hj, rfl, rfl, rfl, hwq⟩ := hrel
        by_cases hj7 : j < 7
        · have hs8 := shift_small (7 * i + j) (by omega)
          have he := shift_even (7 * i + j) (by omega)
          have hov := shift_over (7 * i + j) (by omega)
          have hsk := word_skip i hlt j hj7
          have hor := word_or i hlt j hj7
          rw [Nat.add_assoc] at he hov
          generalize hS : shiftAt (7 * i + j) = s at *
          generalize hS' : shiftAt (7 * i + (j + 1)) = s' at *
          generalize hK : wordAt i j = k at *
          generalize hK' : wordAt i (j + 1) = k' at *
          have hfin : (∃ j1 : Nat, j1 ≤ 7 ∧ Value.int .i64 (s' : Int) = .int .i64 (shiftAt (7 * i + j1)) ∧ Value.int .u64 (k' : Int) = .int .u64 (wordAt i j1) ∧ Value.int .i64 ((j : Int) + 1) = .int .i64 j1 ∧ wr = wo) := ⟨j + 1, by omega, by rw [hS'], by rw [hK'], by go_num, hwq⟩
          have Hfin := Lib.hid hfin
          clear hfin hS hS' hK hK' hwq Ho Hb
          by_cases hp : s % 2 = 1
          · have hp' : (s : Int) % 2 = 1 := by omega
            have hor' := hor hp
            clear hor hsk hp
            obtain rfl | rfl | rfl | rfl | rfl | rfl | rfl : j = 0 ∨ j = 1 ∨ j = 2 ∨ j = 3 ∨ j = 4 ∨ j = 5 ∨ j = 6 := by omega
            all_goals
              simp at hor'
              by_cases h2 : s * 2 ≤ 255
              · have he' : (s : Int) * 2 = s' := by have := he h2; omega
                have h3 : ¬ (255 < (s' : Int)) := by omega
                go_wp2_with fail
                exact ⟨Hfin.out, by simp [intOf]⟩
              · have h3 := hov (by omega)
                have h4 : 255 < (s : Int) * 2 := by omega
                rw [show ((s * 2 : Nat) : Int) = (s : Int) * 2 by omega] at h3
                go_wp2_with fail
                exact ⟨Hfin.out, by simp [intOf]⟩
          · have hp' : ¬ ((s : Int) % 2 = 1) := by omega
            have hor' := hsk hp
            subst hor'
            clear hor hsk hp
            by_cases h2 : s * 2 ≤ 255
            · have he' : (s : Int) * 2 = s' := by have := he h2; omega
              have h3 : ¬ (255 < (s' : Int)) := by omega
              go_wp2_with fail
              exact ⟨Hfin.out, by simp [intOf]; omega⟩
            · have h3 := hov (by omega)
              have h4 : 255 < (s : Int) * 2 := by omega
              rw [show ((s * 2 : Nat) : Int) = (s : Int) * 2 by omega] at h3
              go_wp2_with fail
              exact ⟨Hfin.out, by simp [intOf]; omega⟩
        · obtain rfl : j = 7 := by omega
          subst hwq
          rw [hwr] at Ho Hb
          have hsz := Hb.out.size
          have hlen : (roundsL.take i).length = i := by rw [List.length_take]; have : roundsL.length = 24 := rfl; omega
          have hoa := Ho.out.alloc (.cells #[.int .u64 (wordAt i 7)] 23)
          have hsrc : (wr.alloc (.cells #[.int .u64 (wordAt i 7)] 23)).cell? ⟨wr.heap.size, 0, none⟩ = some (.int .u64 (wordAt i 7)) := cell_of_row _ _ _ _ _ (0, 0) (at_alloc _ rfl)
          have hlim : (roundsL.take i).length < 1000 := by omega
          have hbs : w.heap.size ≤ (wr.alloc (.cells #[.int .u64 (wordAt i 7)] 23)).heap.size := by simp; omega
          have hnx : roundsL.take i ++ [wordAt i 7] = roundsL.take (i + 1) := by
            have h1 : i < roundsL.length := hlt
            rw [word_end i hlt, List.getD_eq_getElem?_getD, List.getElem?_eq_getElem h1, List.take_succ_eq_append_getElem h1]
            rfl
          go_wp2_with (first | (at_builtin; (refine wpList_append_num rfl (.tmp 30) (.tmp 32) 72 rfl w.heap.size 23 Tryd.t23 .u64 Tryd.underlying72 (by kernel_rfl) (by kernel_rfl) (by kernel_rfl) (by decide +kernel) _ (roundsL.take i) (wordAt i 7) rfl hoa wr.heap.size 1 rfl hsrc hlim hbs ?_; intro v2 w2 hv2 hk2; rw [hnx] at hv2)))
          refine ⟨⟨i + 1, by omega, rfl, by go_num, hv2, ?_⟩, by simp [intOf]; omega⟩
          exact (Hb.out.alloc hsz _).trans (hk2.below hbs (fun k hk h => absurd hk (Nat.not_lt.2 (Ho.out.lt k h).1)))
    · obtain rfl : i = 24 := by omega
      obtain ⟨g, c, rfl, hg, hgl⟩ := ho.form (by decide)
      go_wp2_with fail
      exact bodyPost_ret (results_tmp (t := 0) rfl _ _ _) rfl ⟨g, c, rfl, hg, ho, Hb.out⟩

set_option maxRecDepth 100000 in
set_option maxHeartbeats 2000000 in
theorem turns_any (w : World) :
    Calls Tryd.prog 38 #[] w fun e w' => ∃ g, e = .returned (.slice (some ⟨g, 0, none⟩) 25 25) ∧ w.heap.size ≤ g ∧ w'.heap[g]? = some (.cells (arr 25 fun i => .int .i64 (turnsOf.getD i 0 : Nat)) 3 (0, 0)) ∧ Below w.heap.size w w' := by
  have hmk : ∀ w0 : World, (Instr.makeSlice 76 (.int .i64 25) (.int .i64 25)).run Tryd.prog w0 = .ok (.slice (some ⟨w0.heap.size, 0, none⟩) 25 25) (w0.alloc (.cells (arr 25 fun i => .int .i64 (tnTo 0 i : Nat)) 3)) := fun w0 => by
    have := run_make (P := Tryd.prog) w0 76 3 Tryd.t3 (.int .i64 0) Tryd.underlying76 (by kernel_rfl) (by kernel_rfl) .i64 .i64 25 25 (by decide) (by decide) (by decide) (by decide)
    rw [this]
    have e : madeCells (Value.int .i64 0).cells ((25 : Int).toNat * Tryd.t3.size) = arr 25 fun i => .int .i64 (tnTo 0 i : Nat) := by kernel_rfl
    rw [e]; rfl
  have hz := at_alloc (w := w) (.cells (arr 25 fun i => .int .i64 (tnTo 0 i : Nat)) 3) rfl
  have hb0 : Below w.heap.size w (w.alloc (.cells (arr 25 fun i => .int .i64 (tnTo 0 i : Nat)) 3)) := (Below.refl _ _).alloc (Nat.le_refl _) _
  go_enter Tryd.func38, Tryd.ntmps38
  go_wp2_with fail
  go_loopw [2, 3, 4] (fun x y t wr => ∃ k : Nat, k ≤ 24 ∧ x = .int .i64 (xAt k) ∧ y = .int .i64 (yAt k) ∧ t = .int .i64 k ∧ wr.heap[w.heap.size]? = some (.cells (arr 25 fun i => .int .i64 (tnTo k i : Nat)) 3 (0, 0)) ∧ Below w.heap.size w wr) (fun _ _ t _ => 24 - (intOf t).toNat)
  case atStart => exact ⟨0, by omega, rfl, rfl, rfl, hz, hb0⟩
  case round =>
    obtain ⟨k, hk, rfl, rfl, rfl, hA, hb⟩ := hrel
    have Hb := Lib.hid hb
    clear hb hz hb0 hmk
    by_cases hlt : k < 24
    · obtain ⟨hx, hy⟩ := xy_small k (by omega)
      obtain ⟨hs1, hs2⟩ := xy_step k hlt
      have hset : ∀ w' : World, w'.heap[w.heap.size]? = some (.cells (arr 25 fun i => .int .i64 (tnTo k i : Nat)) 3 (0, 0)) → (w'.setCell ⟨w.heap.size, xAt k + 5 * yAt k, none⟩ (.int .i64 ((((k + 1) * (k + 2) / 2 % 64 : Nat)) : Int))).heap[w.heap.size]? = some (.cells (arr 25 fun i => .int .i64 (tnTo (k + 1) i : Nat)) 3 (0, 0)) := fun w' h => by
        rw [heap_setCell_same w' _ _ _ _ _ h, arr_set]
        congr 3
        funext i
        show _ = Value.int .i64 ((if i = xAt k + 5 * yAt k then (k + 1) * (k + 2) / 2 % 64 else tnTo k i : Nat) : Int)
        split <;> rfl
      have hcx := cells_of hA (xAt k + 5 * yAt k) (by omega)
      have hfr : ∀ j, wr.frozen? ⟨w.heap.size, j, none⟩ = false := fun j => frozen_of_row _ _ _ _ _ hA
      have Hset := Lib.hid hset
      have HA := Lib.hid hA
      clear hset hA
      obtain ⟨m, hm⟩ : ∃ m, m = (k + 1) * (k + 2) := ⟨_, rfl⟩
      have hmi : ((k : Int) + 1) * ((k : Int) + 2) = m := by rw [hm]; push_cast; rfl
      have hm1 : m ≤ 650 := by rw [hm]; exact Nat.le_trans (Nat.mul_le_mul (show k + 1 ≤ 25 by omega) (show k + 2 ≤ 26 by omega)) (by decide)
      rw [← hm] at Hset
      have Hm := Lib.hid hm
      clear hm
      have Hs1 := Lib.hid hs1
      have Hs2 := Lib.hid hs2
      clear hs1 hs2
      generalize xAt k = x at *
      generalize yAt k = y at *
      go_wp2_with fail
      refine ⟨⟨k + 1, by omega, by rw [Hs1.out], ?_, by go_num, ?_, Hb.out.setCell (p := ⟨w.heap.size, x + 5 * y, none⟩) (Nat.le_refl _) _⟩, by simp [intOf]; omega⟩
      · rw [← Hs2.out]; congr 1
      · exact Hset.out _ HA.out
    · obtain rfl : k = 24 := by omega
      have hA' : wr.heap[w.heap.size]? = some (.cells (arr 25 fun i => .int .i64 (turnsOf.getD i 0 : Nat)) 3 (0, 0)) := by
        rw [hA, arr_ext fun i hi => by rw [tn_end i hi]]
      go_wp2_with fail
      exact bodyPost_ret (results_tmp (t := 0) rfl _ _ _) rfl ⟨w.heap.size, rfl, Nat.le_refl _, hA', Hb.out⟩
end Go.Proofs.YtikkebjhnechdaaDoor
