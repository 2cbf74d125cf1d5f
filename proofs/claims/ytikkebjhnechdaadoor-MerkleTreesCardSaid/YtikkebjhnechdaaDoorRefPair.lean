/- Walk: the reference's Pair, keccak.Pair. -/
import Derived.Test.YtikkebjhnechdaaDoorRefSum
import Derived.Test.YtikkebjhnechdaaDoorMtOrdD
namespace Go.Mt
open Go.RowKit
/-- An array's bytes, as a list. -/
def bytesL (n : Nat) (f : Nat → BitVec 8) : List (BitVec 8) := (List.range n).map f
@[simp] theorem bytesL_length (n : Nat) (f : Nat → BitVec 8) : (bytesL n f).length = n := by simp [bytesL]
theorem bytesL_getD {n : Nat} (f : Nat → BitVec 8) {i : Nat} (h : i < n) : (bytesL n f).getD i 0 = f i := by
  unfold bytesL; rw [List.getD_eq_getElem?_getD, List.getElem?_map, List.getElem?_range h]; rfl
theorem bytesL_get {n : Nat} (f : Nat → BitVec 8) {j : Nat} {u : Value} (h : (bl (bytesL n f))[j]? = some u) : u = .int .u8 (B (f j)) ∧ j < n := by
  have hj := (List.getElem?_eq_some_iff.1 h).1
  rw [bl_length, bytesL_length] at hj
  rw [bl_get _ j (by rw [bytesL_length]; exact hj), bytesL_getD f hj] at h
  exact ⟨(Option.some.inj h).symm, hj⟩
theorem src_row {w : World} {g n : Nat} {f : Nat → BitVec 8} {t : TypeId} (h : w.heap[g]? = some (.cells (arr n (ub f)) t (0, 0))) : Src w (some ⟨g, 0, none⟩) (bytesL n f) := fun _ => by
  refine ⟨_, rfl, fun j u hu => ?_⟩
  obtain ⟨rfl, hj⟩ := bytesL_get f hu
  rw [Addr.add_mid, Nat.zero_add]
  exact bytes_of h j hj
theorem pair_row {a b : Nat → BitVec 8} : (splice (splice (arr 136 (ub fun _ => 0)).toList 0 (bl (bytesL 32 a))) 32 (bl (bytesL 32 b))).toArray = arr 136 (ub (pad0 (bytesL 32 a ++ bytesL 32 b))) := by
  apply Array.ext_getElem?
  intro i
  rw [List.getElem?_toArray, arr_get]
  have h1 : ∀ j, (splice (arr 136 (ub fun _ => 0)).toList 0 (bl (bytesL 32 a)))[j]? = if j < 136 then some (.int .u8 (B (if j < 32 then a j else 0))) else none := fun j => by
    unfold splice
    rw [List.take_zero, List.nil_append, Nat.zero_add, bl_length, bytesL_length]
    by_cases hj : j < 32
    · rw [List.getElem?_append_left (by simpa using hj), bl_get _ _ (by simpa using hj), bytesL_getD a hj, if_pos (by omega), if_pos hj]
    · rw [List.getElem?_append_right (by simp; omega), bl_length, bytesL_length, List.getElem?_drop, show 32 + (j - 32) = j by omega, Array.getElem?_toList, arr_get, if_neg hj]
      rfl
  have hl : (splice (arr 136 (ub fun _ => 0)).toList 0 (bl (bytesL 32 a))).length = 136 := by rw [length_splice _ _ _ (by simp)]; simp
  generalize splice (arr 136 (ub fun _ => 0)).toList 0 (bl (bytesL 32 a)) = L at h1 hl ⊢
  unfold splice
  rw [bl_length, bytesL_length]
  have hcat : ∀ j, (bytesL 32 a ++ bytesL 32 b).getD j 0 = if j < 32 then a j else if j < 64 then b (j - 32) else 0 := fun j => by
    rw [List.getD_eq_getElem?_getD]
    by_cases hj : j < 32
    · rw [List.getElem?_append_left (by simpa using hj), if_pos hj, ← List.getD_eq_getElem?_getD, bytesL_getD a hj]
    · rw [List.getElem?_append_right (by simpa using hj), bytesL_length, if_neg hj, ← List.getD_eq_getElem?_getD]
      by_cases h64 : j < 64
      · rw [if_pos h64, bytesL_getD b (by omega)]
      · rw [if_neg h64, getD_none (by simp; omega)]; rfl
  have hp : pad0 (bytesL 32 a ++ bytesL 32 b) i = if i < 32 then a i else if i < 64 then b (i - 32) else 0 := by
    unfold pad0
    rw [hcat, List.length_append, bytesL_length, bytesL_length]
    by_cases h64 : i < 64
    · rw [if_pos (by omega)]
    · rw [if_neg (by omega), if_neg (by omega), if_neg h64]
  unfold ub
  rw [hp]
  by_cases hi : i < 32
  · rw [List.getElem?_append_left (by simp; omega), List.getElem?_take_of_lt hi, h1, if_pos hi, if_pos hi]
  · rw [List.getElem?_append_right (by simp; omega), List.length_take, hl, show min 32 136 = 32 from rfl, if_neg hi]
    by_cases h64 : i < 64
    · rw [List.getElem?_append_left (by simp; omega), bl_get _ _ (by simp; omega), bytesL_getD b (by omega), if_pos (by omega), if_pos h64]
    · rw [List.getElem?_append_right (by simp; omega), bl_length, bytesL_length, List.getElem?_drop, show 32 + 32 + (i - 32 - 32) = i by omega, h1, if_neg hi, if_neg h64]
theorem pair_pad (a b : Nat → BitVec 8) : upd (upd (pad0 (bytesL 32 a ++ bytesL 32 b)) 64 1#8) 135 128#8 = pad (bytesL 32 a ++ bytesL 32 b) := by
  have hl : (bytesL 32 a ++ bytesL 32 b).length = 64 := by simp
  have h0 : ∀ j, 64 ≤ j → pad0 (bytesL 32 a ++ bytesL 32 b) j = 0#8 := fun j hj => by
    unfold pad0; rw [hl, if_neg (by omega)]; rfl
  have h1 : pad1 (bytesL 32 a ++ bytesL 32 b) = upd (pad0 (bytesL 32 a ++ bytesL 32 b)) 64 1#8 := by
    unfold pad1; rw [hl, h0 64 (Nat.le_refl _)]; rfl
  unfold pad
  rw [h1]
  have h2 : upd (pad0 (bytesL 32 a ++ bytesL 32 b)) 64 1#8 135 = 0#8 := by
    unfold upd; rw [if_neg (by omega), h0 135 (by omega)]
  rw [h2]; rfl
theorem sumB_pair (a b : Nat → BitVec 8) : dig (absorb (fun _ => 0) (upd (upd (pad0 (bytesL 32 a ++ bytesL 32 b)) 64 1#8) 135 128#8)) = sumB (bytesL 32 a ++ bytesL 32 b) := by
  unfold sumB
  rw [pair_pad, feed_end (by simp)]
end Go.Mt
namespace Go.Proofs.YtikkebjhnechdaaDoor
open Go.RowKit Go.Mt

set_option maxRecDepth 100000 in
set_option maxHeartbeats 4000000 in
theorem refpair_any (a b : Nat → BitVec 8) (w : World) :
    Calls Tryd.prog 18 #[.agg (arr 32 (ub a)), .agg (arr 32 (ub b))] w fun e w' => e = .returned (.agg (arr 32 (ub (sumB (bytesL 32 a ++ bytesL 32 b))))) ∧ Below w.heap.size w w' := by
  have infh : ∀ f, (Tryd.prog.info? 26).map (·.size) = some (arr 32 (ub f)).size := fun f => by rw [arr_size]; kernel_rfl
  obtain ⟨la, hla⟩ : ∃ la, la = bytesL 32 a := ⟨_, rfl⟩
  obtain ⟨lb, hlb⟩ : ∃ lb, lb = bytesL 32 b := ⟨_, rfl⟩
  have ha : la.length = 32 := by rw [hla]; simp
  have hb : lb.length = 32 := by rw [hlb]; simp
  have hA : (((w.alloc (.cells (arr 32 (ub a)) 26)).alloc (.cells (arr 32 (ub b)) 26)).alloc (.cells z32 26)).heap[w.heap.size]? = some (.cells (arr 32 (ub a)) 26 (0, 0)) := keep_alloc (keep_alloc (at_alloc _ rfl) _) _
  have hB : (((w.alloc (.cells (arr 32 (ub a)) 26)).alloc (.cells (arr 32 (ub b)) 26)).alloc (.cells z32 26)).heap[w.heap.size + 1]? = some (.cells (arr 32 (ub b)) 26 (0, 0)) := keep_alloc (at_alloc _ (by simp)) _
  have hZ : (((w.alloc (.cells (arr 32 (ub a)) 26)).alloc (.cells (arr 32 (ub b)) 26)).alloc (.cells z32 26)).heap[w.heap.size + 2]? = some (.cells (arr 32 (ub fun _ => 0)) 26 (0, 0)) := at_z32 _ (by simp)
  have hb0 : Below w.heap.size w (((w.alloc (.cells (arr 32 (ub a)) 26)).alloc (.cells (arr 32 (ub b)) 26)).alloc (.cells z32 26)) := (((Below.refl _ _).alloc (Nat.le_refl _) _).alloc (by simp) _).alloc (by simp; omega) _
  have hs0 : (((w.alloc (.cells (arr 32 (ub a)) 26)).alloc (.cells (arr 32 (ub b)) 26)).alloc (.cells z32 26)).heap.size = w.heap.size + 3 := by simp
  have ho0 : ((((w.alloc (.cells (arr 32 (ub a)) 26)).alloc (.cells (arr 32 (ub b)) 26)).alloc (.cells z32 26)).alloc (.cells #[] 5)).ownsRow (w.heap.size + 3) 5 1 (.slice (some ⟨w.heap.size + 3, 0, none⟩) 0 0) 0 (bl []) := by
    have := World.ownsRow_lit (e := 5) (size := 1) (((w.alloc (.cells (arr 32 (ub a)) 26)).alloc (.cells (arr 32 (ub b)) 26)).alloc (.cells z32 26)) #[] 0 (Nat.le_refl _) (by decide) rfl
    rw [hs0] at this; exact this
  have hbb : Below (w.heap.size + 3) (((w.alloc (.cells (arr 32 (ub a)) 26)).alloc (.cells (arr 32 (ub b)) 26)).alloc (.cells z32 26)) ((((w.alloc (.cells (arr 32 (ub a)) 26)).alloc (.cells (arr 32 (ub b)) 26)).alloc (.cells z32 26)).alloc (.cells #[] 5)) := (Below.refl _ _).alloc (Nat.le_of_eq hs0.symm) _
  have hsA : Src ((((w.alloc (.cells (arr 32 (ub a)) 26)).alloc (.cells (arr 32 (ub b)) 26)).alloc (.cells z32 26)).alloc (.cells #[] 5)) (some ⟨w.heap.size, 0, none⟩) la := by rw [hla]; exact src_row (keep_alloc hA _)
  have hsz : w.heap.size + 3 ≤ ((((w.alloc (.cells (arr 32 (ub a)) 26)).alloc (.cells (arr 32 (ub b)) 26)).alloc (.cells z32 26)).alloc (.cells #[] 5)).heap.size := by simp
  rw [← hla, ← hlb]
  obtain ⟨x, hx⟩ : ∃ x, x = sumB (la ++ lb) := ⟨_, rfl⟩
  have Hsum := Lib.hid (show ∀ sp c w, Src w sp (la ++ lb) → (∀ a, sp = some a → 0 < (la ++ lb).length → a.block < w.heap.size) → (sp = none → c = 0) → Calls Tryd.prog 16 #[.slice sp 64 c] w fun e w' => e = .returned (.agg (arr 32 (ub x))) ∧ Below w.heap.size w w' from fun sp c w h1 h2 h3 => by
    rw [hx]; exact refsum_any sp 64 c (la ++ lb) w (by rw [List.length_append]; omega) h1 h2 h3 (by omega))
  rw [← hx]
  clear hx
  have Hla := Lib.hid hla
  have Hlb := Lib.hid hlb
  clear hla hlb
  go_enter Tryd.func18, Tryd.ntmps18
  go_wp2_with (first
    | (at_builtin; (refine wpList_append_bytes rfl (.tmp 6) (.tmp 7) 22 rfl (w.heap.size + 3) 5 Tryd.t5 Tryd.underlying22 (by kernel_rfl) (by kernel_rfl) (by kernel_rfl) (by kernel_rfl) (.slice (some ⟨w.heap.size + 3, 0, none⟩) 0 0) [] rfl ho0 (some ⟨w.heap.size, 0, none⟩) 32 la (by rw [ha]; rfl) hsA (fun h => by cases h) (by simp; omega) hsz ?_; intro v1 w1 hv1 hk1 hat1; rw [List.nil_append] at hv1; have hb1 := hbb.trans (hk1.below hsz (fun k hk h => by cases h; exact absurd hk (Nat.lt_irrefl _))); have hl1 : w.heap.size + 3 ≤ w1.heap.size := (by have h := hb1.size; rw [hs0] at h; exact h); have hB1 := keep_below hb1 hB (by omega); have hZ1 := keep_below hb1 hZ (by omega); have hsB : Src w1 (some ⟨w.heap.size + 1, 0, none⟩) lb := (by rw [Hlb.out]; exact src_row hB1); clear hsA ho0 hbb))
    | (at_builtin; (refine wpList_append_bytes rfl (.tmp 9) (.tmp 10) 22 rfl (w.heap.size + 3) 5 Tryd.t5 Tryd.underlying22 (by kernel_rfl) (by kernel_rfl) (by kernel_rfl) (by kernel_rfl) v1 la rfl hv1 (some ⟨w.heap.size + 1, 0, none⟩) 32 lb (by rw [hb]; rfl) hsB (fun h => by cases h) (by omega) hl1 ?_; intro v2 w2 hv2 hk2 hat2; have hb2 := hb1.trans (hk2.below hl1 (fun k hk h => by have := (hv1.lt k h).1; omega)); have hl2 : w.heap.size + 3 ≤ w2.heap.size := (by have h := hb2.size; rw [hs0] at h; exact h); have hZ2 := keep_below hb2 hZ (by omega); obtain ⟨s2, c2, hv2e, hs2, hn2, hc2, ha2⟩ := src_own hv2; rw [show (la ++ lb).length = 64 by rw [List.length_append]; omega] at hv2e; subst hv2e; clear hv2 hk2 hat2))
    | (go_at_call 16; (refine (Hsum.out s2 c2 w2 hs2 (fun a ha _ => by obtain ⟨g', rfl, _, h⟩ := ha2 a ha; exact h) hn2).mono ?_; rintro e w3 ⟨rfl, hb3⟩; have hZ3 := keep_below hb3 hZ2 (by omega)))
    | (refine wpList_store_mid rfl 26 (.tmp 4) (.tmp 12) rfl (w.heap.size + 2) 0 (arr 32 (ub x)) rfl rfl (there_row hZ3 (by simp)) (infh _) (bytes_one 32 _) ?_))
  refine bodyPost_ret (results_cell_row (p := 4) (ty := 26) rfl _ _ (w.heap.size + 2) 26 _ (0, 0) _ rfl (setCells_all hZ3 _ (by simp)) Tryd.underlying26 rfl (infh _)) rfl ⟨rfl, ?_⟩
  exact hb0.trans ((hb2.mono (by omega)).trans ((hb3.mono (by omega)).trans (below_only (only_setCells _ _ _ (only_refl _ _)) (by omega) (Nat.le_trans (by omega) hb3.size))))
end Go.Proofs.YtikkebjhnechdaaDoor
