/- Trees of digests, plainly; rows of digests. No program in sight. -/
import Derived.Test.YtikkebjhnechdaaDoorKecPair
import Derived.Test.YtikkebjhnechdaaDoorMtOrdD
namespace Go.Mt
open Go.RowKit
abbrev Dg := Nat → BitVec 8
/-- A digest has 32 places. -/
def norm (f : Dg) : Dg := fun i => if i < 32 then f i else 0
theorem norm_at (f : Dg) {i : Nat} (h : i < 32) : norm f i = f i := by unfold norm; rw [if_pos h]
theorem norm_eq {f g : Dg} (h : ∀ i, i < 32 → f i = g i) : norm f = norm g := by
  funext i; unfold norm; split
  · exact h i ‹_›
  · rfl
theorem norm_norm (f : Dg) : norm (norm f) = norm f := norm_eq fun _ hi => norm_at f hi
theorem arr_norm (f : Dg) : arr 32 (ub (norm f)) = arr 32 (ub f) := bytes_ext fun _ hi => norm_at f hi
theorem bytesL_norm (f : Dg) : bytesL 32 (norm f) = bytesL 32 f := by
  unfold bytesL; exact List.map_congr_left fun i hi => norm_at f (List.mem_range.1 hi)
/-- The digest of two digests next to one another. -/
def pr (a b : Dg) : Dg := norm (sumB (bytesL 32 a ++ bytesL 32 b))
theorem arr_pr (a b : Dg) : arr 32 (ub (sumB (bytesL 32 a ++ bytesL 32 b))) = arr 32 (ub (pr a b)) := (arr_norm _).symm
/-- The noughts. -/
def zr : Nat → Dg
  | 0 => fun _ => 0
  | h + 1 => pr (zr h) (zr h)
theorem norm_zr : ∀ h, norm (zr h) = zr h
  | 0 => by funext i; unfold norm zr; split <;> rfl
  | h + 1 => norm_norm _
/-- What stands at height h, place k of a tree with the n leaves L. -/
def node (L : Nat → Dg) (n : Nat) : Nat → Nat → Dg
  | 0, k => if k < n then L k else zr 0
  | h + 1, k => pr (node L n h (2 * k)) (node L n h (2 * k + 1))
theorem node_zero (L : Nat → Dg) (n : Nat) : ∀ h k, n ≤ 2 ^ h * k → node L n h k = zr h
  | 0, k, h => by unfold node; rw [if_neg (by simpa using h)]
  | h + 1, k, hk => by
    have e : 2 ^ (h + 1) * k = 2 ^ h * (2 * k) := by rw [Nat.pow_succ, Nat.mul_assoc]
    unfold node
    rw [node_zero L n h (2 * k) (by omega), node_zero L n h (2 * k + 1) (by rw [Nat.mul_add]; omega)]
    rfl
/-- How many places of a height are no noughts for sure. -/
def lenAt (n : Nat) : Nat → Nat
  | 0 => n
  | h + 1 => (lenAt n h + 1) / 2
theorem lenAt_zero : ∀ h, lenAt 0 h = 0
  | 0 => rfl
  | h + 1 => by unfold lenAt; rw [lenAt_zero h]
theorem lenAt_pos {n : Nat} (hn : 0 < n) : ∀ h, 0 < lenAt n h
  | 0 => hn
  | h + 1 => by have := lenAt_pos hn h; unfold lenAt; omega
theorem lenAt_le (n : Nat) : ∀ h, lenAt n h ≤ n
  | 0 => Nat.le_refl _
  | h + 1 => by have := lenAt_le n h; unfold lenAt; omega
theorem node_beyond (L : Nat → Dg) (n : Nat) : ∀ h k, lenAt n h ≤ k → node L n h k = zr h
  | 0, k, h => by unfold node; rw [if_neg (by unfold lenAt at h; omega)]
  | h + 1, k, hk => by
    unfold lenAt at hk
    unfold node
    rw [node_beyond L n h (2 * k) (by omega), node_beyond L n h (2 * k + 1) (by omega)]
    rfl
/-- A row of n digests, as cells. -/
def hrow (n : Nat) (F : Nat → Dg) : Array Value := arr (32 * n) fun i => .int .u8 (B (F (i / 32) (i % 32)))
@[simp] theorem hrow_size (n : Nat) (F : Nat → Dg) : (hrow n F).size = 32 * n := by simp [hrow]
theorem hrow_get {n : Nat} (F : Nat → Dg) {k j : Nat} (hk : k < n) (hj : j < 32) : (hrow n F)[32 * k + j]? = some (.int .u8 (B (F k j))) := by
  unfold hrow
  rw [arr_get, if_pos (by omega), show (32 * k + j) / 32 = k by omega, show (32 * k + j) % 32 = j by omega]
theorem hrow_range {w : World} {b n : Nat} {F : Nat → Dg} {t : TypeId} (h : w.heap[b]? = some (.cells (hrow n F) t (0, 0))) {k : Nat} (hk : k < n) : w.rangeAt b (32 * k) (arr 32 (ub (F k))).toList := fun j u hu => by
  have hj := (List.getElem?_eq_some_iff.1 hu).1
  simp at hj
  rw [Array.getElem?_toList, arr_get, if_pos hj] at hu
  rw [cell_of_row w b (32 * k + j) _ t (0, 0) h, hrow_get F hk hj, ← hu]; rfl
theorem hrow_there {w : World} {b n : Nat} {F : Nat → Dg} {t : TypeId} (h : w.heap[b]? = some (.cells (hrow n F) t (0, 0))) {k : Nat} (hk : k < n) : w.there b (32 * k) 32 := fun j hj => by
  refine ⟨?_, frozen_of_row _ _ _ _ _ h⟩
  rw [cell_of_row w b (32 * k + j) _ t (0, 0) h, hrow_get F hk hj]; rfl
theorem hrow_set {w : World} {b n : Nat} {F : Nat → Dg} {t : TypeId} (h : w.heap[b]? = some (.cells (hrow n F) t (0, 0))) {k : Nat} (hk : k < n) (x : Dg) :
    (w.setCells b (32 * k) (arr 32 (ub x)).toList).heap[b]? = some (.cells (hrow n fun i => if i = k then x else F i) t (0, 0)) := by
  obtain ⟨cs, h1, h2, h3⟩ := setCells_part (arr 32 (ub x)).toList (32 * k) w (hrow n F) h (by simp; omega)
  have e : cs = hrow n fun i => if i = k then x else F i := by
    apply Array.ext_getElem?
    intro i
    rw [h3 i]
    by_cases hi : i < 32 * n
    · have e : i = 32 * (i / 32) + i % 32 := by omega
      have hm : i % 32 < 32 := Nat.mod_lt _ (by decide)
      by_cases hk2 : i / 32 = k
      · rw [if_pos (by simp; omega), Array.getElem?_toList, arr_get, if_pos (by omega)]
        conv => rhs; rw [e]
        rw [hrow_get _ (by omega) hm, if_pos hk2, show i - 32 * k = i % 32 by omega]; rfl
      · rw [if_neg (by simp; omega)]
        conv => lhs; rw [e]
        conv => rhs; rw [e]
        rw [hrow_get _ (by omega) hm, hrow_get _ (by omega) hm, if_neg hk2]
    · rw [if_neg (by simp; omega), Array.getElem?_eq_none (by simp; omega), Array.getElem?_eq_none (by simp; omega)]
  rw [h1, e]
end Go.Mt
