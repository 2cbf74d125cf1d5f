/- Bytes that come in pieces, plainly. No program in sight. -/
import Derived.Test.YtikkebjhnechdaaDoorMtPad
namespace Go.Mt
theorem feed_append (bs : List (BitVec 8)) : ∀ (n : Nat) (f : St) (us : List (BitVec 8)), us.length ≤ n → feed (feed f us).1 ((feed f us).2 ++ bs) = feed f (us ++ bs)
  | 0, f, us, h => by rw [feed_end (bs := us) (by omega)]
  | n + 1, f, us, h => by
    by_cases h136 : 136 ≤ us.length
    · have e : absorb f (fun j => us.getD j 0) = absorb f (fun j => (us ++ bs).getD j 0) := absorb_ext fun i hi => by
        rw [List.getD_eq_getElem?_getD, List.getD_eq_getElem?_getD, List.getElem?_append_left (by omega)]
      have ih := feed_append bs n (absorb f fun j => us.getD j 0) (us.drop 136) (by rw [List.length_drop]; omega)
      rw [feed_step (bs := us) h136, ih, feed_step (bs := us ++ bs) (by rw [List.length_append]; omega), List.drop_append_of_le_length h136, e]
    · rw [feed_end (bs := us) (by omega)]
/-- The first i pieces, one behind the other. -/
def catTo (BS : Nat → List (BitVec 8)) : Nat → List (BitVec 8)
  | 0 => []
  | i + 1 => catTo BS i ++ BS i
theorem catTo_le (BS : Nat → List (BitVec 8)) {i j : Nat} (h : i ≤ j) : (catTo BS i).length ≤ (catTo BS j).length := by
  induction j with
  | zero => rw [Nat.le_zero.1 h]; exact Nat.le_refl _
  | succ j ih =>
    by_cases hj : i = j + 1
    · subst hj; exact Nat.le_refl _
    · exact Nat.le_trans (ih (by omega)) (by show _ ≤ (catTo BS j ++ BS j).length; rw [List.length_append]; omega)
theorem catTo_one (BS : Nat → List (BitVec 8)) {i j : Nat} (h : i < j) : (BS i).length ≤ (catTo BS j).length :=
  Nat.le_trans (by show _ ≤ (catTo BS i ++ BS i).length; rw [List.length_append]; omega) (catTo_le BS (show i + 1 ≤ j by omega))
def fd (us : List (BitVec 8)) : St × List (BitVec 8) := feed (fun _ => 0) us
theorem fd_nil : fd [] = (fun _ => 0, []) := feed_end (by simp)
theorem fd_append (us bs : List (BitVec 8)) : feed (fd us).1 ((fd us).2 ++ bs) = fd (us ++ bs) := feed_append bs _ _ us (Nat.le_refl _)
theorem fd_short (us : List (BitVec 8)) : (fd us).2.length < 136 := feed_short _ _
theorem fd_sum (us : List (BitVec 8)) : dig (absorb (fd us).1 (pad (fd us).2)) = sumB us := rfl
end Go.Mt
