/- The reference's permutation, plainly: row by row, and that it is perm. No program in sight. -/
import Derived.Test.YtikkebjhnechdaaDoorMtEmpty
namespace Go.Mt
def colN (f : St) (x : Nat) : Nat → BitVec 64
  | 0 => 0
  | k + 1 => colN f x k ^^^ f (x + 5 * k)
theorem colN_end (f : St) (x : Nat) : colN f x 5 = col f x := by
  unfold colN colN colN colN colN colN col
  rw [zero_xor0]; rfl
def bTo (g : St) (x j : Nat) : St := fun i => if i % 5 < x ∨ (i % 5 = x ∧ i / 5 < j) then thE g i else 0
theorem bTo_zero (g : St) : bTo g 0 0 = fun _ => 0 := by
  funext i; unfold bTo; rw [if_neg (by omega)]
theorem bTo_step (g : St) {x : Nat} (hx : x < 5) (j : Nat) : upd (bTo g x j) (x + 5 * j) (g (x + 5 * j) ^^^ col g ((x + 4) % 5) ^^^ (col g ((x + 1) % 5)).rotateLeft 1) = bTo g x (j + 1) := by
  funext i
  unfold upd bTo
  by_cases h : i = x + 5 * j
  · subst h
    rw [if_pos rfl, if_pos (by omega)]
    unfold thE dd
    rw [show (x + 5 * j) % 5 = x by omega, BitVec.xor_assoc]
  · rw [if_neg h]
    have e : (i % 5 < x ∨ (i % 5 = x ∧ i / 5 < j)) = (i % 5 < x ∨ (i % 5 = x ∧ i / 5 < j + 1)) := propext (by omega)
    rw [ite_congr e (fun _ => rfl) (fun _ => rfl)]
theorem bTo_next (g : St) (x i : Nat) (hi : i < 25) : bTo g x 5 i = bTo g (x + 1) 0 i := by
  unfold bTo
  have e : (i % 5 < x ∨ (i % 5 = x ∧ i / 5 < 5)) = (i % 5 < x + 1 ∨ (i % 5 = x + 1 ∧ i / 5 < 0)) := propext (by omega)
  rw [ite_congr e (fun _ => rfl) (fun _ => rfl)]
theorem bTo_end (g : St) (i : Nat) : bTo g 5 0 i = thE g i := by unfold bTo; rw [if_pos (by omega)]
theorem from_to : ∀ i, i < 25 → fromPlace (toPlace i) = i := by decide
theorem toPlace_eq {x : Nat} (hx : x < 5) (j : Nat) : toPlace (x + 5 * j) = j + 5 * ((2 * x + 3 * j) % 5) := by
  unfold toPlace; rw [show (x + 5 * j) / 5 = j by omega, show (x + 5 * j) % 5 = x by omega]
def cTo (g : St) (x j : Nat) : St := fun p => if fromPlace p % 5 < x ∨ (fromPlace p % 5 = x ∧ fromPlace p / 5 < j) then bE g p else 0
theorem cTo_zero (g : St) : cTo g 0 0 = fun _ => 0 := by
  funext i; unfold cTo; rw [if_neg (by omega)]
theorem cTo_step (g : St) {x j : Nat} (hx : x < 5) (hj : j < 5) (p : Nat) (hp : p < 25) : upd (cTo g x j) (toPlace (x + 5 * j)) ((thE g (x + 5 * j)).rotateLeft (turnsOf.getD (x + 5 * j) 0)) p = cTo g x (j + 1) p := by
  unfold upd cTo
  by_cases h : p = toPlace (x + 5 * j)
  · have e := from_to (x + 5 * j) (by omega)
    rw [if_pos h, h, e, if_pos (by omega)]
    unfold bE; rw [e]
  · rw [if_neg h]
    have hne : fromPlace p ≠ x + 5 * j := fun e => h (by rw [← e, toPlace_from hp])
    have e : (fromPlace p % 5 < x ∨ (fromPlace p % 5 = x ∧ fromPlace p / 5 < j)) = (fromPlace p % 5 < x ∨ (fromPlace p % 5 = x ∧ fromPlace p / 5 < j + 1)) := propext (by omega)
    rw [ite_congr e (fun _ => rfl) (fun _ => rfl)]
theorem cTo_next (g : St) (x p : Nat) : cTo g x 5 p = cTo g (x + 1) 0 p := by
  unfold cTo
  have hp := fromPlace_lt p
  have e : (fromPlace p % 5 < x ∨ (fromPlace p % 5 = x ∧ fromPlace p / 5 < 5)) = (fromPlace p % 5 < x + 1 ∨ (fromPlace p % 5 = x + 1 ∧ fromPlace p / 5 < 0)) := propext (by omega)
  rw [ite_congr e (fun _ => rfl) (fun _ => rfl)]
theorem cTo_end (g : St) (p : Nat) : cTo g 5 0 p = bE g p := by unfold cTo; rw [if_pos (by omega)]
def aTo (g : St) (n : Nat) : St := fun i => if i < n then chiE g i else g i
theorem aTo_zero (g : St) : aTo g 0 = g := by funext i; unfold aTo; rw [if_neg (by omega)]
theorem aTo_step (g : St) (n : Nat) : upd (aTo g n) n (chiE g n) = aTo g (n + 1) := by
  funext i
  unfold upd aTo
  by_cases h : i = n
  · subst h; rw [if_pos rfl, if_pos (by omega)]
  · rw [if_neg h]
    have e : (i < n) = (i < n + 1) := propext (by omega)
    rw [ite_congr e (fun _ => rfl) (fun _ => rfl)]
theorem aTo_end (g : St) (i : Nat) (hi : i < 25) : aTo g 25 i = chiE g i := by unfold aTo; rw [if_pos hi]
theorem chi_at (g : St) {x : Nat} (hx : x < 5) (y : Nat) : bE g (x + 5 * y) ^^^ (~~~ bE g ((x + 1) % 5 + 5 * y) &&& bE g ((x + 2) % 5 + 5 * y)) = chiE g (x + 5 * y) := by
  unfold chiE
  rw [show 5 * ((x + 5 * y) / 5) + (x + 5 * y + 1) % 5 = (x + 1) % 5 + 5 * y by omega, show 5 * ((x + 5 * y) / 5) + (x + 5 * y + 2) % 5 = (x + 2) % 5 + 5 * y by omega]
theorem round_at (k : BitVec 64) (g : St) (i : Nat) (hi : i < 25) : upd (aTo g 25) 0 (aTo g 25 0 ^^^ k) i = roundE k g i := by
  unfold upd roundE
  by_cases h : i = 0
  · rw [if_pos h, if_pos h, aTo_end g 0 (by omega)]
  · rw [if_neg h, if_neg h, aTo_end g i hi]
/-- All the rounds. -/
def rpTo (f : St) : Nat → St
  | 0 => f
  | n + 1 => roundE (rcon n) (rpTo f n)
theorem rpTo_perm (f : St) : ∀ n, Eq25 (rpTo f n) (permTo f n)
  | 0 => fun _ _ => rfl
  | n + 1 => fun i hi => by
    show roundE (rcon n) (rpTo f n) i = round (rcon n) (permTo f n) i
    rw [round_E _ _ hi, roundE_congr (rpTo_perm f n)]
end Go.Mt
