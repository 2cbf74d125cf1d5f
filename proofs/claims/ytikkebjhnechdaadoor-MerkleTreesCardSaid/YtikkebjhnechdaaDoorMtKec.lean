/- Keccak, as plain Lean. No program in sight. -/
import Derived.Test.YtikkebjhnechdaaDoorMtVal
namespace Go.Mt
/-- The constants of the program's text. -/
def roundsL : List Nat := [1, 32898, 9223372036854808714, 9223372039002292224, 32907, 2147483649, 9223372039002292353, 9223372036854808585, 138, 136, 2147516425, 2147483658, 2147516555, 9223372036854775947, 9223372036854808713, 9223372036854808579, 9223372036854808578, 9223372036854775936, 32778, 9223372039002259466, 9223372039002292353, 9223372036854808704, 2147483649, 9223372039002292232]
def lanesL : List Nat := [10, 7, 11, 17, 18, 3, 5, 16, 8, 21, 24, 4, 15, 23, 19, 13, 12, 2, 20, 14, 22, 9, 6, 1]
def turnsL : List Nat := [1, 3, 6, 10, 15, 21, 28, 36, 45, 55, 2, 14, 27, 41, 56, 8, 25, 43, 62, 18, 39, 61, 20, 44]
def rcon (i : Nat) : BitVec 64 := BitVec.ofNat 64 (roundsL.getD i 0)
def lane (i : Nat) : Nat := lanesL.getD i 0
def turn (i : Nat) : Nat := turnsL.getD i 0

abbrev St := Nat → BitVec 64
def col (f : St) (x : Nat) : BitVec 64 := f x ^^^ f (x + 5) ^^^ f (x + 10) ^^^ f (x + 15) ^^^ f (x + 20)
def dd (f : St) (x : Nat) : BitVec 64 := col f ((x + 4) % 5) ^^^ (col f ((x + 1) % 5)).rotateLeft 1
/-- theta, as far as k rows have come. -/
def thetaTo (f : St) (k : Nat) : St := fun i => if i < 5 * k then f i ^^^ dd f (i % 5) else f i
/-- rho and pi, step by step: the word in hand, and the state. -/
def rp (f : St) : Nat → BitVec 64 × St
  | 0 => (f 1, f)
  | i + 1 => ((rp f i).2 (lane i), upd (rp f i).2 (lane i) ((rp f i).1.rotateLeft (turn i)))
def chiW (f : St) (i : Nat) : BitVec 64 := f i ^^^ (~~~ f (5 * (i / 5) + (i + 1) % 5) &&& f (5 * (i / 5) + (i + 2) % 5))
def chiTo (f : St) (k : Nat) : St := fun i => if i < 5 * k then chiW f i else f i
def round (k : BitVec 64) (f : St) : St :=
  let g := chiTo (rp (thetaTo f 5) 24).2 5
  upd g 0 (g 0 ^^^ k)
def permTo (f : St) : Nat → St
  | 0 => f
  | i + 1 => round (rcon i) (permTo f i)
def perm (f : St) : St := permTo f 24

/-- The program's tables, as cells. -/
def roundsV : List Value := roundsL.map fun n : Nat => .int .u64 n
def lanesV : List Value := lanesL.map fun n : Nat => .int .i64 n
def turnsV : List Value := turnsL.map fun n : Nat => .int .i64 n
theorem getD_mem_or {l : List Nat} (k : Nat) : l.getD k 0 ∈ l ∨ l.getD k 0 = 0 := by
  by_cases h : k < l.length
  · left; rw [List.getD_eq_getElem?_getD, List.getElem?_eq_getElem h]; exact List.getElem_mem h
  · right; rw [List.getD_eq_getElem?_getD, List.getElem?_eq_none (by omega)]; rfl
theorem getElem?_of_lt {l : List Nat} {k : Nat} (h : k < l.length) : l[k]? = some (l.getD k 0) := by
  rw [List.getD_eq_getElem?_getD, List.getElem?_eq_getElem h]; rfl
theorem rounds_small : ∀ n ∈ roundsL, n < 18446744073709551616 := by decide
theorem U_rcon (k : Nat) : U (rcon k) = ((roundsL.getD k 0 : Nat) : Int) := by
  have h : roundsL.getD k 0 < 18446744073709551616 := by
    rcases getD_mem_or (l := roundsL) k with h | h
    · exact rounds_small _ h
    · rw [h]; decide
  unfold U rcon
  rw [BitVec.toNat_ofNat]
  generalize roundsL.getD k 0 = n at h
  omega
theorem rounds_at (k : Nat) (hk : k < 24) : roundsV.toArray[k]? = some (.int .u64 (U (rcon k))) := by
  rw [U_rcon]; unfold roundsV
  rw [List.getElem?_toArray, List.getElem?_map, getElem?_of_lt (by simpa [roundsL] using hk)]; rfl
theorem lanes_at (k : Nat) (hk : k < 24) : lanesV.toArray[k]? = some (.int .i64 (lane k)) := by
  unfold lanesV lane
  rw [List.getElem?_toArray, List.getElem?_map, getElem?_of_lt (by simpa [lanesL] using hk)]; rfl
theorem turns_at (k : Nat) (hk : k < 24) : turnsV[k]? = some (.int .i64 (turn k)) := by
  unfold turnsV turn
  rw [List.getElem?_map, getElem?_of_lt (by simpa [turnsL] using hk)]; rfl
theorem lane_lt (k : Nat) : lane k < 25 := by
  have h : ∀ n ∈ lanesL, n < 25 := by decide
  rcases getD_mem_or (l := lanesL) k with h1 | h1
  · exact h _ h1
  · unfold lane; rw [h1]; decide
theorem turn_lt (k : Nat) : turn k < 64 := by
  have h : ∀ n ∈ turnsL, n < 64 := by decide
  rcases getD_mem_or (l := turnsL) k with h1 | h1
  · exact h _ h1
  · unfold turn; rw [h1]; decide
theorem dd_0 (g : St) : g 4 ^^^ g 9 ^^^ g 14 ^^^ g 19 ^^^ g 24 ^^^ (g 1 ^^^ g 6 ^^^ g 11 ^^^ g 16 ^^^ g 21).rotateLeft 1 = dd g 0 := by unfold dd col; rfl
theorem dd_1 (g : St) : g 0 ^^^ g 5 ^^^ g 10 ^^^ g 15 ^^^ g 20 ^^^ (g 2 ^^^ g 7 ^^^ g 12 ^^^ g 17 ^^^ g 22).rotateLeft 1 = dd g 1 := by unfold dd col; rfl
theorem dd_2 (g : St) : g 1 ^^^ g 6 ^^^ g 11 ^^^ g 16 ^^^ g 21 ^^^ (g 3 ^^^ g 8 ^^^ g 13 ^^^ g 18 ^^^ g 23).rotateLeft 1 = dd g 2 := by unfold dd col; rfl
theorem dd_3 (g : St) : g 2 ^^^ g 7 ^^^ g 12 ^^^ g 17 ^^^ g 22 ^^^ (g 4 ^^^ g 9 ^^^ g 14 ^^^ g 19 ^^^ g 24).rotateLeft 1 = dd g 3 := by unfold dd col; rfl
theorem dd_4 (g : St) : g 3 ^^^ g 8 ^^^ g 13 ^^^ g 18 ^^^ g 23 ^^^ (g 0 ^^^ g 5 ^^^ g 10 ^^^ g 15 ^^^ g 20).rotateLeft 1 = dd g 4 := by unfold dd col; rfl
theorem thetaTo_step (g : St) (k : Nat) (i : Nat) :
    upd (upd (upd (upd (upd (thetaTo g k) (5 * k) (thetaTo g k (5 * k) ^^^ dd g 0)) (5 * k + 1) (thetaTo g k (5 * k + 1) ^^^ dd g 1)) (5 * k + 2) (thetaTo g k (5 * k + 2) ^^^ dd g 2)) (5 * k + 3) (thetaTo g k (5 * k + 3) ^^^ dd g 3)) (5 * k + 4) (thetaTo g k (5 * k + 4) ^^^ dd g 4) i = thetaTo g (k + 1) i := by
  unfold upd thetaTo
  by_cases h4 : i = 5 * k + 4
  · subst h4; simp [show (5 * k + 4) % 5 = 4 by omega, show 5 * k + 4 < 5 * (k + 1) by omega, show ¬ 5 * k + 4 < 5 * k by omega]
  by_cases h3 : i = 5 * k + 3
  · subst h3; simp [show (5 * k + 3) % 5 = 3 by omega, show 5 * k + 3 < 5 * (k + 1) by omega, show ¬ 5 * k + 3 < 5 * k by omega]
  by_cases h2 : i = 5 * k + 2
  · subst h2; simp [show (5 * k + 2) % 5 = 2 by omega, show 5 * k + 2 < 5 * (k + 1) by omega, show ¬ 5 * k + 2 < 5 * k by omega]
  by_cases h1 : i = 5 * k + 1
  · subst h1; simp [show (5 * k + 1) % 5 = 1 by omega, show 5 * k + 1 < 5 * (k + 1) by omega, show ¬ 5 * k + 1 < 5 * k by omega]
  by_cases h0 : i = 5 * k
  · subst h0; simp [show (5 * k) % 5 = 0 by omega, show 5 * k < 5 * (k + 1) by omega]
  rw [if_neg h4, if_neg h3, if_neg h2, if_neg h1, if_neg h0]
  by_cases hi : i < 5 * k
  · rw [if_pos hi, if_pos (by omega)]
  · rw [if_neg hi, if_neg (by omega)]
theorem chiTo_step (g : St) (k : Nat) (i : Nat) :
    upd (upd (upd (upd (upd (chiTo g k) (5 * k) (chiTo g k (5 * k) ^^^ ~~~ chiTo g k (5 * k + 1) &&& chiTo g k (5 * k + 2))) (5 * k + 1) (chiTo g k (5 * k + 1) ^^^ ~~~ chiTo g k (5 * k + 2) &&& chiTo g k (5 * k + 3))) (5 * k + 2) (chiTo g k (5 * k + 2) ^^^ ~~~ chiTo g k (5 * k + 3) &&& chiTo g k (5 * k + 4)))
      (5 * k + 3) (chiTo g k (5 * k + 3) ^^^ ~~~ chiTo g k (5 * k + 4) &&& chiTo g k (5 * k))) (5 * k + 4) (chiTo g k (5 * k + 4) ^^^ ~~~ chiTo g k (5 * k) &&& chiTo g k (5 * k + 1)) i = chiTo g (k + 1) i := by
  have old : ∀ j, chiTo g k (5 * k + j) = g (5 * k + j) := fun j => by unfold chiTo; rw [if_neg (by omega)]
  have old0 : chiTo g k (5 * k) = g (5 * k) := old 0
  have new : ∀ j, j < 5 → chiTo g (k + 1) (5 * k + j) = g (5 * k + j) ^^^ (~~~ g (5 * k + (j + 1) % 5) &&& g (5 * k + (j + 2) % 5)) := fun j hj => by
    unfold chiTo
    rw [if_pos (by omega)]
    unfold chiW
    rw [show (5 * k + j) / 5 = k by omega, show (5 * k + j + 1) % 5 = (j + 1) % 5 by omega, show (5 * k + j + 2) % 5 = (j + 2) % 5 by omega]
  unfold upd
  by_cases h4 : i = 5 * k + 4
  · subst h4; rw [if_pos rfl, new 4 (by omega), old, old, old0]; rfl
  by_cases h3 : i = 5 * k + 3
  · subst h3; rw [if_neg h4, if_pos rfl, new 3 (by omega), old, old, old0]; rfl
  by_cases h2 : i = 5 * k + 2
  · subst h2; rw [if_neg h4, if_neg h3, if_pos rfl, new 2 (by omega), old, old, old]
  by_cases h1 : i = 5 * k + 1
  · subst h1; rw [if_neg h4, if_neg h3, if_neg h2, if_pos rfl, new 1 (by omega), old, old, old]
  by_cases h0 : i = 5 * k
  · subst h0; rw [if_neg h4, if_neg h3, if_neg h2, if_neg h1, if_pos rfl, old, old, old0]; exact (new 0 (by omega)).symm
  rw [if_neg h4, if_neg h3, if_neg h2, if_neg h1, if_neg h0]
  unfold chiTo
  by_cases hi : i < 5 * k
  · rw [if_pos hi, if_pos (by omega)]
  · rw [if_neg hi, if_neg (by omega)]

/-! ### A piece comes in -/
/-- The word i, as far as k bytes of the piece p have come. -/
def xw (f : St) (p : Nat → BitVec 8) (i : Nat) : Nat → BitVec 64
  | 0 => f i
  | k + 1 => xw f p i k ^^^ ((p (8 * i + k)).setWidth 64 <<< (8 * k))
def xinTo (f : St) (p : Nat → BitVec 8) (i k : Nat) : St := fun j => if j < i then xw f p j 8 else if j = i then xw f p i k else f j
def xin (f : St) (p : Nat → BitVec 8) : St := fun j => if j < 17 then xw f p j 8 else f j
def absorb (f : St) (p : Nat → BitVec 8) : St := perm (xin f p)
theorem xinTo_step (f : St) (p : Nat → BitVec 8) (i k : Nat) : upd (xinTo f p i k) i (xinTo f p i k i ^^^ ((p (8 * i + k)).setWidth 64 <<< (8 * k))) = xinTo f p i (k + 1) := by
  funext j
  unfold upd xinTo
  by_cases h : j = i
  · subst h; simp [xw]
  · rw [if_neg h]; simp [h]
theorem xinTo_next (f : St) (p : Nat → BitVec 8) (i : Nat) : xinTo f p i 8 = xinTo f p (i + 1) 0 := by
  funext j
  unfold xinTo
  by_cases h : j < i
  · rw [if_pos h, if_pos (by omega)]
  · rw [if_neg h]
    by_cases h2 : j = i
    · subst h2; rw [if_pos rfl, if_pos (by omega)]
    · rw [if_neg h2, if_neg (by omega)]
      split
      · rename_i h3; subst h3; rfl
      · rfl
theorem xinTo_zero (f : St) (p : Nat → BitVec 8) : xinTo f p 0 0 = f := by
  funext j
  unfold xinTo
  rw [if_neg (by omega)]
  split
  · rename_i h; subst h; rfl
  · rfl
theorem xinTo_end (f : St) (p : Nat → BitVec 8) (j : Nat) (_ : j < 25) : xinTo f p 17 0 j = xin f p j := by
  unfold xinTo xin
  split
  · rfl
  · split
    · rename_i h; subst h; rfl
    · rfl
/-- A state's first bytes. -/
def dig (f : St) (i : Nat) : BitVec 8 := (f (i / 8) >>> (8 * (i % 8))).setWidth 8
def digTo (f : St) (k : Nat) (i : Nat) : BitVec 8 := if i < k then dig f i else 0
theorem digTo_end (f : St) (i : Nat) (hi : i < 32) : digTo f 32 i = dig f i := by unfold digTo; rw [if_pos hi]
theorem digTo_step (f : St) (k : Nat) : upd (digTo f k) k (dig f k) = digTo f (k + 1) := by
  funext i
  unfold upd digTo
  by_cases h : i = k
  · subst h; simp
  · rw [if_neg h]; simp [show i < k + 1 ↔ i < k by omega]
end Go.Mt
