/- The permutation turns no two states into one. No program in sight. -/
import Derived.Test.YtikkebjhnechdaaDoorMtKec
import Derived.KernelRfl
namespace Go.Mt
def Eq25 (f g : St) : Prop := ∀ i, i < 25 → f i = g i

/-! ### Turning a word -/
theorem zero_bit (i : Nat) : (0 : BitVec 64).getLsbD i = false := BitVec.getLsbD_zero
theorem zero_xor0 (x : BitVec 64) : (0 : BitVec 64) ^^^ x = x := BitVec.zero_xor
theorem rot_bit (x : BitVec 64) (r i : Nat) (hr : r < 64) (hi : i < 64) : (x.rotateLeft r).getLsbD i = x.getLsbD ((i + (64 - r)) % 64) := by
  rw [BitVec.getLsbD_rotateLeft, Nat.mod_eq_of_lt hr]
  by_cases h : i < r
  · rw [decide_eq_true h, cond_true, Nat.mod_eq_of_lt (by omega)]
    congr 1; omega
  · rw [decide_eq_false h, cond_false, decide_eq_true hi, Bool.true_and, show (i + (64 - r)) % 64 = i - r by omega]
theorem rot_xor (x y : BitVec 64) (r : Nat) (hr : r < 64) : (x ^^^ y).rotateLeft r = x.rotateLeft r ^^^ y.rotateLeft r := by
  refine BitVec.eq_of_getLsbD_eq fun i hi => ?_
  rw [BitVec.getLsbD_xor, rot_bit _ _ _ hr hi, rot_bit _ _ _ hr hi, rot_bit _ _ _ hr hi, BitVec.getLsbD_xor]
theorem rot_rot (x : BitVec 64) (r s : Nat) (hr : r < 64) (hs : s < 64) (hrs : r + s < 64) : (x.rotateLeft r).rotateLeft s = x.rotateLeft (r + s) := by
  refine BitVec.eq_of_getLsbD_eq fun i hi => ?_
  rw [rot_bit _ _ _ hs hi, rot_bit _ _ _ hr (Nat.mod_lt _ (by omega)), rot_bit _ _ _ hrs hi]
  congr 1; omega
theorem rot_full (x : BitVec 64) : (x.rotateLeft 32).rotateLeft 32 = x := by
  refine BitVec.eq_of_getLsbD_eq fun i hi => ?_
  rw [rot_bit _ _ _ (by omega) hi, rot_bit _ _ _ (by omega) (Nat.mod_lt _ (by omega))]
  congr 1; omega
theorem rot_zero (r : Nat) (hr : r < 64) : (0 : BitVec 64).rotateLeft r = 0 := by
  refine BitVec.eq_of_getLsbD_eq fun i hi => ?_
  rw [rot_bit _ _ _ hr hi, zero_bit, zero_bit]
theorem rot_inj {x y : BitVec 64} {r : Nat} (hr : r < 64) (h : x.rotateLeft r = y.rotateLeft r) : x = y := by
  refine BitVec.eq_of_getLsbD_eq fun i hi => ?_
  have this : (x.rotateLeft r).getLsbD ((i + r) % 64) = (y.rotateLeft r).getLsbD ((i + r) % 64) := by rw [h]
  rw [rot_bit _ _ _ hr (Nat.mod_lt _ (by omega)), rot_bit _ _ _ hr (Nat.mod_lt _ (by omega)), show ((i + r) % 64 + (64 - r)) % 64 = i by omega] at this
  exact this
theorem xor_cancel {x y : BitVec 64} (h : x ^^^ y = 0) : x = y := by
  have : x ^^^ y ^^^ y = 0 ^^^ y := by rw [h]
  rwa [BitVec.xor_assoc, BitVec.xor_self, BitVec.xor_zero, zero_xor0] at this

/-! ### theta -/
section
variable {C : Nat → BitVec 64}
/-- Squared. -/
theorem square (a r : Nat) (hr : r < 64) (R2 : BitVec 64 → BitVec 64) (hR : ∀ x : BitVec 64, (x.rotateLeft r).rotateLeft r = R2 x)
    (h : ∀ n, C n ^^^ C (n + 4 * a) ^^^ (C (n + a)).rotateLeft r = 0) (n : Nat) : C n ^^^ C (n + 4 * (2 * a)) ^^^ R2 (C (n + 2 * a)) = 0 := by
  have h1 := h n
  have h2 := h (n + 4 * a)
  have h3 := congrArg (fun z => BitVec.rotateLeft z r) (h (n + a))
  simp only [rot_xor _ _ _ hr, rot_zero _ hr, hR] at h3
  rw [show n + 4 * a + 4 * a = n + 4 * (2 * a) by omega, show n + 4 * a + a = n + 5 * a by omega] at h2
  rw [show n + a + 4 * a = n + 5 * a by omega, show n + a + a = n + 2 * a by omega] at h3
  generalize C n = A at *
  generalize C (n + 4 * a) = B at *
  generalize C (n + 4 * (2 * a)) = D at *
  generalize (C (n + a)).rotateLeft r = E at *
  generalize (C (n + 5 * a)).rotateLeft r = F at *
  generalize R2 (C (n + 2 * a)) = G at *
  have e1 : A = B ^^^ E := by apply xor_cancel; rw [← BitVec.xor_assoc]; exact h1
  have e2 : B ^^^ D = F := by apply xor_cancel; exact h2
  have e3 : E ^^^ F = G := by apply xor_cancel; exact h3
  rw [e1, ← e3, ← e2]
  refine BitVec.eq_of_getLsbD_eq fun i hi => ?_
  simp only [BitVec.getLsbD_xor]
  cases B.getLsbD i <;> cases E.getLsbD i <;> cases D.getLsbD i <;> simp
theorem period {C : Nat → BitVec 64} (hp : ∀ n, C (n + 5) = C n) (k : Nat) : ∀ n, C (n + 5 * k) = C n := by
  induction k with
  | zero => intro n; rfl
  | succ k ih => intro n; rw [show n + 5 * (k + 1) = n + 5 * k + 5 by omega, hp, ih]
theorem column_zero (hp : ∀ n, C (n + 5) = C n) (h : ∀ n, C n ^^^ C (n + 4) ^^^ (C (n + 1)).rotateLeft 1 = 0) (n : Nat) : C n = 0 := by
  have h1 := square 1 1 (by omega) (fun x => x.rotateLeft 2) (fun x => rot_rot x 1 1 (by omega) (by omega) (by omega)) h
  have h2 := square 2 2 (by omega) (fun x => x.rotateLeft 4) (fun x => rot_rot x 2 2 (by omega) (by omega) (by omega)) h1
  have h3 := square 4 4 (by omega) (fun x => x.rotateLeft 8) (fun x => rot_rot x 4 4 (by omega) (by omega) (by omega)) h2
  have h4 := square 8 8 (by omega) (fun x => x.rotateLeft 16) (fun x => rot_rot x 8 8 (by omega) (by omega) (by omega)) h3
  have h5 := square 16 16 (by omega) (fun x => x.rotateLeft 32) (fun x => rot_rot x 16 16 (by omega) (by omega) (by omega)) h4
  have h6 := square 32 32 (by omega) (fun x => x) (fun x => rot_full x) h5
  have q : ∀ n, C n ^^^ C (n + 1) ^^^ C (n + 4) = 0 := fun n => by
    have := h6 n
    rw [show n + 4 * (2 * 32) = n + 1 + 5 * 51 by omega, period hp, show n + 2 * 32 = n + 4 + 5 * 12 by omega, period hp] at this
    exact this
  have a0 := q n
  have a1 := q (n + 1)
  have a2 := q (n + 2)
  have a3 := q (n + 3)
  have a4 := q (n + 4)
  rw [show n + 1 + 1 = n + 2 by omega, show n + 1 + 4 = n + 0 + 5 by omega, hp] at a1
  rw [show n + 2 + 1 = n + 3 by omega, show n + 2 + 4 = n + 1 + 5 by omega, hp] at a2
  rw [show n + 3 + 1 = n + 4 by omega, show n + 3 + 4 = n + 2 + 5 by omega, hp] at a3
  rw [show n + 4 + 1 = n + 0 + 5 by omega, hp, show n + 4 + 4 = n + 3 + 5 by omega, hp] at a4
  rw [Nat.add_zero] at a1 a4
  generalize C n = x0 at *
  generalize C (n + 1) = x1 at *
  generalize C (n + 2) = x2 at *
  generalize C (n + 3) = x3 at *
  generalize C (n + 4) = x4 at *
  refine BitVec.eq_of_getLsbD_eq fun i hi => ?_
  have b0 := congrArg (fun z => BitVec.getLsbD z i) a0
  have b1 := congrArg (fun z => BitVec.getLsbD z i) a1
  have b2 := congrArg (fun z => BitVec.getLsbD z i) a2
  have b3 := congrArg (fun z => BitVec.getLsbD z i) a3
  have b4 := congrArg (fun z => BitVec.getLsbD z i) a4
  simp only [BitVec.getLsbD_xor, zero_bit] at b0 b1 b2 b3 b4 ⊢
  clear a0 a1 a2 a3 a4 h1 h2 h3 h4 h5 h6 q
  revert b0 b1 b2 b3 b4
  cases x0.getLsbD i <;> cases x1.getLsbD i <;> cases x2.getLsbD i <;> cases x3.getLsbD i <;> cases x4.getLsbD i <;> decide
end
theorem col_xor (f g : St) (x : Nat) : col (fun i => f i ^^^ g i) x = col f x ^^^ col g x := by
  show f x ^^^ g x ^^^ (f (x + 5) ^^^ g (x + 5)) ^^^ (f (x + 10) ^^^ g (x + 10)) ^^^ (f (x + 15) ^^^ g (x + 15)) ^^^ (f (x + 20) ^^^ g (x + 20)) = f x ^^^ f (x + 5) ^^^ f (x + 10) ^^^ f (x + 15) ^^^ f (x + 20) ^^^ (g x ^^^ g (x + 5) ^^^ g (x + 10) ^^^ g (x + 15) ^^^ g (x + 20))
  ac_rfl
theorem dd_xor (f g : St) (x : Nat) : dd (fun i => f i ^^^ g i) x = dd f x ^^^ dd g x := by
  unfold dd
  rw [col_xor, col_xor, rot_xor _ _ _ (by omega)]
  ac_rfl
theorem theta_inj {f g : St} (h : Eq25 (thetaTo f 5) (thetaTo g 5)) : Eq25 f g := by
  have hh : ∀ i, i < 25 → f i ^^^ g i = dd (fun i => f i ^^^ g i) (i % 5) := fun i hi => by
    have := h i hi
    unfold thetaTo at this
    rw [if_pos (by omega), if_pos (by omega)] at this
    rw [dd_xor]
    apply xor_cancel
    have e : f i ^^^ dd f (i % 5) ^^^ (g i ^^^ dd g (i % 5)) = 0 := by rw [this, BitVec.xor_self]; rfl
    rw [← e]; ac_rfl
  have hc : ∀ x, x < 5 → col (fun i => f i ^^^ g i) x = dd (fun i => f i ^^^ g i) x := fun x hx => by
    unfold col
    simp only
    rw [hh x (by omega), hh (x + 5) (by omega), hh (x + 10) (by omega), hh (x + 15) (by omega), hh (x + 20) (by omega)]
    rw [show (x + 5) % 5 = x by omega, show (x + 10) % 5 = x by omega, show (x + 15) % 5 = x by omega, show (x + 20) % 5 = x by omega, show x % 5 = x by omega]
    generalize dd (fun i => f i ^^^ g i) x = d
    rw [BitVec.xor_self, BitVec.zero_xor, BitVec.xor_self, BitVec.zero_xor]
  have hz := column_zero (C := fun n => col (fun i => f i ^^^ g i) (n % 5)) (fun n => by show col _ ((n + 5) % 5) = col _ (n % 5); rw [show (n + 5) % 5 = n % 5 by omega]) (fun n => by
    show col (fun i => f i ^^^ g i) (n % 5) ^^^ col (fun i => f i ^^^ g i) ((n + 4) % 5) ^^^ (col (fun i => f i ^^^ g i) ((n + 1) % 5)).rotateLeft 1 = 0
    rw [hc (n % 5) (Nat.mod_lt _ (by omega))]
    unfold dd
    rw [show (n % 5 + 4) % 5 = (n + 4) % 5 by omega, show (n % 5 + 1) % 5 = (n + 1) % 5 by omega]
    generalize col _ ((n + 4) % 5) = a
    generalize (col _ ((n + 1) % 5)).rotateLeft 1 = b
    rw [show a ^^^ b ^^^ a ^^^ b = (a ^^^ a) ^^^ (b ^^^ b) by ac_rfl, BitVec.xor_self, BitVec.xor_self]; rfl)
  intro i hi
  apply xor_cancel
  rw [hh i hi]
  unfold dd
  have h4 : col (fun i => f i ^^^ g i) ((i % 5 + 4) % 5) = 0 := hz (i % 5 + 4)
  have h1 : col (fun i => f i ^^^ g i) ((i % 5 + 1) % 5) = 0 := hz (i % 5 + 1)
  rw [h4, h1, rot_zero _ (by omega)]; rfl

/-! ### chi, iota -/
theorem chi_bits : ∀ a b c d e p q r s t : Bool, (a ^^ (!b && c)) = (p ^^ (!q && r)) → (b ^^ (!c && d)) = (q ^^ (!r && s)) → (c ^^ (!d && e)) = (r ^^ (!s && t)) → (d ^^ (!e && a)) = (s ^^ (!t && p)) → (e ^^ (!a && b)) = (t ^^ (!p && q)) → a = p := by decide
theorem chi_word {a b c d e p q r s t : BitVec 64} (h0 : a ^^^ (~~~b &&& c) = p ^^^ (~~~q &&& r)) (h1 : b ^^^ (~~~c &&& d) = q ^^^ (~~~r &&& s)) (h2 : c ^^^ (~~~d &&& e) = r ^^^ (~~~s &&& t))
    (h3 : d ^^^ (~~~e &&& a) = s ^^^ (~~~t &&& p)) (h4 : e ^^^ (~~~a &&& b) = t ^^^ (~~~p &&& q)) : a = p := by
  refine BitVec.eq_of_getLsbD_eq fun i hi => ?_
  have b0 := congrArg (fun z => BitVec.getLsbD z i) h0
  have b1 := congrArg (fun z => BitVec.getLsbD z i) h1
  have b2 := congrArg (fun z => BitVec.getLsbD z i) h2
  have b3 := congrArg (fun z => BitVec.getLsbD z i) h3
  have b4 := congrArg (fun z => BitVec.getLsbD z i) h4
  simp only [BitVec.getLsbD_xor, BitVec.getLsbD_and, BitVec.getLsbD_not, hi, decide_true, Bool.true_and] at b0 b1 b2 b3 b4
  exact chi_bits _ _ _ _ _ _ _ _ _ _ b0 b1 b2 b3 b4
theorem chi_inj {f g : St} (h : Eq25 (chiTo f 5) (chiTo g 5)) : Eq25 f g := by
  have hw : ∀ y x, y < 5 → x < 5 → f (5 * y + x) ^^^ (~~~ f (5 * y + (x + 1) % 5) &&& f (5 * y + (x + 2) % 5)) = g (5 * y + x) ^^^ (~~~ g (5 * y + (x + 1) % 5) &&& g (5 * y + (x + 2) % 5)) := fun y x hy hx => by
    have := h (5 * y + x) (by omega)
    unfold chiTo chiW at this
    rw [if_pos (by omega), if_pos (by omega), show (5 * y + x) / 5 = y by omega, show (5 * y + x + 1) % 5 = (x + 1) % 5 by omega, show (5 * y + x + 2) % 5 = (x + 2) % 5 by omega] at this
    exact this
  intro i hi
  have e : i = 5 * (i / 5) + i % 5 := by omega
  have hy : i / 5 < 5 := by omega
  have hx : i % 5 < 5 := by omega
  have key : ∀ x, x < 5 → f (5 * (i / 5) + x) = g (5 * (i / 5) + x) := fun x hx => by
    have k0 := hw (i / 5) x hy hx
    have k1 := hw (i / 5) ((x + 1) % 5) hy (by omega)
    have k2 := hw (i / 5) ((x + 2) % 5) hy (by omega)
    have k3 := hw (i / 5) ((x + 3) % 5) hy (by omega)
    have k4 := hw (i / 5) ((x + 4) % 5) hy (by omega)
    rw [show ((x + 1) % 5 + 1) % 5 = (x + 2) % 5 by omega, show ((x + 1) % 5 + 2) % 5 = (x + 3) % 5 by omega] at k1
    rw [show ((x + 2) % 5 + 1) % 5 = (x + 3) % 5 by omega, show ((x + 2) % 5 + 2) % 5 = (x + 4) % 5 by omega] at k2
    rw [show ((x + 3) % 5 + 1) % 5 = (x + 4) % 5 by omega, show ((x + 3) % 5 + 2) % 5 = x by omega] at k3
    rw [show ((x + 4) % 5 + 1) % 5 = x by omega, show ((x + 4) % 5 + 2) % 5 = (x + 1) % 5 by omega] at k4
    exact chi_word k0 k1 k2 k3 k4
  rw [e]; exact key _ hx
theorem iota_inj {f g : St} (k : BitVec 64) (h : Eq25 (upd f 0 (f 0 ^^^ k)) (upd g 0 (g 0 ^^^ k))) : Eq25 f g := fun i hi => by
  have := h i hi
  unfold upd at this
  by_cases h0 : i = 0
  · subst h0
    rw [if_pos rfl, if_pos rfl] at this
    have e : f 0 ^^^ k ^^^ k = g 0 ^^^ k ^^^ k := by rw [this]
    rwa [BitVec.xor_assoc, BitVec.xor_self, BitVec.xor_zero, BitVec.xor_assoc, BitVec.xor_self, BitVec.xor_zero] at e
  · rwa [if_neg h0, if_neg h0] at this

/-! ### rho and pi -/
/-- Where the word i comes, and how far it is turned. -/
def toPlace (i : Nat) : Nat := i / 5 + 5 * ((2 * (i % 5) + 3 * (i / 5)) % 5)
def turnsOf : List Nat := [0, 1, 62, 28, 27, 36, 44, 6, 55, 20, 3, 10, 43, 25, 39, 41, 45, 15, 21, 8, 18, 2, 61, 56, 14]
theorem rot_none (x : BitVec 64) : x.rotateLeft 0 = x := by
  refine BitVec.eq_of_getLsbD_eq fun i hi => ?_
  rw [rot_bit _ _ _ (by omega) hi]
  congr 1; omega
theorem rp_at0' (f : St) : (rp f 24).2 (toPlace 0) = f 0 := by kernel_rfl
theorem rp_at0 (f : St) : (rp f 24).2 (toPlace 0) = (f 0).rotateLeft (turnsOf.getD 0 0) := (rp_at0' f).trans (rot_none _).symm
theorem rp_at1 (f : St) : (rp f 24).2 (toPlace 1) = (f 1).rotateLeft (turnsOf.getD 1 0) := by kernel_rfl
theorem rp_at2 (f : St) : (rp f 24).2 (toPlace 2) = (f 2).rotateLeft (turnsOf.getD 2 0) := by kernel_rfl
theorem rp_at3 (f : St) : (rp f 24).2 (toPlace 3) = (f 3).rotateLeft (turnsOf.getD 3 0) := by kernel_rfl
theorem rp_at4 (f : St) : (rp f 24).2 (toPlace 4) = (f 4).rotateLeft (turnsOf.getD 4 0) := by kernel_rfl
theorem rp_at5 (f : St) : (rp f 24).2 (toPlace 5) = (f 5).rotateLeft (turnsOf.getD 5 0) := by kernel_rfl
theorem rp_at6 (f : St) : (rp f 24).2 (toPlace 6) = (f 6).rotateLeft (turnsOf.getD 6 0) := by kernel_rfl
theorem rp_at7 (f : St) : (rp f 24).2 (toPlace 7) = (f 7).rotateLeft (turnsOf.getD 7 0) := by kernel_rfl
theorem rp_at8 (f : St) : (rp f 24).2 (toPlace 8) = (f 8).rotateLeft (turnsOf.getD 8 0) := by kernel_rfl
theorem rp_at9 (f : St) : (rp f 24).2 (toPlace 9) = (f 9).rotateLeft (turnsOf.getD 9 0) := by kernel_rfl
theorem rp_at10 (f : St) : (rp f 24).2 (toPlace 10) = (f 10).rotateLeft (turnsOf.getD 10 0) := by kernel_rfl
theorem rp_at11 (f : St) : (rp f 24).2 (toPlace 11) = (f 11).rotateLeft (turnsOf.getD 11 0) := by kernel_rfl
theorem rp_at12 (f : St) : (rp f 24).2 (toPlace 12) = (f 12).rotateLeft (turnsOf.getD 12 0) := by kernel_rfl
theorem rp_at13 (f : St) : (rp f 24).2 (toPlace 13) = (f 13).rotateLeft (turnsOf.getD 13 0) := by kernel_rfl
theorem rp_at14 (f : St) : (rp f 24).2 (toPlace 14) = (f 14).rotateLeft (turnsOf.getD 14 0) := by kernel_rfl
theorem rp_at15 (f : St) : (rp f 24).2 (toPlace 15) = (f 15).rotateLeft (turnsOf.getD 15 0) := by kernel_rfl
theorem rp_at16 (f : St) : (rp f 24).2 (toPlace 16) = (f 16).rotateLeft (turnsOf.getD 16 0) := by kernel_rfl
theorem rp_at17 (f : St) : (rp f 24).2 (toPlace 17) = (f 17).rotateLeft (turnsOf.getD 17 0) := by kernel_rfl
theorem rp_at18 (f : St) : (rp f 24).2 (toPlace 18) = (f 18).rotateLeft (turnsOf.getD 18 0) := by kernel_rfl
theorem rp_at19 (f : St) : (rp f 24).2 (toPlace 19) = (f 19).rotateLeft (turnsOf.getD 19 0) := by kernel_rfl
theorem rp_at20 (f : St) : (rp f 24).2 (toPlace 20) = (f 20).rotateLeft (turnsOf.getD 20 0) := by kernel_rfl
theorem rp_at21 (f : St) : (rp f 24).2 (toPlace 21) = (f 21).rotateLeft (turnsOf.getD 21 0) := by kernel_rfl
theorem rp_at22 (f : St) : (rp f 24).2 (toPlace 22) = (f 22).rotateLeft (turnsOf.getD 22 0) := by kernel_rfl
theorem rp_at23 (f : St) : (rp f 24).2 (toPlace 23) = (f 23).rotateLeft (turnsOf.getD 23 0) := by kernel_rfl
theorem rp_at24 (f : St) : (rp f 24).2 (toPlace 24) = (f 24).rotateLeft (turnsOf.getD 24 0) := by kernel_rfl
theorem rp_at (f : St) (i : Nat) (h : i < 25) : (rp f 24).2 (toPlace i) = (f i).rotateLeft (turnsOf.getD i 0) := by
  rcases (by omega : i = 0 ∨ i = 1 ∨ i = 2 ∨ i = 3 ∨ i = 4 ∨ i = 5 ∨ i = 6 ∨ i = 7 ∨ i = 8 ∨ i = 9 ∨ i = 10 ∨ i = 11 ∨ i = 12 ∨ i = 13 ∨ i = 14 ∨ i = 15 ∨ i = 16 ∨ i = 17 ∨ i = 18 ∨ i = 19 ∨ i = 20 ∨ i = 21 ∨ i = 22 ∨ i = 23 ∨ i = 24) with rfl | rfl | rfl | rfl | rfl | rfl | rfl | rfl | rfl | rfl | rfl | rfl | rfl | rfl | rfl | rfl | rfl | rfl | rfl | rfl | rfl | rfl | rfl | rfl | rfl
  · exact rp_at0 f
  · exact rp_at1 f
  · exact rp_at2 f
  · exact rp_at3 f
  · exact rp_at4 f
  · exact rp_at5 f
  · exact rp_at6 f
  · exact rp_at7 f
  · exact rp_at8 f
  · exact rp_at9 f
  · exact rp_at10 f
  · exact rp_at11 f
  · exact rp_at12 f
  · exact rp_at13 f
  · exact rp_at14 f
  · exact rp_at15 f
  · exact rp_at16 f
  · exact rp_at17 f
  · exact rp_at18 f
  · exact rp_at19 f
  · exact rp_at20 f
  · exact rp_at21 f
  · exact rp_at22 f
  · exact rp_at23 f
  · exact rp_at24 f
theorem turnsOf_lt (i : Nat) : turnsOf.getD i 0 < 64 := by
  have h : ∀ n ∈ turnsOf, n < 64 := by decide
  rcases getD_mem_or (l := turnsOf) i with h1 | h1
  · exact h _ h1
  · rw [h1]; decide
theorem toPlace_lt {i : Nat} (h : i < 25) : toPlace i < 25 := by unfold toPlace; omega
theorem rp_inj {f g : St} (h : Eq25 (rp f 24).2 (rp g 24).2) : Eq25 f g := fun i hi => by
  have := h _ (toPlace_lt hi)
  rw [rp_at f i hi, rp_at g i hi] at this
  exact rot_inj (turnsOf_lt i) this
theorem round_inj {f g : St} (k : BitVec 64) (h : Eq25 (round k f) (round k g)) : Eq25 f g := theta_inj (rp_inj (chi_inj (iota_inj k h)))
theorem permTo_inj {f g : St} : ∀ n, Eq25 (permTo f n) (permTo g n) → Eq25 f g
  | 0, h => h
  | n + 1, h => permTo_inj n (round_inj _ h)
theorem perm_inj {f g : St} (h : Eq25 (perm f) (perm g)) : Eq25 f g := permTo_inj 24 h
end Go.Mt
