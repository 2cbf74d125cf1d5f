/- Two hashers beside one another, and the bytes that each was given. No program in sight. -/
import Derived.Test.YtikkebjhnechdaaDoorMtPieces
namespace Go.Mt
open Go.RowKit
/-- Two rows that are owned are apart. -/
def dj (u v : Value) : Prop := ∀ k, u.ownBlock = some k → v.ownBlock = some k → False
theorem dj.symm {u v : Value} (h : dj u v) : dj v u := fun k h1 h2 => h k h2 h1
structure Duo (th te : TypeId) (w0 w : World) (g1 g2 base : Nat) (ux ua uy ub : List (BitVec 8)) (vx va vy vb : Value) : Prop where
  hx : w.heap[g1]? = some (.cells (hs (fd ux).1 vx) th (0, 0))
  hy : w.heap[g2]? = some (.cells (hs (fd uy).1 vy) th (0, 0))
  ox : w.ownsRow base te 1 vx (fd ux).2.length (bl (fd ux).2)
  oa : w.ownsRow base te 1 va ua.length (bl ua)
  oy : w.ownsRow base te 1 vy (fd uy).2.length (bl (fd uy).2)
  ob : w.ownsRow base te 1 vb ub.length (bl ub)
  xa : dj vx va
  xy : dj vx vy
  xb : dj vx vb
  ay : dj va vy
  ab : dj va vb
  yb : dj vy vb
  lt1 : g1 < base
  lt2 : g2 < base
  ne : g1 ≠ g2
  old : w0.heap.size ≤ g1 ∧ w0.heap.size ≤ g2
  below : Below w0.heap.size w0 w
  size : base ≤ w.heap.size
section
variable {th te : TypeId} {w0 w w' : World} {g1 g2 base : Nat} {ux ua uy ub bs : List (BitVec 8)} {vx va vy vb v' : Value} {S : Nat → Prop}
theorem Duo.swap (d : Duo th te w0 w g1 g2 base ux ua uy ub vx va vy vb) : Duo th te w0 w g2 g1 base uy ub ux ua vy vb vx va :=
  ⟨d.hy, d.hx, d.oy, d.ob, d.ox, d.oa, d.yb, d.xy.symm, d.ay.symm, d.xb.symm, d.ab.symm, d.xa, d.lt2, d.lt1, d.ne.symm, ⟨d.old.2, d.old.1⟩, d.below, d.size⟩
/-- What else is written leaves them alone. -/
theorem Duo.keeps (d : Duo th te w0 w g1 g2 base ux ua uy ub vx va vy vb) (k : Keeps S w w') (h1 : ¬ S g1) (h2 : ¬ S g2) (hx : ∀ k, vx.ownBlock = some k → ¬ S k) (ha : ∀ k, va.ownBlock = some k → ¬ S k)
    (hy : ∀ k, vy.ownBlock = some k → ¬ S k) (hb : ∀ k, vb.ownBlock = some k → ¬ S k) (hS : ∀ k, k < w0.heap.size → ¬ S k) : Duo th te w0 w' g1 g2 base ux ua uy ub vx va vy vb :=
  { d with
    hx := (k.block g1 (lt_row d.hx) h1).trans d.hx
    hy := (k.block g2 (lt_row d.hy) h2).trans d.hy
    ox := own_keep d.ox k hx
    oa := own_keep d.oa k ha
    oy := own_keep d.oy k hy
    ob := own_keep d.ob k hb
    below := d.below.trans (k.below (Nat.le_of_lt (Nat.lt_of_le_of_lt d.old.1 (lt_row d.hx))) hS)
    size := Nat.le_trans d.size k.size }
theorem Duo.fresh (d : Duo th te w0 w g1 g2 base ux ua uy ub vx va vy vb) (h : Below w.heap.size w w') : Duo th te w0 w' g1 g2 base ux ua uy ub vx va vy vb :=
  d.keeps (S := fun _ => False) (keeps_below h) (fun h => h) (fun h => h) (fun _ _ h => h) (fun _ _ h => h) (fun _ _ h => h) (fun _ _ h => h) (fun _ _ h => h)
theorem Duo.lt0 (d : Duo th te w0 w g1 g2 base ux ua uy ub vx va vy vb) : w0.heap.size ≤ w.heap.size := d.below.size
/-- The first hasher gets a piece. -/
theorem Duo.addX (d : Duo th te w0 w g1 g2 base ux ua uy ub vx va vy vb) (h1 : w'.heap[g1]? = some (.cells (hs (fd (ux ++ bs)).1 v') th (0, 0))) (h2 : w'.ownsRow base te 1 v' (fd (ux ++ bs)).2.length (bl (fd (ux ++ bs)).2))
    (hn : ∀ k, v'.ownBlock = some k → vx.ownBlock = some k ∨ w.heap.size ≤ k) (hk : Keeps (fun k => k = g1 ∨ vx.ownBlock = some k) w w') : Duo th te w0 w' g1 g2 base (ux ++ bs) ua uy ub v' va vy vb := by
  have new : ∀ {u : Value} {n : Nat} {xs : List Value}, dj vx u → w.ownsRow base te 1 u n xs → dj v' u := fun hd ho k h3 h4 => by
    rcases hn k h3 with h | h
    · exact hd k h h4
    · have := (ho.lt k h4).2; omega
  have old : ∀ {u : Value} {n : Nat} {xs : List Value}, dj vx u → w.ownsRow base te 1 u n xs → w'.ownsRow base te 1 u n xs := fun hd ho => own_keep ho hk fun k h3 h4 => by
    rcases h4 with h | h
    · have := (ho.lt k h3).1; have := d.lt1; omega
    · exact hd k h h3
  refine { d with hx := h1, hy := (hk.block g2 (lt_row d.hy) ?_).trans d.hy, ox := h2, oa := old d.xa d.oa, oy := old d.xy d.oy, ob := old d.xb d.ob, xa := new d.xa d.oa, xy := new d.xy d.oy, xb := new d.xb d.ob, below := d.below.trans (hk.below d.lt0 fun k hk h => ?_), size := Nat.le_trans d.size hk.size }
  · rintro (h | h)
    · exact d.ne h.symm
    · have := (d.ox.lt g2 h).1; have := d.lt2; omega
  · rcases h with h | h
    · have := d.old.1; omega
    · have := (d.ox.lt k h).1; have := d.lt1; have := d.old.1; omega
/-- The first list of bytes grows. -/
theorem Duo.addA (d : Duo th te w0 w g1 g2 base ux ua uy ub vx va vy vb) (h : w'.ownsRow base te 1 v' (ua ++ bs).length (bl (ua ++ bs))) (hk : Keeps (fun k => va.ownBlock = some k) w w')
    (hn : v'.ownBlock = va.ownBlock ∨ v'.ownBlock = some w.heap.size) : Duo th te w0 w' g1 g2 base ux (ua ++ bs) uy ub vx v' vy vb := by
  have new : ∀ {u : Value} {n : Nat} {xs : List Value}, dj va u → w.ownsRow base te 1 u n xs → dj v' u := fun hd ho k h3 h4 => by
    rcases hn with h | h
    · exact hd k (h ▸ h3) h4
    · rw [h] at h3; cases h3; exact absurd (ho.lt _ h4).2 (Nat.lt_irrefl _)
  have old : ∀ {u : Value} {n : Nat} {xs : List Value}, dj va u → w.ownsRow base te 1 u n xs → w'.ownsRow base te 1 u n xs := fun hd ho => own_keep ho hk fun k h3 h4 => hd k h4 h3
  have low : ∀ k, va.ownBlock = some k → base ≤ k := fun k h => (d.oa.lt k h).1
  refine { d with hx := (hk.block g1 (lt_row d.hx) fun h => ?_).trans d.hx, hy := (hk.block g2 (lt_row d.hy) fun h => ?_).trans d.hy, ox := old d.xa.symm d.ox, oa := h, oy := old d.ay d.oy, ob := old d.ab d.ob, xa := (new d.xa.symm d.ox).symm, ay := new d.ay d.oy, ab := new d.ab d.ob, below := d.below.trans (hk.below d.lt0 fun k hk h => ?_), size := Nat.le_trans d.size hk.size }
  · have := low _ h; have := d.lt1; omega
  · have := low _ h; have := d.lt2; omega
  · have := low _ h; have := d.lt1; have := d.old.1; omega
end
/-- The first min(i, n) pieces. -/
def catM (BS : Nat → List (BitVec 8)) (n i : Nat) : List (BitVec 8) := catTo BS (min i n)
theorem catM_zero (BS : Nat → List (BitVec 8)) (n : Nat) : catM BS n 0 = [] := by unfold catM; rw [Nat.zero_min]; rfl
theorem catM_step {BS : Nat → List (BitVec 8)} {n i : Nat} (h : i < n) : catM BS n (i + 1) = catM BS n i ++ BS i := by
  unfold catM; rw [Nat.min_eq_left (by omega), Nat.min_eq_left (by omega)]; rfl
theorem catM_stay {BS : Nat → List (BitVec 8)} {n i : Nat} (h : n ≤ i) : catM BS n (i + 1) = catM BS n i := by
  unfold catM; rw [Nat.min_eq_right (by omega), Nat.min_eq_right h]
theorem catM_le (BS : Nat → List (BitVec 8)) (n i : Nat) : (catM BS n i).length ≤ (catTo BS n).length := catTo_le BS (Nat.min_le_right _ _)
end Go.Mt
