/- Words and bytes of a Go program as bit vectors: what each operation of the walk makes of them. No program in sight. -/
import Derived.WalkKit
import Derived.Deep.MidRow
namespace Go.Mt
open Go

/-- A 64-bit word, a byte, as Go's numbers. -/
def U (x : BitVec 64) : Int := (x.toNat : Int)
def B (x : BitVec 8) : Int := (x.toNat : Int)

theorem U_nonneg (x : BitVec 64) : 0 ≤ U x := by unfold U; omega
theorem U_lt (x : BitVec 64) : U x < 18446744073709551616 := by unfold U; have := x.isLt; omega
theorem B_nonneg (x : BitVec 8) : 0 ≤ B x := by unfold B; omega
theorem B_lt (x : BitVec 8) : B x < 256 := by unfold B; have := x.isLt; omega
theorem U_inj {x y : BitVec 64} (h : U x = U y) : x = y := by unfold U at h; exact BitVec.eq_of_toNat_eq (by omega)
theorem B_inj {x y : BitVec 8} (h : B x = B y) : x = y := by unfold B at h; exact BitVec.eq_of_toNat_eq (by omega)
theorem U_ofInt (n : Int) (h0 : 0 ≤ n) (h1 : n < 18446744073709551616) : U (BitVec.ofInt 64 n) = n := by
  unfold U; rw [BitVec.toNat_ofInt]; omega
theorem B_ofInt (n : Int) (h0 : 0 ≤ n) (h1 : n < 256) : B (BitVec.ofInt 8 n) = n := by
  unfold B; rw [BitVec.toNat_ofInt]; omega

theorem ofInt_U (x : BitVec 64) : BitVec.ofInt 64 (U x) = x := by
  unfold U; rw [BitVec.ofInt_natCast]; simp
theorem wrap_toNat (x : BitVec 64) : IntKind.u64.wrap ((x.toNat : Nat) : Int) = U x := by
  rw [IntKind.wrap_u64]; unfold U; have := x.isLt; omega
theorem wrap_U (x : BitVec 64) : IntKind.u64.wrap (U x) = U x := wrap_toNat x

@[go_sem] theorem bits_xor_U (x y : BitVec 64) : bits .xor .u64 (U x) (U y) = U (x ^^^ y) := by
  show IntKind.u64.wrap ((BitVec.ofInt 64 (U x) ^^^ BitVec.ofInt 64 (U y)).toNat : Int) = _
  rw [ofInt_U, ofInt_U, wrap_toNat]
@[go_sem] theorem bits_and_U (x y : BitVec 64) : bits .and .u64 (U x) (U y) = U (x &&& y) := by
  show IntKind.u64.wrap ((BitVec.ofInt 64 (U x) &&& BitVec.ofInt 64 (U y)).toNat : Int) = _
  rw [ofInt_U, ofInt_U, wrap_toNat]
@[go_sem] theorem bits_or_U (x y : BitVec 64) : bits .or .u64 (U x) (U y) = U (x ||| y) := by
  show IntKind.u64.wrap ((BitVec.ofInt 64 (U x) ||| BitVec.ofInt 64 (U y)).toNat : Int) = _
  rw [ofInt_U, ofInt_U, wrap_toNat]
@[go_sem] theorem bits_not_U (x : BitVec 64) : bits .xor .u64 18446744073709551615 (U x) = U (~~~x) := by
  show IntKind.u64.wrap ((BitVec.ofInt 64 18446744073709551615 ^^^ BitVec.ofInt 64 (U x)).toNat : Int) = _
  rw [ofInt_U, wrap_toNat, show BitVec.ofInt 64 18446744073709551615 = BitVec.allOnes 64 from rfl, BitVec.allOnes_xor]
@[go_sem] theorem bits_not_U' (x : BitVec 64) : bits .xor .u64 (if IntKind.u64.signed = true then -1 else IntKind.u64.max) (U x) = U (~~~x) := bits_not_U x
@[go_sem] theorem bits_xor_U_ones (x : BitVec 64) : bits .xor .u64 (U x) 18446744073709551615 = U (~~~x) := by
  show IntKind.u64.wrap ((BitVec.ofInt 64 (U x) ^^^ BitVec.ofInt 64 18446744073709551615).toNat : Int) = _
  rw [ofInt_U, wrap_toNat, show BitVec.ofInt 64 18446744073709551615 = BitVec.allOnes 64 from rfl, BitVec.xor_allOnes]
@[go_sem] theorem bits_xor_zero_U (x : BitVec 64) : bits .xor .u64 0 (U x) = U x := by
  show IntKind.u64.wrap ((BitVec.ofInt 64 0 ^^^ BitVec.ofInt 64 (U x)).toNat : Int) = _
  rw [ofInt_U, wrap_toNat]; simp

/-- Shifts, whatever the count's kind. -/
@[go_sem high] theorem run_shl_U (P : Program) (w : World) (x : BitVec 64) (yk : IntKind) (c : Int) (hc : 0 ≤ c) : (Op.shift .shl .u64 (U x) yk c).run P w = .ok (.int .u64 (U (x <<< c.toNat))) w := by
  have e : IntKind.u64.wrap (U x * 2 ^ min c.toNat 64) = U (x <<< c.toNat) := by
    rw [IntKind.wrap_u64]
    unfold U
    rw [BitVec.toNat_shiftLeft, Nat.shiftLeft_eq]
    by_cases h : c.toNat ≤ 64
    · rw [Nat.min_eq_left h, Int.natCast_emod, Int.natCast_mul, Int.natCast_pow]; rfl
    · rw [Nat.min_eq_right (by omega)]
      have h1 : x.toNat * 2 ^ c.toNat % 2 ^ 64 = 0 := by
        rw [show c.toNat = 64 + (c.toNat - 64) by omega, Nat.pow_add, ← Nat.mul_assoc, Nat.mul_right_comm]
        exact Nat.mul_mod_left _ _
      rw [h1]
      simp
  simp only [Op.shift, if_neg (show ¬ c < 0 by omega), IntKind.bits]
  simp [e]
@[go_sem high] theorem run_shr_U (P : Program) (w : World) (x : BitVec 64) (yk : IntKind) (c : Int) (hc : 0 ≤ c) : (Op.shift .shr .u64 (U x) yk c).run P w = .ok (.int .u64 (U (x >>> c.toNat))) w := by
  have e : (U x).fdiv (2 ^ min c.toNat 64) = U (x >>> c.toNat) := by
    unfold U
    rw [Int.fdiv_eq_ediv_of_nonneg _ (Int.le_of_lt (Int.pow_pos (by decide))), BitVec.toNat_ushiftRight, Nat.shiftRight_eq_div_pow]
    by_cases h : c.toNat ≤ 64
    · rw [Nat.min_eq_left h]; simp
    · rw [Nat.min_eq_right (by omega)]
      have hx := x.isLt
      have h1 : x.toNat / 2 ^ c.toNat = 0 := Nat.div_eq_of_lt (Nat.lt_of_lt_of_le hx (Nat.pow_le_pow_right (by decide) (by omega)))
      rw [h1]
      omega
  simp only [Op.shift, if_neg (show ¬ c < 0 by omega), IntKind.bits]
  simp [e]

@[go_sem] theorem wrap_shl_U (x : BitVec 64) (n : Nat) : IntKind.u64.wrap (U x * 2 ^ n) = U (x <<< n) := by
  rw [IntKind.wrap_u64]
  unfold U
  rw [BitVec.toNat_shiftLeft, Nat.shiftLeft_eq, Int.natCast_emod, Int.natCast_mul, Int.natCast_pow]; rfl
@[go_sem] theorem shr_U (x : BitVec 64) (n : Nat) : U x / 2 ^ n = U (x >>> n) := by
  unfold U
  rw [BitVec.toNat_ushiftRight, Nat.shiftRight_eq_div_pow]; simp

@[go_sem] theorem wrap_u64_B (b : BitVec 8) : IntKind.u64.wrap (B b) = U (b.setWidth 64) := by
  rw [IntKind.wrap_u64]; unfold U B; rw [BitVec.toNat_setWidth]; have := b.isLt; omega
@[go_sem] theorem wrap_u8_U (x : BitVec 64) : IntKind.u8.wrap (U x) = B (x.setWidth 8) := by
  unfold U B; rw [BitVec.toNat_setWidth]; simp [IntKind.wrap, IntKind.bits, IntKind.signed]
@[go_sem] theorem wrap_add_U (x y : BitVec 64) : IntKind.u64.wrap (U x + U y) = U (x + y) := by
  rw [IntKind.wrap_u64]; unfold U; rw [BitVec.toNat_add]; omega
@[go_sem] theorem wrap_sub_U (x y : BitVec 64) : IntKind.u64.wrap (U x - U y) = U (x - y) := by
  rw [IntKind.wrap_u64]; unfold U; rw [BitVec.toNat_sub]; have := x.isLt; have := y.isLt; omega

/-- A piece of code, by the way to it. -/
def csub : Code → List Nat → Code
  | c, [] => c
  | .seq a _, 0 :: p => csub a p
  | .seq _ b, _ :: p => csub b p
  | .block _ c, _ :: p => csub c p
  | .loop c, _ :: p => csub c p
  | .scope c, _ :: p => csub c p
  | .cond _ a _, 0 :: p => csub a p
  | .cond _ _ b, _ :: p => csub b p
  | c, _ => c

/-- Rows of cells as functions. -/
def arr (n : Nat) (f : Nat → Value) : Array Value := Array.ofFn (n := n) fun i => f i
@[simp, go_sem] theorem arr_size (n : Nat) (f : Nat → Value) : (arr n f).size = n := by simp [arr]
theorem arr_get (n : Nat) (f : Nat → Value) (i : Nat) : (arr n f)[i]? = if i < n then some (f i) else none := by
  unfold arr
  rw [Array.getElem?_ofFn]
  split <;> rfl
theorem arr_lt {n : Nat} {f : Nat → Value} {i : Nat} (h : i < n) : (arr n f)[i]? = some (f i) := by rw [arr_get, if_pos h]
theorem arr_ext {n : Nat} {f g : Nat → Value} (h : ∀ i, i < n → f i = g i) : arr n f = arr n g := by
  unfold arr
  congr
  funext i
  exact h i i.2
theorem arr_set (n : Nat) (f : Nat → Value) (i : Nat) (v : Value) : (arr n f).setIfInBounds i v = arr n fun j => if j = i then v else f j := by
  apply Array.ext
  · simp
  · intro j h1 h2
    have hj : j < n := by simpa using h2
    have e2 : (arr n fun j => if j = i then v else f j)[j] = if j = i then v else f j := by simp [arr]
    rw [e2, Array.getElem_setIfInBounds (by simpa using h1)]
    by_cases h : i = j
    · subst h; simp
    · rw [if_neg h, if_neg (Ne.symm h)]; simp [arr]

theorem run_index_arr {P : Program} {T E : TypeId} {n : Nat} {k : IntKind} (hu : P.underlying T = some (.array n E)) (he : P.underlying E = some (.int k)) (hs : (P.info? E).map (·.size) = some 1)
    (ik : IntKind) (cs : Array Value) (i : Nat) (hi : i < n) (v : Value) (hv : cs[i]? = some v) (w : World) : (Instr.index T (.agg cs) (.int ik (i : Int))).run P w = .ok v w := by
  cases hq : P.info? E with
  | none => simp [hq] at hs
  | some j =>
    have hj : j.size = 1 := by simpa [hq] using hs
    simp [Instr.index, part, asIntOf, run_underlying hu, run_underlying he, sizeOf, typeInfo, hq, hj, isAgg]
    rw [if_pos hi, hv]
    rfl

/-- 'a[l:]', a an array behind a pointer. -/
theorem run_sliceAt_arr {P : Program} {T E : TypeId} {n s : Nat} (hu : P.underlying T = some (.array n E)) (hs : (P.info? E).map (·.size) = some s)
    (ik : IntKind) (b o l : Nat) (hl : l < n) (i : Int) (hi : i = (l : Int)) (w : World) : (Instr.sliceAt T (.pointer (some ⟨b, o, none⟩)) (some (.int ik i)) none none).run P w = .ok (.slice (some ⟨b, o + l * s, none⟩) (n - l) (n - l)) w := by
  subst hi
  cases hq : P.info? E with
  | none => simp [hq] at hs
  | some j =>
    have hj : j.size = s := by simpa [hq] using hs
    have e : (⟨b, o, none⟩ : Addr).add (l * s) = ⟨b, o + l * s, none⟩ := by unfold Addr.add; split <;> simp_all
    simp [Instr.sliceAt, Instr.sureAddr, Instr.sliceBounds, Instr.sliceBound, asIntOf, run_underlying hu, sizeOf, typeInfo, hq, hj, show ¬ n = l by omega, e, Nat.le_of_lt hl]

theorem run_arrayAt {P : Program} {T E : TypeId} {n : Nat} (hu : P.underlying T = some (.array n E)) (a : Option Addr) (len cap : Nat) (h : n ≤ len) (w : World) :
    (Instr.arrayAt T (.slice a len cap)).run P w = .ok (.pointer a) w := by
  simp [Instr.arrayAt, run_underlying hu, show ¬ len < n by omega]

/-- Words, bytes as cells. -/
def uw (f : Nat → BitVec 64) (i : Nat) : Value := .int .u64 (U (f i))
def ub (f : Nat → BitVec 8) (i : Nat) : Value := .int .u8 (B (f i))
def upd {α : Type} (f : Nat → α) (i : Nat) (v : α) : Nat → α := fun j => if j = i then v else f j
theorem set_words {w : World} {b n : Nat} {f : Nat → BitVec 64} {t : TypeId} (h : w.heap[b]? = some (.cells (arr n (uw f)) t (0, 0))) (i : Nat) (x : BitVec 64) :
    (w.setCell ⟨b, i, none⟩ (.int .u64 (U x))).heap[b]? = some (.cells (arr n (uw (upd f i x))) t (0, 0)) := by
  rw [heap_setCell_same w b i _ t _ h, arr_set]
  congr 3
  funext j
  unfold uw upd
  split <;> rfl
theorem set_bytes {w : World} {b n : Nat} {f : Nat → BitVec 8} {t : TypeId} (h : w.heap[b]? = some (.cells (arr n (ub f)) t (0, 0))) (i : Nat) (x : BitVec 8) :
    (w.setCell ⟨b, i, none⟩ (.int .u8 (B x))).heap[b]? = some (.cells (arr n (ub (upd f i x))) t (0, 0)) := by
  rw [heap_setCell_same w b i _ t _ h, arr_set]
  congr 3
  funext j
  unfold ub upd
  split <;> rfl
theorem cells_of {w : World} {b n : Nat} {f : Nat → Value} {t : TypeId} (h : w.heap[b]? = some (.cells (arr n f) t (0, 0))) : ∀ i, i < n → w.cell? ⟨b, i, none⟩ = some (f i) := fun i hi => by
  rw [cell_of_row w b i _ t (0, 0) h, arr_lt hi]
theorem words_of {w : World} {b n : Nat} {f : Nat → BitVec 64} {t : TypeId} (h : w.heap[b]? = some (.cells (arr n (uw f)) t (0, 0))) : ∀ i, i < n → w.cell? ⟨b, i, none⟩ = some (.int .u64 (U (f i))) := cells_of h
theorem bytes_of {w : World} {b n : Nat} {f : Nat → BitVec 8} {t : TypeId} (h : w.heap[b]? = some (.cells (arr n (ub f)) t (0, 0))) : ∀ i, i < n → w.cell? ⟨b, i, none⟩ = some (.int .u8 (B (f i))) := cells_of h
theorem words_ext {n : Nat} {f g : Nat → BitVec 64} (h : ∀ i, i < n → f i = g i) : arr n (uw f) = arr n (uw g) := arr_ext fun i hi => by unfold uw; rw [h i hi]
theorem bytes_ext {n : Nat} {f g : Nat → BitVec 8} (h : ∀ i, i < n → f i = g i) : arr n (ub f) = arr n (ub g) := arr_ext fun i hi => by unfold ub; rw [h i hi]

/-- Only block g, and what is new, has turned. -/
theorem only_refl (w : World) (row : Option Nat) : w.grownBy w row := ⟨rfl, rfl, rfl, Nat.le_refl _, fun _ _ _ => rfl⟩
theorem only_trans {a b c : World} {row : Option Nat} (h : a.grownBy b row) (k : b.grownBy c row) : a.grownBy c row :=
  ⟨k.os.trans h.os, k.tape.trans h.tape, k.output.trans h.output, Nat.le_trans h.size k.size, fun i hi hne => (k.block i (Nat.lt_of_lt_of_le hi h.size) hne).trans (h.block i hi hne)⟩
theorem only_drew {a w : World} {row : Option Nat} (h : a.grownBy w row) : a.grownBy w.drew row := ⟨h.os, h.tape, h.output, h.size, h.block⟩
theorem only_alloc {a w : World} {row : Option Nat} (h : a.grownBy w row) (o : Obj) : a.grownBy (w.alloc o) row :=
  ⟨h.os, h.tape, h.output, Nat.le_trans h.size (by simp), fun i hi hne => (RowKit.Below.heap_alloc w o i (Nat.lt_of_lt_of_le hi h.size)).trans (h.block i hi hne)⟩
theorem only_setCell {a w : World} {g : Nat} (h : a.grownBy w (some g)) {p : Addr} (hp : p.block = g ∨ a.heap.size ≤ p.block) (u : Value) : a.grownBy (w.setCell p u) (some g) :=
  ⟨h.os, h.tape, h.output, by simpa [World.setCell] using h.size, fun i hi hne => (RowKit.Below.heap_setCell w p u i (by
    rintro rfl
    rcases hp with hp | hp
    · exact hne (by rw [hp])
    · omega)).trans (h.block i hi hne)⟩
theorem only_below {a w : World} (h : RowKit.Below a.heap.size a w) (row : Option Nat) : a.grownBy w row := ⟨h.os, h.tape, h.output, h.size, fun i hi _ => h.block i hi⟩
theorem below_only {B g : Nat} {a w : World} (h : a.grownBy w (some g)) (hg : B ≤ g) (hB : B ≤ a.heap.size) : RowKit.Below B a w :=
  ⟨h.os, h.tape, h.output, h.size, fun i hi => h.block i (Nat.lt_of_lt_of_le hi hB) (by intro e; cases e; omega)⟩

theorem rangeAt_row {w : World} {b : Nat} {cs : Array Value} {t : TypeId} {fr : Nat × Nat} (h : w.heap[b]? = some (.cells cs t fr)) : w.rangeAt b 0 cs.toList := fun j v hv => by
  rw [cell_of_row w b (0 + j) cs t fr h, Nat.zero_add]; simpa using hv
theorem there_row {w : World} {b n : Nat} {cs : Array Value} {t : TypeId} (h : w.heap[b]? = some (.cells cs t (0, 0))) (hn : n ≤ cs.size) : w.there b 0 n := fun j hj => by
  refine ⟨?_, frozen_of_row _ _ _ _ _ h⟩
  rw [cell_of_row w b (0 + j) cs t (0, 0) h, Nat.zero_add, Array.getElem?_eq_getElem (by omega)]; rfl
theorem words_one (n : Nat) (f : Nat → BitVec 64) : (arr n (uw f)).all (·.oneCell') = true := by
  rw [Array.all_eq_true_iff_forall_mem]
  intro v hv
  obtain ⟨i, hi⟩ := Array.getElem?_of_mem hv
  rw [arr_get] at hi
  split at hi
  · cases hi; rfl
  · cases hi
theorem bytes_one (n : Nat) (f : Nat → BitVec 8) : (arr n (ub f)).all (·.oneCell') = true := by
  rw [Array.all_eq_true_iff_forall_mem]
  intro v hv
  obtain ⟨i, hi⟩ := Array.getElem?_of_mem hv
  rw [arr_get] at hi
  split at hi
  · cases hi; rfl
  · cases hi
/-- A whole row, stored anew. -/
theorem setCells_row {b : Nat} {t : TypeId} : ∀ (vs : List Value) (o : Nat) (w : World) (cs : Array Value), w.heap[b]? = some (.cells cs t (0, 0)) → o + vs.length = cs.size →
    (w.setCells b o vs).heap[b]? = some (.cells (cs.extract 0 o ++ vs.toArray) t (0, 0))
  | [], o, w, cs, h, hl => by
    rw [World.setCells, h]
    have : o = cs.size := by simpa using hl
    subst this
    simp
  | v :: vs, o, w, cs, h, hl => by
    rw [World.setCells, setCells_row vs (o + 1) _ (cs.setIfInBounds o v) (heap_setCell_same w b o cs t v h) (by simp at hl ⊢; omega)]
    congr 2
    have ho : o < cs.size := by simp at hl; omega
    apply Array.ext
    · simp; omega
    · intro i h1 h2
      simp only [Array.getElem_append, Array.getElem_extract, Array.size_extract, Array.size_setIfInBounds, List.getElem_toArray] at *
      by_cases hi : i < o
      · rw [dif_pos (by omega), dif_pos (by omega), Array.getElem_setIfInBounds (by omega), if_neg (by omega)]
      · by_cases hio : i = o
        · subst hio
          rw [dif_pos (by omega), dif_neg (by omega), Array.getElem_setIfInBounds (by omega), if_pos (by omega)]
          simp [Nat.min_eq_left (Nat.le_of_lt ho)]
        · rw [dif_neg (by omega), dif_neg (by omega)]
          rw [List.getElem_cons]
          rw [dif_neg (by omega)]
          congr 1
          omega
theorem setCells_all {w : World} {b : Nat} {t : TypeId} {cs : Array Value} (h : w.heap[b]? = some (.cells cs t (0, 0))) (vs : Array Value) (hn : vs.size = cs.size) :
    (w.setCells b 0 vs.toList).heap[b]? = some (.cells vs t (0, 0)) := by
  rw [setCells_row vs.toList 0 w cs h (by simpa using hn)]
  simp
theorem only_setCells {a : World} {g : Nat} : ∀ (vs : List Value) (o : Nat) (w : World), a.grownBy w (some g) → a.grownBy (w.setCells g o vs) (some g)
  | [], _, _, h => h
  | v :: vs, o, w, h => by rw [World.setCells]; exact only_setCells vs (o + 1) _ (only_setCell h (p := ⟨g, o, none⟩) (.inl rfl) v)

end Go.Mt
