/- Arrays of whole numbers, compared. No program in sight. -/
import Derived.Test.YtikkebjhnechdaaDoorMtVal
import Derived.Laws.StructEq
namespace Go.Mt
theorem all_range {n : Nat} {p : Nat → Bool} : ((List.range n).all p = true) ↔ ∀ i, i < n → p i = true := by simp [List.all_eq_true]
section
variable {P : Program} (w : World)
theorem run_equalIn_arr (d : Nat) (t e : TypeId) (n : Nat) (k : IntKind) (ht : P.underlying t = some (.array n e)) (he : P.underlying e = some (.int k)) (hsz : ∀ w, (sizeOf e).run P w = .ok 1 w) (f g : Nat → Int) :
    (Op.equalIn (d + 2) t (.agg (arr n fun i => .int k (f i))) (.agg (arr n fun i => .int k (g i)))).run P w = .ok ((List.range n).all fun i => f i == g i) w := by
  rw [List.range_eq_range', Op.equalIn]
  simp only [Sem.run_bind, run_underlying ht, Result.andThen_ok, hsz, Std.Legacy.Range.forIn_eq_forIn_range', Std.Legacy.Range.size, Nat.sub_zero, Nat.add_sub_cancel, Nat.div_one]
  have hl : ∀ i ∈ List.range' 0 n 1, i < n := fun i hi => by simpa using (List.mem_range'_1.1 hi).2
  generalize List.range' 0 n 1 = l at hl ⊢
  induction l with
  | nil => simp
  | cons i l ih =>
    have hi : i < n := hl i (by simp)
    have px : ∀ h : Nat → Int, (part e (arr n fun i => .int k (h i)) (i * 1)).run P w = .ok (.int k (h i)) w := fun h => by
      have := arr_get n (fun i => Value.int k (h i)) i
      rw [if_pos hi] at this
      simp [part, isAgg, run_underlying he, this]
    have pe : (Op.equalIn (d + 1) e (.int k (f i)) (.int k (g i))).run P w = .ok (f i == g i) w := by
      rw [run_equalIn_int w d e k k _ _ he]
    simp only [List.forIn_cons, Sem.run_bind, px, pe, Result.andThen_ok, List.all_cons]
    cases hb : (f i == g i)
    · simp
    · simp only [Bool.not_true, Bool.false_eq_true, if_false, Sem.run_pure, Result.andThen_ok, Bool.true_and]
      exact ih fun j hj => hl j (by simp [hj])
theorem run_eql_arr (t e : TypeId) (n : Nat) (k : IntKind) (ht : P.underlying t = some (.array n e)) (he : P.underlying e = some (.int k)) (hsz : ∀ w, (sizeOf e).run P w = .ok 1 w) (f g : Nat → Int) :
    (binOp .eql t (.agg (arr n fun i => .int k (f i))) (.agg (arr n fun i => .int k (g i)))).run P w = .ok (.bool ((List.range n).all fun i => f i == g i)) w := by
  rw [run_eql_struct, run_equalIn_arr w 9998 t e n k ht he hsz f g]
  rfl
theorem run_eql_ub (t e : TypeId) (n : Nat) (ht : P.underlying t = some (.array n e)) (he : P.underlying e = some (.int .u8)) (hsz : ∀ w, (sizeOf e).run P w = .ok 1 w) (f g : Nat → BitVec 8) (b : Bool)
    (hb : b = true ↔ ∀ i, i < n → f i = g i) :
    (binOp .eql t (.agg (arr n (ub f))) (.agg (arr n (ub g)))).run P w = .ok (.bool b) w := by
  refine (run_eql_arr w t e n .u8 ht he hsz (fun i => B (f i)) (fun i => B (g i))).trans ?_
  congr 2
  rw [Bool.eq_iff_iff, hb, all_range]
  exact ⟨fun h i hi => B_inj (by simpa using h i hi), fun h i hi => by simp [h i hi]⟩
theorem run_neq_ub (t e : TypeId) (n : Nat) (ht : P.underlying t = some (.array n e)) (he : P.underlying e = some (.int .u8)) (hsz : ∀ w, (sizeOf e).run P w = .ok 1 w) (f : Nat → BitVec 8) :
    (binOp .neq t (.agg (arr n (ub f))) (.agg (arr n (ub f)))).run P w = .ok (.bool false) w := by
  have h := run_equalIn_arr w 9998 t e n .u8 ht he hsz (fun i => B (f i)) (fun i => B (f i))
  have h1 : ((List.range n).all fun i => B (f i) == B (f i)) = true := all_range.2 fun i _ => by simp
  rw [h1] at h
  rw [run_neq_struct]
  exact (congrArg (fun r : Result Bool => r.andThen fun b w' => Result.ok (Value.bool (!b)) w') h).trans rfl
theorem run_eql_uw (t e : TypeId) (n : Nat) (ht : P.underlying t = some (.array n e)) (he : P.underlying e = some (.int .u64)) (hsz : ∀ w, (sizeOf e).run P w = .ok 1 w) (f g : Nat → BitVec 64) (b : Bool)
    (hb : b = true ↔ ∀ i, i < n → f i = g i) :
    (binOp .eql t (.agg (arr n (uw f))) (.agg (arr n (uw g)))).run P w = .ok (.bool b) w := by
  refine (run_eql_arr w t e n .u64 ht he hsz (fun i => U (f i)) (fun i => U (g i))).trans ?_
  congr 2
  rw [Bool.eq_iff_iff, hb, all_range]
  exact ⟨fun h i hi => U_inj (by simpa using h i hi), fun h i hi => by simp [h i hi]⟩
end
end Go.Mt
