/- 'append' of one digest onto a slice of the call's own. No program in sight. -/
import Derived.Test.YtikkebjhnechdaaDoorMtMerkle
namespace Go.Mt
open Go.RowKit
/-- Digests as cells. -/
def dl (ds : List Dg) : List Value := ds.flatMap fun d => (arr 32 (ub d)).toList
@[simp] theorem dl_length (ds : List Dg) : (dl ds).length = ds.length * 32 := by
  induction ds with
  | nil => rfl
  | cons d ds ih => show ((arr 32 (ub d)).toList ++ dl ds).length = _; rw [List.length_append, ih, List.length_cons]; simp; omega
theorem dl_append (a b : List Dg) : dl (a ++ b) = dl a ++ dl b := by unfold dl; rw [List.flatMap_append]
theorem dl_get (ds : List Dg) : ∀ k j, k < ds.length → j < 32 → (dl ds)[32 * k + j]? = some (.int .u8 (B (ds.getD k (fun _ => 0) j))) := by
  induction ds with
  | nil => intro k j hk; simp at hk
  | cons d ds ih =>
    intro k j hk hj
    show ((arr 32 (ub d)).toList ++ dl ds)[32 * k + j]? = _
    cases k with
    | zero => rw [List.getElem?_append_left (by simp; omega), Array.getElem?_toList, Nat.mul_zero, Nat.zero_add, arr_get, if_pos hj]; rfl
    | succ k =>
      rw [List.getElem?_append_right (by simp; omega), show 32 * (k + 1) + j - (arr 32 (ub d)).toList.length = 32 * k + j by simp; omega, ih k j (by simpa using hk) hj]
      rfl
theorem dl_one (ds : List Dg) : ∀ u ∈ dl ds, u.oneCell' = true := by
  intro u hu
  unfold dl at hu
  obtain ⟨d, _, h⟩ := List.mem_flatMap.1 hu
  obtain ⟨i, hi⟩ := List.mem_iff_getElem?.1 h
  rw [Array.getElem?_toList, arr_get] at hi
  split at hi
  · cases hi; rfl
  · cases hi
/-- One digest behind those that a slice of the call's own holds. -/
theorem wpList_append_dg {P : Program} {w : World} {ops : Array Oper} {rest : List Oper} {o : Oper} {a : Act} {Q : Exit → Act → World → Prop} (hgd : o.guard = none) (s x : Operand) (t : TypeId)
    (ho : o.op = .call { callee := .builtin .append, args := #[s, x], argTypes := #[t, t] })
    (base : Nat) (e : TypeId) (i : TypeInfo) (z : Value) (ht : P.underlying t = some (.slice e)) (hi : P.info? e = some i) (hz : i.zero = some z) (hzs : z.cells.size = 32) (hsize : i.size = 32) (hby : i.bytes = 32)
    (v : Value) (ds : List Dg) (d : Dg) (hs : a.eval s = v) (hown : w.ownsRow base e 32 v ds.length (dl ds))
    (ad : Addr) (c : Nat) (hx : a.eval x = .slice (some ad) 1 c) (hsrc : ∀ j, j < 32 → w.cell? (ad.add j) = some (.int .u8 (B (d j))))
    (hlim : ds.length < 4398046511104) (hbase : base ≤ w.heap.size)
    (h : ∀ v' w', w'.ownsRow base e 32 v' (ds ++ [d]).length (dl (ds ++ [d])) → Keeps (fun k => v.ownBlock = some k) w w' → (v'.ownBlock = v.ownBlock ∨ v'.ownBlock = some w.heap.size) → wpList P ops Q rest (a.put o.dst v') w') :
    wpList P ops Q (o :: rest) a w := by
  subst hs
  refine wpList_append_own_at w hgd s x t ho base e i z 32 32 ht hi hz hsize hby hzs (by omega) _ ds.length (dl ds) rfl hown ad 1 c (dl [d]) hx (by simp) ?_ (dl_one _) (by have : maxLen = 9223372036854775807 := rfl; omega) (by omega) hbase ?_
  · intro j u hu
    have hj := (List.getElem?_eq_some_iff.1 hu).1
    simp at hj
    have h1 := dl_get [d] 0 j (by simp) hj
    rw [Nat.mul_zero, Nat.zero_add] at h1
    rw [h1] at hu
    cases hu
    exact hsrc j hj
  · intro v' w1 hown' hgrow _ hat
    refine h v' w1 ?_ (keeps_only hgrow fun k hk => hk) hat
    rw [List.length_append, dl_append]; exact hown'
theorem wpList_load_arr {P : Program} {w : World} {ops : Array Oper} {rest : List Oper} {o : Oper} {a : Act} {Q : Exit → Act → World → Prop} (hgd : o.guard = none) (ty : TypeId) (x : Operand) (ho : o.op = .load ty x)
    (b off : Nat) (hx : a.eval x = .pointer (some ⟨b, off, none⟩)) (cs : Array Value) (d : TypeDesc) (hc : w.rangeAt b off cs.toList) (hu : P.underlying ty = some d) (hd : d.isRow = true) (hi : (P.info? ty).map (·.size) = some cs.toList.length)
    (h : wpList P ops Q rest (a.put o.dst (.agg cs)) w) : wpList P ops Q (o :: rest) a w :=
  wpList_load_mid hgd ty x ho b off hx cs.toList d hc hu hd hi (by rw [Array.toArray_toList]; exact h)
end Go.Mt
