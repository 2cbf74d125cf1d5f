/- Pieces of slices of digests; numbers brought into range. -/
import Derived.Test.YtikkebjhnechdaaDoorMerFixed
import Derived.Test.YtikkebjhnechdaaDoorMtZeros
namespace Go.Mt
open Go.RowKit
theorem add_zero' (a : Addr) : a.add 0 = a := by unfold Addr.add; simp
section
variable {P : Program} {ops : Array Oper} {rest : List Oper} {o : Oper} {a : Act} {w : World} {Q : Exit → Act → World → Prop}
theorem wpList_slice_hi (hg : o.guard = none) (t e : TypeId) (x y : Operand) (ho : o.op = .slice t x none (some y) none) (sp : Option Addr) (len cap h : Nat) (ik : IntKind) (i : Int) (hx : a.eval x = .slice sp len cap) (hy : a.eval y = .int ik i) (hi : i = (h : Int))
    (hu : P.underlying t = some (.slice e)) (s : Nat) (hs : ∀ w, (sizeOf e).run P w = .ok s w) (hle : h ≤ cap)
    (hc : wpList P ops Q rest (a.put o.dst (.slice sp h cap)) w) : wpList P ops Q (o :: rest) a w := by
  subst hi
  refine wpList_plain hg fun _ hK => ?_
  have he : P.elem t = e := by simp [Program.elem, hu]
  have hu' : P.underlying t = some (.slice (P.elem t)) := by rw [he]; exact hu
  have hr : (Instr.sliceAt t (.slice sp len cap) none (some (.int ik (h : Int))) none).run P w = .ok (.slice sp h cap) w := by
    rw [run_sliceAt_slice w t _ _ _ _ hu', run_slice_h w t sp len cap hu' ik h (by omega) (by omega), he, hs w]
    have e1 : sliced sp 0 (h : Int).toNat cap s = .slice sp h cap := by
      unfold sliced
      rw [Int.toNat_natCast, Nat.sub_zero, Nat.sub_zero]
      split
      · rfl
      · rw [Nat.zero_mul]; cases sp <;> simp [add_zero']
    rw [← e1]; rfl
  unfold Oper.wp execOp
  simp only [ho, hx, hy, Option.map_some, Option.map_none, Sem.run_bind, hr, Result.andThen_ok]
  exact hK _ _ hc
theorem wpList_slice_lo (hg : o.guard = none) (t e : TypeId) (x y : Operand) (ho : o.op = .slice t x (some y) none none) (sp : Option Addr) (len cap l : Nat) (ik : IntKind) (i : Int) (hx : a.eval x = .slice sp len cap) (hy : a.eval y = .int ik i) (hi : i = (l : Int))
    (hu : P.underlying t = some (.slice e)) (s : Nat) (hs : ∀ w, (sizeOf e).run P w = .ok s w) (hle : l ≤ len) (hcap : len ≤ cap)
    (hc : ∀ sp', (l < len → ∀ b o, sp = some ⟨b, o, none⟩ → sp' = some ⟨b, o + l * s, none⟩) → wpList P ops Q rest (a.put o.dst (.slice sp' (len - l) (cap - l))) w) : wpList P ops Q (o :: rest) a w := by
  subst hi
  refine wpList_plain hg fun _ hK => ?_
  have he : P.elem t = e := by simp [Program.elem, hu]
  have hu' : P.underlying t = some (.slice (P.elem t)) := by rw [he]; exact hu
  have hr : (Instr.sliceAt t (.slice sp len cap) (some (.int ik (l : Int))) none none).run P w = .ok (.slice (if cap = l then sp else sp.map (·.add (l * s))) (len - l) (cap - l)) w := by
    rw [run_sliceAt_slice w t _ _ _ _ hu', run_slice_l w t sp len cap hu' ik l (by omega) (by omega), he, hs w]
    have e1 : sliced sp (l : Int).toNat len cap s = .slice (if cap = l then sp else sp.map (·.add (l * s))) (len - l) (cap - l) := by
      unfold sliced; rw [Int.toNat_natCast]
    rw [← e1]; rfl
  unfold Oper.wp execOp
  simp only [ho, hx, hy, Option.map_some, Option.map_none, Sem.run_bind, hr, Result.andThen_ok]
  refine hK _ _ (hc _ fun hl b o hsp => ?_)
  rw [if_neg (by omega), hsp, Option.map_some, Addr.add_mid]
end
theorem own_slice {w : World} {base : Nat} {e : TypeId} {v : Value} {n : Nat} {F : Nat → Dg} (h : w.ownsRow base e 32 v n (dl (firstL F n))) :
    ∃ sp c, v = .slice sp n c ∧ n ≤ c ∧ (sp = none → c = 0) ∧ (0 < n → ∃ b, sp = some ⟨b, 0, none⟩ ∧ base ≤ b ∧ b < w.heap.size ∧ DgsAt w b 0 n F) := by
  have h' := h
  rcases h'.2 with ⟨rfl, h0⟩ | ⟨g, cap, cur, rfl, hb, hg, h1, h2, h3, h4⟩
  · subst h0; exact ⟨none, 0, rfl, Nat.le_refl _, fun _ => rfl, fun h => absurd h (Nat.lt_irrefl _)⟩
  · refine ⟨_, cap, rfl, h1, fun h => (by cases h), fun h0 => ?_⟩
    obtain ⟨g', cap', hv, -, h5, h6, -, h7⟩ := own_dgs h h0
    cases hv
    exact ⟨_, rfl, h5, h6, h7⟩
/-- A raw number, brought into range. -/
theorem wrap_mod (D : Int) (m : Nat) (hm : 0 < m) : ∃ d : Nat, d < m ∧ (IntKind.u64.wrap D).tmod (m : Int) = (d : Int) := by
  have h0 : 0 ≤ IntKind.u64.wrap D := by rw [IntKind.wrap_u64]; omega
  rw [Int.tmod_eq_emod_of_nonneg h0]
  have h1 := Int.emod_nonneg (IntKind.u64.wrap D) (show (m : Int) ≠ 0 by omega)
  have h2 := Int.emod_lt_of_pos (IntKind.u64.wrap D) (show (0 : Int) < m by omega)
  exact ⟨(IntKind.u64.wrap D % (m : Int)).toNat, by omega, by omega⟩
end Go.Mt
namespace Go.Proofs.YtikkebjhnechdaaDoor
open Go.RowKit Go.Mt
theorem sz32 (w : World) : (sizeOf 27).run Tryd.prog w = .ok 32 w := by kernel_rfl
theorem zc_dl (m : Nat) : (Builtin.zeroCells (Value.agg z32).cells m).toList = dl (List.replicate m fun _ => 0) := by
  have hs : (Value.agg z32).cells.size = 32 := by kernel_rfl
  apply List.ext_getElem?
  intro j
  by_cases hj : j < 32 * m
  · have e : j = 32 * (j / 32) + j % 32 := by omega
    have hm : j % 32 < 32 := Nat.mod_lt _ (by decide)
    have h2 := dl_get (List.replicate m fun _ => 0) (j / 32) (j % 32) (by simp; omega) hm
    rw [← e] at h2
    rw [h2]
    unfold Builtin.zeroCells
    rw [Array.getElem?_toList, Array.getElem?_map, Array.getElem?_range, hs, if_pos (by omega)]
    have e2 : ∀ i, i < 32 → (Value.agg z32).cells[i]! = .int .u8 0 := fun i hi => by
      show z32[i]! = _
      rw [z32_eq, getElem!_def, arr_get, if_pos hi]; rfl
    rw [Option.map_some, e2 _ hm]
    rw [List.getD_eq_getElem?_getD, List.getElem?_replicate, if_pos (by omega)]
    rfl
  · rw [List.getElem?_eq_none (by rw [Array.length_toList, size_zeroCells, hs]; omega), List.getElem?_eq_none (by simp; omega)]
section
variable {ops : Array Oper} {rest : List Oper} {o : Oper} {a : Act} {w : World} {Q : Exit → Act → World → Prop}
/-- 'append' of digests that lie anywhere, or of none. -/
theorem appendHany (hgd : o.guard = none) (s x : Operand) (ho : o.op = .call { callee := .builtin .append, args := #[s, x], argTypes := #[50, 50] })
    (base : Nat) (v : Value) (ds : List Dg) (n : Nat) (F : Nat → Dg) (hs : a.eval s = v) (hown : w.ownsRow base 27 32 v ds.length (dl ds))
    (sp : Option Addr) (c : Nat) (hx : a.eval x = .slice sp n c) (hnil : sp = none → c = 0) (b off : Nat) (hsp : 0 < n → sp = some ⟨b, off, none⟩) (hsrc : 0 < n → DgsAt w b off n F) (hlim : ds.length + n ≤ 4398046511104) (hbase : base ≤ w.heap.size)
    (h : ∀ v' w', w'.ownsRow base 27 32 v' (ds ++ firstL F n).length (dl (ds ++ firstL F n)) → Keeps (fun k => v.ownBlock = some k) w w' → (v'.ownBlock = v.ownBlock ∨ v'.ownBlock = some w.heap.size) → wpList Tryd.prog ops Q rest (a.put o.dst v') w') :
    wpList Tryd.prog ops Q (o :: rest) a w := by
  subst hs
  cases sp with
  | none =>
    have hn : n = 0 := by
      cases n with
      | zero => rfl
      | succ n => have := hsp (by omega); cases this
    subst hn
    have hc := hnil rfl
    subst hc
    refine wpList_append_own_none hgd s x 50 ho base 27 Tryd.t27 32 Tryd.underlying50 (by kernel_rfl) _ _ _ rfl hown hx ?_
    exact h _ _ (by simpa [firstL] using hown) (Keeps.refl _ _) (.inl rfl)
  | some ad =>
    refine appendHs hgd s x ho base _ ds (firstL F n) rfl hown ad c (by rw [firstL_length]; exact hx) (fun j u hu => ?_) (by rw [firstL_length]; exact hlim) hbase h
    have hn : 0 < n := by
      have := (List.getElem?_eq_some_iff.1 hu).1
      simp at this; omega
    have e := hsp hn
    cases e
    exact (hsrc hn).src j u hu
/-- 'append(x, make([]Hash, m)...)'. -/
theorem appendHz (hgd : o.guard = none) (s x : Operand) (ho : o.op = .call { callee := .builtin .append, args := #[s, x], argTypes := #[50, 3] })
    (base : Nat) (v : Value) (ds : List Dg) (hs : a.eval s = v) (hown : w.ownsRow base 27 32 v ds.length (dl ds)) (i : Int) (m : Nat) (hx : a.eval x = .int .i64 i) (hi : i = (m : Int)) (hlim : ds.length + m ≤ 4398046511104) (hbase : base ≤ w.heap.size)
    (h : ∀ v' w', w'.ownsRow base 27 32 v' (ds ++ List.replicate m fun _ => 0).length (dl (ds ++ List.replicate m fun _ => 0)) → Keeps (fun k => v.ownBlock = some k) w w' → wpList Tryd.prog ops Q rest (a.put o.dst v') w') :
    wpList Tryd.prog ops Q (o :: rest) a w := by
  subst hi
  obtain ⟨v', w', hr, h2, h3, -⟩ := run_append_own_zeros (P := Tryd.prog) w base 50 3 o.type 27 Tryd.t27 (.agg z32) 32 32 .i64 .i64 Tryd.underlying50 Tryd.underlying3 (by kernel_rfl) (by kernel_rfl) (by kernel_rfl) (by kernel_rfl) (by kernel_rfl) (by decide)
    v ds.length (dl ds) hown m (fun u hu => dl_one _ u (by rw [← zc_dl]; exact hu)) (by have : maxLen = 9223372036854775807 := rfl; omega) (by omega) hbase
  refine Lib.wpList_append_run w hgd s x 50 3 ho v (.int .i64 m) hs hx v' w' hr ?_
  refine h v' w' ?_ (keeps_only h3 fun k hk => hk)
  rw [List.length_append, List.length_replicate, dl_append, ← zc_dl]; exact h2
end
end Go.Proofs.YtikkebjhnechdaaDoor
