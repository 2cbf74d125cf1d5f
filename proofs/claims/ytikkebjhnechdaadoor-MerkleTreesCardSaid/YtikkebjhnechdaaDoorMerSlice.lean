/- 'append(x, make([]T, m)...)' onto a slice of the call's own. No program in sight. Pieces of slices of digests; numbers brought into range. A digest stored into a slice of the call's own; the slice cut. No program in sight. -/
import Derived.Test.YtikkebjhnechdaaDoorMtRow
import Derived.Lib.AppendZeros
import Derived.Laws.AppendOwn
import Derived.Maps.AppendAt
import Derived.Test.YtikkebjhnechdaaDoorMerFixed
namespace Go.Mt
open Go.RowKit
section
variable {P : Program} (w : World)
theorem run_append_room_zeros (t tn ty e : TypeId) (i : TypeInfo) (z : Value) (k kn : IntKind) (ht : P.underlying t = some (.slice e)) (htn : P.underlying tn = some (.int kn)) (hi : P.info? e = some i) (hz : i.zero = some z) (hzs : z.cells.size = i.size) (hsz : 0 < i.size)
    (g sLen sCap : Nat) (cur : Array Value) (hg : w.heap[g]? = some (.cells cur e (0, 0))) (m : Nat) (h1 : ∀ u ∈ (Builtin.zeroCells z.cells m).toList, u.oneCell' = true)
    (hm63 : (m : Int) ≤ 9223372036854775807) (h48 : m * i.bytes ≤ 281474976710656)
    (hroom : sLen + m ≤ sCap) (hfit : sLen * i.size + m * i.size ≤ cur.size) :
    (Builtin.append_ #[t, tn] ty #[.slice (some ⟨g, 0, none⟩) sLen sCap, .int k m]).run P w =
      .ok (.slice (some ⟨g, 0, none⟩) (sLen + m) sCap) (w.setRow g (cur.toList.take (sLen * i.size) ++ (Builtin.zeroCells z.cells m).toList ++ cur.toList.drop (sLen * i.size + m * i.size)).toArray) := by
  have hw : IntKind.i64.wrap (m : Int) = m := by rw [IntKind.wrap_i64]; omega
  have h48i : ¬ (281474976710656 < (m : Int) * (i.bytes : Int)) := by rw [← Int.natCast_mul]; omega
  have hneg : ¬ ((m : Int) < 0) := by omega
  have hl : (Builtin.zeroCells z.cells m).toList.length = m * i.size := by rw [Array.length_toList, size_zeroCells, hzs]
  have hst := run_storeCells_at P g (sLen * i.size) e (Builtin.zeroCells z.cells m).toList 0 cur w hg (by rw [hl]; simpa using hfit) h1
  rw [hl] at hst
  simp only [Nat.add_zero] at hst
  by_cases hm : m = 0
  · subst hm
    have e0 : (Builtin.zeroCells z.cells 0).toList = [] := by simp [Builtin.zeroCells]
    have hroom' : sLen ≤ sCap := by omega
    have hw0 : IntKind.i64.wrap 0 = 0 := by decide
    rw [e0] at hst ⊢
    simp [Builtin.append_, hw0, hroom', run_underlying ht, run_underlying htn, sizeOf, typeInfo, asInt, asIntOf, hi, Addr.add_lit]
    have hst' : (storeCells ⟨g, sLen * i.size, none⟩ []).run P w = .ok () (w.setRow g cur) := by simpa using hst
    rw [hst']; rfl
  · have hns : ¬ (m * i.size = 0) := Nat.mul_ne_zero hm (by omega)
    simp [Builtin.append_, run_underlying ht, run_underlying htn, sizeOf, typeInfo, zeroValue, asInt, asIntOf, hw, hneg, h48i, hns, hi, hz, hroom, Addr.add_lit]
    rw [hst]; simp [List.append_assoc]
theorem run_append_grow_zeros (t tn ty e : TypeId) (i : TypeInfo) (z : Value) (k kn : IntKind) (ht : P.underlying t = some (.slice e)) (htn : P.underlying tn = some (.int kn)) (hi : P.info? e = some i) (hz : i.zero = some z) (hzs : z.cells.size = i.size) (hsz : 0 < i.size)
    (b : Addr) (sLen sCap : Nat) (olds : List Value) (hlo : olds.length = sLen * i.size) (holds : ∀ j v, olds[j]? = some v → w.cell? (b.add j) = some v) (m : Nat) (hm : 0 < m)
    (h48 : m * i.bytes ≤ 281474976710656) (hg : sCap < sLen + m) (h63 : ((sLen + m : Nat) : Int) ≤ 9223372036854775807) (hfit : Builtin.nextslicecap (sLen + m) sCap * i.bytes ≤ 281474976710656) :
    (Builtin.append_ #[t, tn] ty #[.slice (some b) sLen sCap, .int k m]).run P w =
      .ok (.slice (some ⟨w.heap.size, 0, none⟩) (sLen + m) (grownCap w (sLen + m) sCap e))
        (w.drew.alloc (.cells (olds.toArray ++ Builtin.zeroCells z.cells m ++ Builtin.zeroCells z.cells (grownCap w (sLen + m) sCap e - (sLen + m))) e)) := by
  have hw : IntKind.i64.wrap (m : Int) = m := by rw [IntKind.wrap_i64]; omega
  have h48i : ¬ (281474976710656 < (m : Int) * (i.bytes : Int)) := by rw [← Int.natCast_mul]; omega
  have hneg : ¬ ((m : Int) < 0) := by omega
  have hns : ¬ (m * i.size = 0) := Nat.mul_ne_zero (by omega) (by omega)
  have hn : ¬ (sLen + m ≤ sCap) := by omega
  have h63' : ¬ (9223372036854775807 < ((sLen : Int) + (m : Int))) := by omega
  have h48' : ¬ (281474976710656 < Builtin.nextslicecap (sLen + m) sCap * i.bytes) := by omega
  have hfo := run_firstCells_some (P := P) w.drew i.size sLen b sLen sCap olds hlo (by simpa using holds)
  simp [Builtin.append_, run_underlying ht, run_underlying htn, sizeOf, typeInfo, zeroValue, asInt, asIntOf, hw, hneg, h48i, hns, hi, hz, hn, h63', h48', Question.forced, hfo, newRow, grownCap]
/-- Onto a slice of the call's own. -/
theorem run_append_own_zeros (base : Nat) (t tn ty e : TypeId) (i : TypeInfo) (z : Value) (size bytes : Nat) (k kn : IntKind) (ht : P.underlying t = some (.slice e)) (htn : P.underlying tn = some (.int kn)) (hi : P.info? e = some i) (hz : i.zero = some z)
    (hsize : i.size = size) (hby : i.bytes = bytes) (hzs : z.cells.size = size) (hsz : 0 < size)
    (v : Value) (n : Nat) (xs : List Value) (hown : w.ownsRow base e size v n xs) (m : Nat) (h1 : ∀ u ∈ (Builtin.zeroCells z.cells m).toList, u.oneCell' = true)
    (h63 : n + m ≤ maxLen) (hbytes : (n + m) * bytes ≤ 140737488355328) (hbase : base ≤ w.heap.size) :
    ∃ v' w', (Builtin.append_ #[t, tn] ty #[v, .int k m]).run P w = .ok v' w' ∧ w'.ownsRow base e size v' (n + m) (xs ++ (Builtin.zeroCells z.cells m).toList) ∧ w.grownBy w' v.ownBlock ∧
      (v'.ownBlock = v.ownBlock ∨ v'.ownBlock = some w.heap.size) := by
  subst hsize
  subst hby
  have hsmall : n + m ≤ 9223372036854775807 := by simp only [maxLen] at h63; omega
  have hzl : (Builtin.zeroCells z.cells m).toList.length = m * i.size := by rw [Array.length_toList, size_zeroCells, hzs]
  have hlen : (xs ++ (Builtin.zeroCells z.cells m).toList).length = (n + m) * i.size := by rw [List.length_append, hown.1, hzl, Nat.add_mul]
  have hmb : m * i.bytes ≤ 281474976710656 := by have : m * i.bytes ≤ (n + m) * i.bytes := Nat.mul_le_mul_right _ (by omega); omega
  have grown : ∀ (old : Nat), old < n + m → ∀ (row : Option Nat),
      (w.drew.alloc (.cells (xs.toArray ++ Builtin.zeroCells z.cells m ++ Builtin.zeroCells z.cells (grownCap w (n + m) old e - (n + m))) e)).ownsRow base e i.size
        (.slice (some ⟨w.heap.size, 0, none⟩) (n + m) (grownCap w (n + m) old e)) (n + m) (xs ++ (Builtin.zeroCells z.cells m).toList) ∧
      w.grownBy (w.drew.alloc (.cells (xs.toArray ++ Builtin.zeroCells z.cells m ++ Builtin.zeroCells z.cells (grownCap w (n + m) old e - (n + m))) e)) row := by
    intro old ho row
    have hge := grownCap_ge w (n + m) old e
    have hcm : grownCap w (n + m) old e ≤ maxLen := grownCap_le_maxLen w (n + m) old e h63
    refine ⟨⟨hlen, .inr ⟨w.heap.size, _, _, rfl, hbase, heap_alloc_new w.drew _, hge, hcm, ?_, ?_⟩⟩, ⟨rfl, rfl, rfl, by simp, fun k hk _ => heap_alloc_old w.drew _ hk⟩⟩
    · simp only [Array.size_append, List.size_toArray, size_zeroCells, hzs, hown.1, ← Nat.add_mul]
      congr 1
      omega
    · simp only [Array.toList_append, List.append_assoc]
      rw [← List.append_assoc, ← hlen]
      exact List.take_left
  rcases hown.2 with ⟨rfl, rfl⟩ | ⟨g, cap, cur, rfl, hbg, hg, hnc, hcm, hcs, htake⟩
  · have hx : xs = [] := List.eq_nil_of_length_eq_zero (by simpa using hown.1)
    subst hx
    by_cases hm : m = 0
    · subst hm
      have e0 : (Builtin.zeroCells z.cells 0).toList = [] := by simp [Builtin.zeroCells]
      have hw0 : IntKind.i64.wrap 0 = 0 := by decide
      refine ⟨.slice none 0 0, w, ?_, ?_, ⟨rfl, rfl, rfl, Nat.le_refl _, fun _ _ _ => rfl⟩, Or.inl rfl⟩
      · simp [Builtin.append_, hw0, run_underlying ht, run_underlying htn, sizeOf, typeInfo, asInt, asIntOf, hi]
      · rw [e0]; exact World.ownsRow_nil w base e i.size
    · have hr := Lib.run_append_nil_zeros (P := P) w t tn ty e i z k kn ht htn hi hz m (by omega) hsz (by omega) hmb
      have hgr := grown 0 (by omega) (Value.ownBlock (.slice none 0 0))
      simp only [Nat.zero_add, List.nil_append, Array.empty_append] at hgr ⊢
      exact ⟨_, _, hr, hgr.1, hgr.2, Or.inr rfl⟩
  · by_cases hroom : n + m ≤ cap
    · have hfit : n * i.size + m * i.size ≤ cur.size := by rw [hcs, ← Nat.add_mul]; exact Nat.mul_le_mul_right _ hroom
      have hr := run_append_room_zeros (P := P) w t tn ty e i z k kn ht htn hi hz hzs hsz g n cap cur hg m h1 (by omega) hmb hroom hfit
      refine ⟨_, _, hr, ⟨hlen, .inr ⟨g, cap, _, rfl, hbg, setRow_heap w g cur _ e _ hg, hroom, hcm, ?_, ?_⟩⟩, ⟨rfl, rfl, rfl, by simp, fun k _ hk => setRow_other w g k _ (fun e => hk (by simp [Value.ownBlock, e]))⟩, Or.inl rfl⟩
      · simp only [List.size_toArray, List.length_append, List.length_take, List.length_drop, Array.length_toList, size_zeroCells, hzs]
        rw [hcs] at hfit ⊢
        omega
      · rw [htake, ← hlen]
        exact List.take_left
    · have holds : ∀ j u, xs[j]? = some u → w.cell? ((⟨g, 0, none⟩ : Addr).add j) = some u := hown.cells (g := g) rfl
      have hr := run_append_grow_zeros (P := P) w t tn ty e i z k kn ht htn hi hz hzs hsz ⟨g, 0, none⟩ n cap xs hown.1 holds m (by omega) hmb (by omega) (by omega) (growslice_fits (by omega) hbytes)
      have hgr := grown cap (by omega) (Value.ownBlock (.slice (some ⟨g, 0, none⟩) n cap))
      exact ⟨_, _, hr, hgr.1, hgr.2, Or.inr rfl⟩
end
end Go.Mt
namespace Go.Mt
open Go.RowKit
theorem add_zero' (a : Addr) : a.add 0 = a := by unfold Addr.add; simp
section
variable {P : Program} {ops : Array Oper} {rest : List Oper} {o : Oper} {a : Act} {w : World} {Q : Exit → Act → World → Prop}
theorem wpList_slice_hi (hg : o.guard = none) (t e : TypeId) (x y : Operand) (ho : o.op = .slice t x none (some y) none) (sp : Option Addr) (len cap h : Nat) (ik : IntKind) (i : Int) (hx : a.eval x = .slice sp len cap) (hy : a.eval y = .int ik i) (hi : i = (h : Int))
    (hu : P.underlying t = some (.slice e)) (s : Nat) (hs : ∀ w, (sizeOf e).run P w = .ok s w) (hle : h ≤ cap)
    (hc : wpList P ops Q rest (a.put o.dst (.slice sp h cap)) w) : wpList P ops Q (o :: rest) a w := by
  subst hi
  refine wpList_plain hg fun _ hK => ?_
  have he : P.elem t = e := by simp [Program.elem, hu]
  have hu' : P.underlying t = some (.slice (P.elem t)) := by rw [he]; exact hu
  have hr : (Instr.sliceAt t (.slice sp len cap) none (some (.int ik (h : Int))) none).run P w = .ok (.slice sp h cap) w := by
    rw [run_sliceAt_slice w t _ _ _ _ hu', run_slice_h w t sp len cap hu' ik h (by omega) (by omega), he, hs w]
    have e1 : sliced sp 0 (h : Int).toNat cap s = .slice sp h cap := by
      unfold sliced
      rw [Int.toNat_natCast, Nat.sub_zero, Nat.sub_zero]
      split
      · rfl
      · rw [Nat.zero_mul]; cases sp <;> simp [add_zero']
    rw [← e1]; rfl
  unfold Oper.wp execOp
  simp only [ho, hx, hy, Option.map_some, Option.map_none, Sem.run_bind, hr, Result.andThen_ok]
  exact hK _ _ hc
theorem wpList_slice_lo (hg : o.guard = none) (t e : TypeId) (x y : Operand) (ho : o.op = .slice t x (some y) none none) (sp : Option Addr) (len cap l : Nat) (ik : IntKind) (i : Int) (hx : a.eval x = .slice sp len cap) (hy : a.eval y = .int ik i) (hi : i = (l : Int))
    (hu : P.underlying t = some (.slice e)) (s : Nat) (hs : ∀ w, (sizeOf e).run P w = .ok s w) (hle : l ≤ len) (hcap : len ≤ cap)
    (hc : ∀ sp', (l < len → ∀ b o, sp = some ⟨b, o, none⟩ → sp' = some ⟨b, o + l * s, none⟩) → wpList P ops Q rest (a.put o.dst (.slice sp' (len - l) (cap - l))) w) : wpList P ops Q (o :: rest) a w := by
  subst hi
  refine wpList_plain hg fun _ hK => ?_
  have he : P.elem t = e := by simp [Program.elem, hu]
  have hu' : P.underlying t = some (.slice (P.elem t)) := by rw [he]; exact hu
  have hr : (Instr.sliceAt t (.slice sp len cap) (some (.int ik (l : Int))) none none).run P w = .ok (.slice (if cap = l then sp else sp.map (·.add (l * s))) (len - l) (cap - l)) w := by
    rw [run_sliceAt_slice w t _ _ _ _ hu', run_slice_l w t sp len cap hu' ik l (by omega) (by omega), he, hs w]
    have e1 : sliced sp (l : Int).toNat len cap s = .slice (if cap = l then sp else sp.map (·.add (l * s))) (len - l) (cap - l) := by
      unfold sliced; rw [Int.toNat_natCast]
    rw [← e1]; rfl
  unfold Oper.wp execOp
  simp only [ho, hx, hy, Option.map_some, Option.map_none, Sem.run_bind, hr, Result.andThen_ok]
  refine hK _ _ (hc _ fun hl b o hsp => ?_)
  rw [if_neg (by omega), hsp, Option.map_some, Addr.add_mid]
end
theorem own_slice {w : World} {base : Nat} {e : TypeId} {v : Value} {n : Nat} {F : Nat → Dg} (h : w.ownsRow base e 32 v n (dl (firstL F n))) :
    ∃ sp c, v = .slice sp n c ∧ n ≤ c ∧ (sp = none → c = 0) ∧ (0 < n → ∃ b, sp = some ⟨b, 0, none⟩ ∧ base ≤ b ∧ b < w.heap.size ∧ DgsAt w b 0 n F) := by
  have h' := h
  rcases h'.2 with ⟨rfl, h0⟩ | ⟨g, cap, cur, rfl, hb, hg, h1, h2, h3, h4⟩
  · subst h0; exact ⟨none, 0, rfl, Nat.le_refl _, fun _ => rfl, fun h => absurd h (Nat.lt_irrefl _)⟩
  · refine ⟨_, cap, rfl, h1, fun h => (by cases h), fun h0 => ?_⟩
    obtain ⟨g', cap', hv, -, h5, h6, -, h7⟩ := own_dgs h h0
    cases hv
    exact ⟨_, rfl, h5, h6, h7⟩
/-- A raw number, brought into range. -/
theorem wrap_mod (D : Int) (m : Nat) (hm : 0 < m) : ∃ d : Nat, d < m ∧ (IntKind.u64.wrap D).tmod (m : Int) = (d : Int) := by
  have h0 : 0 ≤ IntKind.u64.wrap D := by rw [IntKind.wrap_u64]; omega
  rw [Int.tmod_eq_emod_of_nonneg h0]
  have h1 := Int.emod_nonneg (IntKind.u64.wrap D) (show (m : Int) ≠ 0 by omega)
  have h2 := Int.emod_lt_of_pos (IntKind.u64.wrap D) (show (0 : Int) < m by omega)
  exact ⟨(IntKind.u64.wrap D % (m : Int)).toNat, by omega, by omega⟩
end Go.Mt
namespace Go.Proofs.YtikkebjhnechdaaDoor
open Go.RowKit Go.Mt
theorem sz32 (w : World) : (sizeOf 27).run Tryd.prog w = .ok 32 w := by kernel_rfl
theorem zc_dl (m : Nat) : (Builtin.zeroCells (Value.agg z32).cells m).toList = dl (List.replicate m fun _ => 0) := by
  have hs : (Value.agg z32).cells.size = 32 := by kernel_rfl
  apply List.ext_getElem?
  intro j
  by_cases hj : j < 32 * m
  · have e : j = 32 * (j / 32) + j % 32 := by omega
    have hm : j % 32 < 32 := Nat.mod_lt _ (by decide)
    have h2 := dl_get (List.replicate m fun _ => 0) (j / 32) (j % 32) (by simp; omega) hm
    rw [← e] at h2
    rw [h2]
    unfold Builtin.zeroCells
    rw [Array.getElem?_toList, Array.getElem?_map, Array.getElem?_range, hs, if_pos (by omega)]
    have e2 : ∀ i, i < 32 → (Value.agg z32).cells[i]! = .int .u8 0 := fun i hi => by
      show z32[i]! = _
      rw [z32_eq, getElem!_def, arr_get, if_pos hi]; rfl
    rw [Option.map_some, e2 _ hm]
    rw [List.getD_eq_getElem?_getD, List.getElem?_replicate, if_pos (by omega)]
    rfl
  · rw [List.getElem?_eq_none (by rw [Array.length_toList, size_zeroCells, hs]; omega), List.getElem?_eq_none (by simp; omega)]
section
variable {ops : Array Oper} {rest : List Oper} {o : Oper} {a : Act} {w : World} {Q : Exit → Act → World → Prop}
/-- 'append' of digests that lie anywhere, or of none. -/
theorem appendHany (hgd : o.guard = none) (s x : Operand) (ho : o.op = .call { callee := .builtin .append, args := #[s, x], argTypes := #[50, 50] })
    (base : Nat) (v : Value) (ds : List Dg) (n : Nat) (F : Nat → Dg) (hs : a.eval s = v) (hown : w.ownsRow base 27 32 v ds.length (dl ds))
    (sp : Option Addr) (c : Nat) (hx : a.eval x = .slice sp n c) (hnil : sp = none → c = 0) (b off : Nat) (hsp : 0 < n → sp = some ⟨b, off, none⟩) (hsrc : 0 < n → DgsAt w b off n F) (hlim : ds.length + n ≤ 4398046511104) (hbase : base ≤ w.heap.size)
    (h : ∀ v' w', w'.ownsRow base 27 32 v' (ds ++ firstL F n).length (dl (ds ++ firstL F n)) → Keeps (fun k => v.ownBlock = some k) w w' → (v'.ownBlock = v.ownBlock ∨ v'.ownBlock = some w.heap.size) → wpList Tryd.prog ops Q rest (a.put o.dst v') w') :
    wpList Tryd.prog ops Q (o :: rest) a w := by
  subst hs
  cases sp with
  | none =>
    have hn : n = 0 := by
      cases n with
      | zero => rfl
      | succ n => have := hsp (by omega); cases this
    subst hn
    have hc := hnil rfl
    subst hc
    refine wpList_append_own_none hgd s x 50 ho base 27 Tryd.t27 32 Tryd.underlying50 (by kernel_rfl) _ _ _ rfl hown hx ?_
    exact h _ _ (by simpa [firstL] using hown) (Keeps.refl _ _) (.inl rfl)
  | some ad =>
    refine appendHs hgd s x ho base _ ds (firstL F n) rfl hown ad c (by rw [firstL_length]; exact hx) (fun j u hu => ?_) (by rw [firstL_length]; exact hlim) hbase h
    have hn : 0 < n := by
      have := (List.getElem?_eq_some_iff.1 hu).1
      simp at this; omega
    have e := hsp hn
    cases e
    exact (hsrc hn).src j u hu
/-- 'append(x, make([]Hash, m)...)'. -/
theorem appendHz (hgd : o.guard = none) (s x : Operand) (ho : o.op = .call { callee := .builtin .append, args := #[s, x], argTypes := #[50, 3] })
    (base : Nat) (v : Value) (ds : List Dg) (hs : a.eval s = v) (hown : w.ownsRow base 27 32 v ds.length (dl ds)) (i : Int) (m : Nat) (hx : a.eval x = .int .i64 i) (hi : i = (m : Int)) (hlim : ds.length + m ≤ 4398046511104) (hbase : base ≤ w.heap.size)
    (h : ∀ v' w', w'.ownsRow base 27 32 v' (ds ++ List.replicate m fun _ => 0).length (dl (ds ++ List.replicate m fun _ => 0)) → Keeps (fun k => v.ownBlock = some k) w w' → wpList Tryd.prog ops Q rest (a.put o.dst v') w') :
    wpList Tryd.prog ops Q (o :: rest) a w := by
  subst hi
  obtain ⟨v', w', hr, h2, h3, -⟩ := run_append_own_zeros (P := Tryd.prog) w base 50 3 o.type 27 Tryd.t27 (.agg z32) 32 32 .i64 .i64 Tryd.underlying50 Tryd.underlying3 (by kernel_rfl) (by kernel_rfl) (by kernel_rfl) (by kernel_rfl) (by kernel_rfl) (by decide)
    v ds.length (dl ds) hown m (fun u hu => dl_one _ u (by rw [← zc_dl]; exact hu)) (by have : maxLen = 9223372036854775807 := rfl; omega) (by omega) hbase
  refine Lib.wpList_append_run w hgd s x 50 3 ho v (.int .i64 m) hs hx v' w' hr ?_
  refine h v' w' ?_ (keeps_only h3 fun k hk => hk)
  rw [List.length_append, List.length_replicate, dl_append, ← zc_dl]; exact h2
end
end Go.Proofs.YtikkebjhnechdaaDoor
namespace Go.Mt
open Go.RowKit
/-- A digest of what is owned, stored anew. -/
theorem own_set {w : World} {base : Nat} {e : TypeId} {g cap n : Nat} {F : Nat → Dg} (h : w.ownsRow base e 32 (.slice (some ⟨g, 0, none⟩) n cap) n (dl (firstL F n))) {i : Nat} (hi : i < n) (x : Dg) :
    w.there g (i * 32) 32 ∧ (w.setCells g (i * 32) (arr 32 (ub x)).toList).ownsRow base e 32 (.slice (some ⟨g, 0, none⟩) n cap) n (dl (firstL (fun k => if k = i then x else F k) n)) := by
  rcases h.2 with ⟨h0, -⟩ | ⟨g', cap', cur, hv, hb, hg, h1, h2, h3, h4⟩
  · cases h0
  · cases hv
    have hsz : i * 32 + 32 ≤ cur.size := by rw [h3]; omega
    refine ⟨fun j hj => ⟨?_, frozen_of_row _ _ _ _ _ hg⟩, ?_⟩
    · rw [cell_of_row w g (i * 32 + j) _ e (0, 0) hg, Array.getElem?_eq_getElem (by omega)]; rfl
    · obtain ⟨cs, k1, k2, k3⟩ := setCells_part (arr 32 (ub x)).toList (i * 32) w cur hg (by simp; omega)
      have hl : (dl (firstL (fun k => if k = i then x else F k) n)).length = n * 32 := by simp
      refine ⟨hl, .inr ⟨g, cap, cs, rfl, hb, k1, h1, h2, by rw [k2, h3], ?_⟩⟩
      apply List.ext_getElem?
      intro q
      rw [List.getElem?_take]
      by_cases hq : q < n * 32
      · rw [if_pos hq]
        have e0 : q = 32 * (q / 32) + q % 32 := by omega
        have hm : q % 32 < 32 := Nat.mod_lt _ (by decide)
        have hk : q / 32 < n := by omega
        have hr : (dl (firstL (fun k => if k = i then x else F k) n))[q]? = some (.int .u8 (B ((if q / 32 = i then x else F (q / 32)) (q % 32)))) := by
          conv => lhs; rw [e0]
          rw [dl_get _ (q / 32) (q % 32) (by simpa using hk) hm]
          unfold firstL
          rw [List.getD_eq_getElem?_getD, List.getElem?_map, List.getElem?_range hk]; rfl
        rw [hr, Array.getElem?_toList, k3 q]
        by_cases hqi : q / 32 = i
        · rw [if_pos (by simp; omega), if_pos hqi, Array.getElem?_toList, arr_get, if_pos (by omega), show q - i * 32 = q % 32 by omega]; rfl
        · rw [if_neg (by simp; omega), if_neg hqi, ← Array.getElem?_toList]
          have h5 : (cur.toList.take (n * 32))[q]? = (dl (firstL F n))[q]? := by rw [h4]
          rw [List.getElem?_take, if_pos hq] at h5
          rw [h5]
          conv => lhs; rw [e0]
          rw [dl_get _ (q / 32) (q % 32) (by simpa using hk) hm]
          unfold firstL
          rw [List.getD_eq_getElem?_getD, List.getElem?_map, List.getElem?_range hk]; rfl
      · rw [if_neg hq, List.getElem?_eq_none (by rw [hl]; omega)]
theorem own_dgs_at {w : World} {base : Nat} {e : TypeId} {g cap n : Nat} {F : Nat → Dg} (h : w.ownsRow base e 32 (.slice (some ⟨g, 0, none⟩) n cap) n (dl (firstL F n))) (hn : 0 < n) : g < w.heap.size ∧ DgsAt w g 0 n F := by
  obtain ⟨g', c', hv, -, -, h1, -, h2⟩ := own_dgs h hn
  cases hv
  exact ⟨h1, h2⟩
theorem firstL_take (F : Nat → Dg) {n m : Nat} (h : n ≤ m) : dl (firstL F n) = (dl (firstL F m)).take (n * 32) := by
  have e : firstL F m = firstL F n ++ firstL (fun k => F (n + k)) (m - n) := by
    apply List.ext_getElem?
    intro k
    unfold firstL
    by_cases hk : k < n
    · rw [List.getElem?_append_left (by simpa using hk), List.getElem?_map, List.getElem?_map, List.getElem?_range (by omega), List.getElem?_range hk]
    · rw [List.getElem?_append_right (by simpa using hk)]
      by_cases h2 : k < m
      · rw [List.getElem?_map, List.getElem?_map, List.getElem?_range h2, List.getElem?_range (by simp; omega)]
        simp; congr 1; omega
      · rw [List.getElem?_eq_none (by simp; omega), List.getElem?_eq_none (by simp; omega)]
  rw [e, dl_append]
  have hl : (dl (firstL F n)).length = n * 32 := by simp
  rw [← hl, List.take_left]
/-- What is owned, cut. -/
theorem own_cut {w : World} {base : Nat} {e : TypeId} {sp : Option Addr} {c n m : Nat} {F : Nat → Dg} (h : w.ownsRow base e 32 (.slice sp m c) m (dl (firstL F m))) (hn : n ≤ m) (hnil : sp = none → c = 0) : w.ownsRow base e 32 (.slice sp n c) n (dl (firstL F n)) := by
  rcases h.2 with ⟨h0, h1⟩ | ⟨g', cap', cur, hv, hb, hg, h1, h2, h3, h4⟩
  · cases h0
    obtain rfl : n = 0 := by omega
    exact ⟨by simp, .inl ⟨rfl, rfl⟩⟩
  · cases hv
    refine ⟨by simp, .inr ⟨g', c, cur, rfl, hb, hg, by omega, h2, h3, ?_⟩⟩
    rw [firstL_take F hn, ← h4, List.take_take, Nat.min_eq_left (by omega)]
@[go_sem high] theorem shl_one_u (t : TypeId) (yk : IntKind) (c : Int) (h0 : 0 ≤ c) (h1 : c ≤ 62) : binOp .shl t (.int .u64 1) (.int yk c) = pure (.int .u64 (pw c)) := by
  obtain ⟨k, rfl⟩ : ∃ k : Nat, c = (k : Int) := ⟨c.toNat, by omega⟩
  have hk : k ≤ 62 := by omega
  obtain ⟨p, hp⟩ : ∃ p, p = 2 ^ k := ⟨_, rfl⟩
  have h1 := Nat.pow_le_pow_right (n := 2) (by decide) hk
  rw [pw_nat, ← hp]
  rw [← hp] at h1
  have e : IntKind.u64.wrap (2 ^ min k 64) = (p : Int) := by
    rw [Nat.min_eq_left (by omega)]
    have e2 : (2 : Int) ^ k = (p : Int) := by rw [hp, Int.natCast_pow]; rfl
    rw [e2, IntKind.wrap_u64]
    have e3 : (2 ^ 62 : Nat) = 4611686018427387904 := by decide
    omega
  rw [binOp_shl]
  simp only [Op.shift, if_neg (show ¬ (k : Int) < 0 by omega), IntKind.bits, Int.toNat_natCast]
  simp [e]
end Go.Mt
namespace Go.Mt
def lenS : Value → Nat
  | .slice _ n _ => n
  | _ => 0
section
variable {P : Program} {ops : Array Oper} {rest : List Oper} {o : Oper} {a : Act} {w : World} {Q : Exit → Act → World → Prop}
theorem wpList_build0 (hg : o.guard = none) (t : TypeId) (parts : Array (Nat × Operand)) (ho : o.op = .build t parts) (v : Value) (hp : parts = #[]) (hrun : ∀ w, (Instr.build t #[]).run P w = .ok v w)
    (h : wpList P ops Q rest (a.put o.dst v) w) : wpList P ops Q (o :: rest) a w :=
  wpList_plain hg fun _ hK => by
    have e : (parts.map fun (i, x) => (i, a.eval x)) = #[] := by subst hp; simp
    unfold Oper.wp execOp
    simp only [ho, Sem.run_bind, e, hrun w, Result.andThen_ok]
    exact hK _ _ h
/-- A whole array, loaded under a guard that says yes. -/
theorem wpList_load_g (hw : Region.wanted o (yielded ops a.tmps) = true) (ty : TypeId) (x : Operand) (ho : o.op = .load ty x) (b off : Nat) (hx : a.eval x = .pointer (some ⟨b, off, none⟩)) (cs : Array Value) (d : TypeDesc)
    (hc : w.rangeAt b off cs.toList) (hu : P.underlying ty = some d) (hd : d.isRow = true) (hi : (P.info? ty).map (·.size) = some cs.toList.length)
    (h : wpList P ops Q rest (a.put o.dst (.agg cs)) w) : wpList P ops Q (o :: rest) a w :=
  BigFrame.wpList_want hw fun _ hK => wp_load_mid ty x ho b off hx cs.toList d hc hu hd hi (by rw [Array.toArray_toList]; exact hK _ _ h)
end
end Go.Mt
namespace Go.Proofs.YtikkebjhnechdaaDoor
open Go.RowKit Go.Mt
theorem buildH0 (w : World) : (Instr.build 27 #[]).run Tryd.prog w = .ok (.agg (arr 32 (ub fun _ => 0))) w := by kernel_rfl
end Go.Proofs.YtikkebjhnechdaaDoor
