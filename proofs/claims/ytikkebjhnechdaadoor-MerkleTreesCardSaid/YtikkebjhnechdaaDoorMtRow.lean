/- Small facts on worlds and rows. No program in sight. -/
import Derived.Test.YtikkebjhnechdaaDoorMtKec
import Derived.Test.YtikkebjhnechdaaDoorMtOrd
import Derived.Laws.AppendOwnNone
import Derived.Laws.CopyOwn
import Derived.Maps.AppendAt
import Derived.Deep.AppendLies
import Derived.Deep.Onto
import Derived.Deep.MidRow
import Derived.Deep.QuietTactic
namespace Go.Mt
open Go.RowKit
theorem at_alloc {w : World} {k : Nat} (o : Obj) (h : w.heap.size = k) : (w.alloc o).heap[k]? = some o := by subst h; exact heap_alloc_new _ _
theorem keep_alloc {w : World} {k : Nat} {x : Obj} (h : w.heap[k]? = some x) (o : Obj) : (w.alloc o).heap[k]? = some x := by
  exact (heap_alloc_old w o (Array.getElem?_eq_some_iff.1 h).1).trans h
theorem keep_set {w : World} {k : Nat} {x : Obj} (h : w.heap[k]? = some x) {p : Addr} (hp : p.block ≠ k) (u : Value) : (w.setCell p u).heap[k]? = some x := by
  rw [heap_setCell_other _ _ _ _ (fun e => hp e.symm)]; exact h
theorem keep_below {B k : Nat} {w w' : World} {x : Obj} (hb : Below B w w') (h : w.heap[k]? = some x) (hk : k < B) : w'.heap[k]? = some x := (hb.block k hk).trans h
theorem lt_row {w : World} {k : Nat} {x : Obj} (h : w.heap[k]? = some x) : k < w.heap.size := (Array.getElem?_eq_some_iff.1 h).1

/-! ### Part of a row, stored anew -/
theorem setCells_part {b : Nat} {t : TypeId} : ∀ (vs : List Value) (o : Nat) (w : World) (cs : Array Value), w.heap[b]? = some (.cells cs t (0, 0)) → o + vs.length ≤ cs.size →
    ∃ cs', (w.setCells b o vs).heap[b]? = some (.cells cs' t (0, 0)) ∧ cs'.size = cs.size ∧ ∀ k, cs'[k]? = if o ≤ k ∧ k < o + vs.length then vs[k - o]? else cs[k]?
  | [], o, w, cs, h, hl => ⟨cs, by rw [World.setCells, h], rfl, fun k => by rw [if_neg (by simp)]⟩
  | v :: vs, o, w, cs, h, hl => by
    have hl2 : o + 1 + vs.length ≤ cs.size := by simp at hl; omega
    obtain ⟨cs', h1, h2, h3⟩ := setCells_part vs (o + 1) _ (cs.setIfInBounds o v) (heap_setCell_same w b o cs t v h) (by simpa using hl2)
    refine ⟨cs', by rw [World.setCells]; exact h1, by simpa using h2, fun k => ?_⟩
    rw [h3 k, Array.getElem?_setIfInBounds, List.length_cons]
    by_cases hk : k = o
    · subst hk
      rw [if_neg (by omega), if_pos rfl, if_pos (by omega), if_pos (by omega)]
      simp
    · by_cases hk2 : o + 1 ≤ k ∧ k < o + 1 + vs.length
      · rw [if_pos hk2, if_pos (by omega), show k - o = (k - (o + 1)) + 1 by omega]; rfl
      · rw [if_neg hk2, if_neg (by omega), if_neg (by omega)]

/-- Of the old blocks only those of S may have changed. -/
structure Keeps (S : Nat → Prop) (w w' : World) : Prop where
  os : w'.os = w.os
  tape : w'.tape = w.tape
  output : w'.output = w.output
  size : w.heap.size ≤ w'.heap.size
  block : ∀ k, k < w.heap.size → ¬ S k → w'.heap[k]? = w.heap[k]?
theorem Keeps.refl (S : Nat → Prop) (w : World) : Keeps S w w := ⟨rfl, rfl, rfl, Nat.le_refl _, fun _ _ _ => rfl⟩
theorem Keeps.trans {S T : Nat → Prop} {a b c : World} (h : Keeps S a b) (k : Keeps T b c) (hT : ∀ i, i < a.heap.size → T i → S i) : Keeps S a c :=
  ⟨k.os.trans h.os, k.tape.trans h.tape, k.output.trans h.output, Nat.le_trans h.size k.size, fun i hi hn => (k.block i (Nat.lt_of_lt_of_le hi h.size) fun ht => hn (hT i hi ht)).trans (h.block i hi hn)⟩
theorem Keeps.below {S : Nat → Prop} {B : Nat} {w w' : World} (h : Keeps S w w') (hB : B ≤ w.heap.size) (hS : ∀ k, k < B → ¬ S k) : Below B w w' :=
  ⟨h.os, h.tape, h.output, h.size, fun k hk => h.block k (by omega) (hS k hk)⟩
theorem keeps_below {S : Nat → Prop} {w w' : World} (h : Below w.heap.size w w') : Keeps S w w' := ⟨h.os, h.tape, h.output, h.size, fun k hk _ => h.block k hk⟩
theorem keeps_only {w w' : World} {r : Option Nat} {S : Nat → Prop} (h : w.grownBy w' r) (hS : ∀ k, r = some k → S k) : Keeps S w w' :=
  ⟨h.os, h.tape, h.output, h.size, fun k hk hn => h.block k hk fun e => hn (hS k e.symm)⟩
theorem Keeps.drew {S : Nat → Prop} {w w' : World} (h : Keeps S w w') : Keeps S w w'.drew := ⟨h.os, h.tape, h.output, h.size, h.block⟩
theorem Keeps.alloc {S : Nat → Prop} {w w' : World} (h : Keeps S w w') (o : Obj) : Keeps S w (w'.alloc o) :=
  ⟨h.os, h.tape, h.output, Nat.le_trans h.size (by simp), fun k hk hn => (heap_alloc_old _ _ (by have := h.size; omega)).trans (h.block k hk hn)⟩
theorem Keeps.setCell {S : Nat → Prop} {w w' : World} (h : Keeps S w w') {p : Addr} (hp : S p.block ∨ w.heap.size ≤ p.block) (u : Value) : Keeps S w (w'.setCell p u) :=
  ⟨h.os, h.tape, h.output, by simpa using h.size, fun k hk hn => (heap_setCell_other _ _ _ _ (fun e => by
    rcases hp with hp | hp
    · exact hn (e ▸ hp)
    · omega)).trans (h.block k hk hn)⟩
theorem Keeps.setCells {S : Nat → Prop} {w : World} {b : Nat} (hb : S b) : ∀ (vs : List Value) (o : Nat) (w' : World), Keeps S w w' → Keeps S w (w'.setCells b o vs)
  | [], _, _, h => h
  | v :: vs, o, w', h => by rw [World.setCells]; exact Keeps.setCells hb vs (o + 1) _ (h.setCell (p := ⟨b, o, none⟩) (.inl hb) v)

/-- A whole array, loaded within a region that draws its order. -/
theorem quiet_load_mid {P : Program} {C : World → Prop} {K : Act → Prop} {op : Oper} {a : Act} (ty : TypeId) (x : Operand) (ho : op.op = .load ty x)
    (b o : Nat) (hx : a.eval x = .pointer (some ⟨b, o, none⟩)) (cs : List Value) (d : TypeDesc) (hC : ∀ w, C w → w.rangeAt b o cs)
    (hu : P.underlying ty = some d) (hd : d.isRow = true) (hi : (P.info? ty).map (·.size) = some cs.length) (h : K (a.put op.dst (.agg cs.toArray))) : op.quiet P a C K :=
  ⟨_, fun w hw => by
    unfold Oper.quietAt execOp
    simp only [ho, hx, Instr.loadAt, Instr.sureAddr, Sem.run_bind, Sem.run_pure, Result.andThen_ok, run_loadVar_mid w b o ty cs d (hC w hw) hu hd hi]
    exact ⟨rfl, rfl⟩, h⟩

/-- A whole array, stored within a region that draws its order. (At the region's own goal: a goal 'Oper.wp (store of an array)' makes Lean unfold the store.) -/
theorem ord_store {P : Program} {Q : Exit → Act → World → Prop} {l : List Oper} {o : Oper} {i : Nat} {r : List (Nat × MtOrd.Ent)} {a : Act} {w : World} (ho : l[i]? = some o) (hw : Region.wanted o (yielded l.toArray a.tmps) = true)
    (ty : TypeId) (x y : Operand) (hop : o.op = .store ty x y) (b off : Nat) (cells : Array Value) (hx : a.eval x = .pointer (some ⟨b, off, none⟩)) (hy : a.eval y = .agg cells)
    (ht : w.there b off cells.size) (hi : (P.info? ty).map (·.size) = some cells.size) (h1 : cells.all (·.oneCell') = true)
    (h : MtOrd.Ord P l.toArray (fun _ => True) Q r (a.put o.dst undef) (w.setCells b off cells.toList)) : MtOrd.Ord P l.toArray (fun _ => True) Q ((i, .loud) :: r) a w :=
  MtOrd.ord_loud0 ho hw fun _ hK => wp_store_mid ty x y hop b off cells hx hy ht hi h1 (hK _ _ h)

/-! ### Bytes in a list -/
def bl (bs : List (BitVec 8)) : List Value := bs.map fun b => .int .u8 (B b)
@[simp] theorem bl_length (bs : List (BitVec 8)) : (bl bs).length = bs.length := by simp [bl]
theorem bl_append (a b : List (BitVec 8)) : bl (a ++ b) = bl a ++ bl b := by simp [bl]
theorem bl_one (bs : List (BitVec 8)) : ∀ u ∈ bl bs, u.oneCell' = true := by
  intro u hu; simp only [bl, List.mem_map] at hu; obtain ⟨b, _, rfl⟩ := hu; rfl
theorem bl_get (bs : List (BitVec 8)) (j : Nat) (hj : j < bs.length) : (bl bs)[j]? = some (.int .u8 (B (bs.getD j 0))) := by
  simp [bl, hj]
theorem bl_drop (bs : List (BitVec 8)) (k : Nat) : bl (bs.drop k) = (bl bs).drop k := by simp [bl]
/-- Where a list of bytes lies that is to be appended or copied. -/
def Src (w : World) (sp : Option Addr) (bs : List (BitVec 8)) : Prop := 0 < bs.length → ∃ ad, sp = some ad ∧ ∀ j u, (bl bs)[j]? = some u → w.cell? (ad.add j) = some u
theorem Src.nil (w : World) (sp : Option Addr) : Src w sp [] := fun h => absurd h (by simp)
theorem Src.keep {B : Nat} {w w' : World} {sp : Option Addr} {bs : List (BitVec 8)} (h : Src w sp bs) (hb : Below B w w') (hB : ∀ a, sp = some a → a.block < B) : Src w' sp bs := fun hl => by
  obtain ⟨ad, rfl, h2⟩ := h hl
  refine ⟨ad, rfl, fun j u hu => ?_⟩
  rw [hb.cell (by have := hB ad rfl; unfold Addr.add; split <;> exact this)]
  exact h2 j u hu

/-- 'append' of bytes onto a slice of the call's own, whatever the source (nil too). -/
theorem wpList_append_bytes {P : Program} {w : World} {ops : Array Oper} {rest : List Oper} {o : Oper} {a : Act} {Q : Exit → Act → World → Prop} (hgd : o.guard = none) (s x : Operand) (t : TypeId)
    (ho : o.op = .call { callee := .builtin .append, args := #[s, x], argTypes := #[t, t] })
    (base : Nat) (e : TypeId) (i : TypeInfo) (ht : P.underlying t = some (.slice e)) (hi : P.info? e = some i) (hz : i.zero = some (.int .u8 0)) (hsize : i.size = 1) (hby : i.bytes = 1)
    (v : Value) (xs : List (BitVec 8)) (hs : a.eval s = v) (hown : w.ownsRow base e 1 v xs.length (bl xs))
    (sp : Option Addr) (c : Nat) (bs : List (BitVec 8)) (hx : a.eval x = .slice sp bs.length c) (hsrc : Src w sp bs) (hnil : sp = none → c = 0)
    (hlim : xs.length + bs.length ≤ 140737488355328) (hbase : base ≤ w.heap.size)
    (h : ∀ v' w', w'.ownsRow base e 1 v' (xs ++ bs).length (bl (xs ++ bs)) → Keeps (fun k => v.ownBlock = some k) w w' → (v'.ownBlock = v.ownBlock ∨ v'.ownBlock = some w.heap.size) → wpList P ops Q rest (a.put o.dst v') w') :
    wpList P ops Q (o :: rest) a w := by
  subst hs
  cases sp with
  | none =>
    have hb : bs = [] := by
      cases bs with
      | nil => rfl
      | cons b bs => obtain ⟨ad, h, _⟩ := hsrc (by simp); cases h
    subst hb
    have hc := hnil rfl
    subst hc
    refine wpList_append_own_none hgd s x t ho base e i 1 ht hi _ _ _ rfl hown hx ?_
    exact h _ _ (by simpa using hown) (Keeps.refl _ _) (.inl rfl)
  | some ad =>
    refine wpList_append_own_at w hgd s x t ho base e i (.int .u8 0) 1 1 ht hi hz hsize hby rfl (by omega) _ xs.length (bl xs) rfl hown ad bs.length c (bl bs) hx (by simp) ?_ (bl_one bs) (by have : maxLen = 9223372036854775807 := rfl; omega) (by omega) hbase ?_
    · intro j u hu
      obtain ⟨ad', h1, h2⟩ := hsrc (by have := (List.getElem?_eq_some_iff.1 hu).1; simp at this; omega)
      cases h1
      exact h2 j u hu
    · intro v' w1 hown' hgrow _ hat
      refine h v' w1 ?_ (keeps_only hgrow fun k hk => hk) hat
      rw [List.length_append, bl_append]; exact hown'

/-- A row that is owned, as a source. -/
theorem src_own {w : World} {base : Nat} {e : TypeId} {v : Value} {bs : List (BitVec 8)} (h : w.ownsRow base e 1 v bs.length (bl bs)) :
    ∃ sp c, v = .slice sp bs.length c ∧ Src w sp bs ∧ (sp = none → c = 0) ∧ bs.length ≤ c ∧ (∀ a, sp = some a → ∃ g, a = ⟨g, 0, none⟩ ∧ base ≤ g ∧ g < w.heap.size) := by
  rcases h.2 with ⟨rfl, h0⟩ | ⟨g, cap, cur, rfl, hb, hg, h1, h2, h3, h4⟩
  · exact ⟨none, 0, by rw [h0], fun h => by omega, fun _ => rfl, by omega, fun a h => by cases h⟩
  · refine ⟨some ⟨g, 0, none⟩, cap, rfl, fun _ => ⟨_, rfl, ?_⟩, (fun h => by cases h), h1, fun a ha => by cases ha; exact ⟨g, rfl, hb, lt_row hg⟩⟩
    exact h.cells (g := g) rfl
theorem src_drop {w : World} {base : Nat} {e : TypeId} {b cap : Nat} {zs : List (BitVec 8)} (h : w.ownsRow base e 1 (.slice (some ⟨b, 0, none⟩) zs.length cap) zs.length (bl zs)) (k : Nat) : Src w (some ⟨b, k, none⟩) (zs.drop k) := fun _ => by
  refine ⟨_, rfl, fun j u hu => ?_⟩
  have hj := (List.getElem?_eq_some_iff.1 hu).1
  rw [bl_length, List.length_drop] at hj
  rw [Addr.add_mid, h.cellAt (k + j) (by omega), ← hu, bl_drop, List.getElem?_drop]
/-- What is owned stays so where its row is kept. -/
theorem own_keep {S : Nat → Prop} {w w' : World} {base : Nat} {e : TypeId} {v : Value} {n : Nat} {xs : List Value} (h : w.ownsRow base e 1 v n xs) (k : Keeps S w w') (hS : ∀ k, v.ownBlock = some k → ¬ S k) : w'.ownsRow base e 1 v n xs := by
  rcases h.2 with ⟨rfl, h0⟩ | ⟨g, cap, cur, rfl, hb, hg, h1, h2, h3, h4⟩
  · exact ⟨h.1, .inl ⟨rfl, h0⟩⟩
  · exact ⟨h.1, .inr ⟨g, cap, cur, rfl, hb, (k.block g (lt_row hg) (hS g rfl)).trans hg, h1, h2, h3, h4⟩⟩

/-! ### The hasher -/
def hs (f : St) (v : Value) : Array Value := arr 26 fun i => if i < 25 then uw f i else v
theorem hs_size (f : St) (v : Value) : (hs f v).size = 26 := by simp [hs]
theorem hs_get (f : St) (v : Value) (i : Nat) : (hs f v)[i]? = if i < 25 then some (uw f i) else if i = 25 then some v else none := by
  unfold hs
  rw [arr_get]
  by_cases h : i < 25
  · rw [if_pos (by omega), if_pos h, if_pos h]
  · by_cases h2 : i = 25
    · rw [if_pos (by omega), if_neg h, if_neg h, if_pos h2]
    · rw [if_neg (by omega), if_neg h, if_neg h2]
theorem hs_rest {w : World} {g : Nat} {f : St} {v : Value} {t : TypeId} (h : w.heap[g]? = some (.cells (hs f v) t (0, 0))) : w.cell? ⟨g, 25, none⟩ = some v := by
  rw [cell_of_row w g 25 _ t (0, 0) h, hs_get, if_neg (by omega), if_pos rfl]
theorem hs_range {w : World} {g : Nat} {f : St} {v : Value} {t : TypeId} (h : w.heap[g]? = some (.cells (hs f v) t (0, 0))) : w.rangeAt g 0 (arr 25 (uw f)).toList := fun j u hu => by
  rw [cell_of_row w g (0 + j) _ t (0, 0) h, Nat.zero_add, hs_get]
  rw [Array.getElem?_toList, arr_get] at hu
  by_cases hj : j < 25
  · rw [if_pos hj] at hu ⊢; exact hu
  · rw [if_neg hj] at hu; cases hu
theorem hs_setRest {w : World} {g : Nat} {f : St} {v : Value} {t : TypeId} (h : w.heap[g]? = some (.cells (hs f v) t (0, 0))) (u : Value) : (w.setCell ⟨g, 25, none⟩ u).heap[g]? = some (.cells (hs f u) t (0, 0)) := by
  rw [heap_setCell_same w g 25 _ t u h]
  unfold hs
  rw [arr_set, arr_ext]
  intro i hi
  by_cases h2 : i = 25
  · subst h2; rfl
  · rw [if_neg h2, if_pos (by omega), if_pos (by omega)]
theorem hs_setState {w : World} {g : Nat} {f : St} {v : Value} {t : TypeId} (h : w.heap[g]? = some (.cells (hs f v) t (0, 0))) (f' : St) : (w.setCells g 0 (arr 25 (uw f')).toList).heap[g]? = some (.cells (hs f' v) t (0, 0)) := by
  obtain ⟨cs', h1, h2, h3⟩ := setCells_part (arr 25 (uw f')).toList 0 w _ h (by rw [hs_size]; simp)
  rw [h1, show cs' = hs f' v from Array.ext_getElem? fun i => ?_]
  rw [h3 i, hs_get, hs_get, Array.getElem?_toList, arr_get, Array.length_toList, arr_size]
  by_cases hi : i < 25
  · rw [if_pos (by omega), if_pos (by omega), if_pos hi]; rfl
  · rw [if_neg (by omega), if_neg hi, if_neg hi]

/-- Whole pieces come in; what is left over. -/
def feed (f : St) (bs : List (BitVec 8)) : St × List (BitVec 8) :=
  if _h : 136 ≤ bs.length then feed (absorb f fun j => bs.getD j 0) (bs.drop 136) else (f, bs)
termination_by bs.length
decreasing_by simp; omega
theorem feed_step {f : St} {bs : List (BitVec 8)} (h : 136 ≤ bs.length) : feed f bs = feed (absorb f fun j => bs.getD j 0) (bs.drop 136) := by rw [feed, dif_pos h]
theorem feed_end {f : St} {bs : List (BitVec 8)} (h : bs.length < 136) : feed f bs = (f, bs) := by rw [feed, dif_neg (by omega)]
theorem feed_short (f : St) (bs : List (BitVec 8)) : (feed f bs).2.length < 136 := by
  by_cases h : 136 ≤ bs.length
  · rw [feed_step h]; exact feed_short _ _
  · rw [feed_end (by omega)]; show bs.length < 136; omega
termination_by bs.length
decreasing_by simp; omega
end Go.Mt
