/- New blocks of digests: stores into a block just made, a slice of digests just made. No program in sight. -/
import Derived.Test.YtikkebjhnechdaaDoorMerApp
import Derived.Test.YtikkebjhnechdaaDoorMtPad
import Derived.Laws.NewBlocks
import Derived.Great.BuildSlice
namespace Go.Mt
open Go.RowKit
theorem setCells_newAt (w : World) (t : TypeId) (b : Nat) (hb : b = w.heap.size) : ∀ (vs : List Value) (o : Nat) (old : Array Value), o + vs.length = old.size →
    (w.alloc (.cells old t)).setCells b o vs = w.alloc (.cells (old.extract 0 o ++ vs.toArray) t)
  | [], o, old, hl => by
    have : o = old.size := by simpa using hl
    subst this
    simp [World.setCells]
  | v :: vs, o, old, hl => by
    rw [World.setCells, World.setCell_alloc_at old t b o v hb, setCells_newAt w t b hb vs (o + 1) _ (by simp at hl ⊢; omega)]
    have ho : o < old.size := by simp at hl; omega
    have e : (old.setIfInBounds o v).extract 0 (o + 1) ++ vs.toArray = old.extract 0 o ++ (v :: vs).toArray := by
      apply Array.toList_inj.1
      have h1 : (old.toList.set o v).take (o + 1) = old.toList.take o ++ [v] := by
        rw [List.take_succ_eq_append_getElem (by simpa using ho), List.getElem_set_self, List.take_set_of_le (Nat.le_refl o)]
      simp only [Array.toList_append, Array.toList_extract, Array.toList_setIfInBounds, List.extract, Nat.sub_zero, List.drop_zero, h1, List.append_assoc, List.singleton_append]
    rw [e]
theorem setCells_new (w : World) (t : TypeId) (b : Nat) (old cells : Array Value) (hb : b = w.heap.size) (hl : cells.size = old.size) : (w.alloc (.cells old t)).setCells b 0 cells.toList = w.alloc (.cells cells t) := by
  rw [setCells_newAt w t b hb _ _ _ (by simp [hl])]; simp
section
variable {P : Program}
/-- A whole row, stored into the block that was just made. -/
theorem wpList_store_new {w : World} {ops : Array Oper} {rest : List Oper} {op : Oper} {a : Act} {Q : Exit → Act → World → Prop} (hgd : op.guard = none) (ty : TypeId) (x y : Operand) (ho : op.op = .store ty x y)
    (b : Nat) (old cells : Array Value) (t : TypeId) (hx : a.eval x = .pointer (some ⟨b, 0, none⟩)) (hy : a.eval y = .agg cells) (hb : b = w.heap.size) (hl : cells.size = old.size)
    (hi : (P.info? ty).map (·.size) = some cells.size) (h1 : cells.all (·.oneCell') = true)
    (h : wpList P ops Q rest a (w.alloc (.cells cells t))) (hdst : op.dst = none := by rfl) : wpList P ops Q (op :: rest) a (w.alloc (.cells old t)) := by
  refine wpList_store_mid hgd ty x y ho b 0 cells hx hy (there_row (at_alloc _ hb.symm) (by omega)) hi h1 ?_
  rw [setCells_new w t b old cells hb hl, hdst]; exact h
theorem fill_one (cells old : Array Value) (hz : 0 < old.size) (h : cells.size = old.size) : Instr.fill (fun i => some (i * old.size, old.size)) old [(0, .agg cells)] = some cells := by
  have h0 : (Value.agg cells).cells = cells := rfl
  have := Great.fill_whole (s := old.size) (by omega) [.agg cells] old (by intro v hv; simp at hv; subst hv; rw [h0, h]) (by simp)
  simpa [h0] using this
/-- A slice of one array, just made. -/
theorem wpList_build1 {w : World} {ops : Array Oper} {rest : List Oper} {o : Oper} {a : Act} {Q : Exit → Act → World → Prop} (hg : o.guard = none) (t e : TypeId) (x : Operand) (ho : o.op = .buildSlice t 1 #[(0, x)])
    (cells : Array Value) (ie : TypeInfo) (z : Value) (hu : P.underlying t = some (.slice e)) (hie : P.info? e = some ie) (hz : ie.zero = some z) (hsz : ie.size = cells.size) (hpos : 0 < cells.size) (hsm : cells.size ≤ 16777216)
    (hx : a.eval x = .agg cells)
    (h : wpList P ops Q rest (a.put o.dst (.slice (some ⟨w.heap.size, 0, none⟩) 1 1)) (w.alloc (.cells cells e))) : wpList P ops Q (o :: rest) a w := by
  refine wpList_buildSlice hg t e 1 #[(0, x)] ho cells ie z hu hie hz (by rw [hsz]; simpa using hsm) (by rw [hsz]; omega) ?_ h
  have e1 : ((#[(0, x)] : Array (Nat × Operand)).map fun (i, x) => (i, a.eval x)).toList = [(0, .agg cells)] := by simp [hx]
  rw [e1, hsz]
  have := fill_one cells ((Array.range (1 * cells.size)).map (z.cells[· % z.cells.size]!)) (by simpa using hpos) (by simp)
  simpa using this
end
end Go.Mt
