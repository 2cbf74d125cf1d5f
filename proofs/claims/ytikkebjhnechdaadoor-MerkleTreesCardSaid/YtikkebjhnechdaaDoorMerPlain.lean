/- Trees of digests, plainly, further; levels as values. No program in sight. -/
import Derived.Test.YtikkebjhnechdaaDoorMerUnder
import Derived.Laws.ResultCell
namespace Go.Mt
open Go.RowKit
theorem pr_congr {a b c d : Dg} (h1 : ∀ i, i < 32 → a i = c i) (h2 : ∀ i, i < 32 → b i = d i) : pr a b = pr c d := by
  have e1 : bytesL 32 a = bytesL 32 c := by unfold bytesL; exact List.map_congr_left fun i hi => h1 i (List.mem_range.1 hi)
  have e2 : bytesL 32 b = bytesL 32 d := by unfold bytesL; exact List.map_congr_left fun i hi => h2 i (List.mem_range.1 hi)
  unfold pr; rw [e1, e2]
theorem pr_norm (a b : Dg) : norm (pr a b) = pr a b := norm_norm _
theorem node_norm {L : Nat → Dg} (hL : ∀ k, norm (L k) = L k) (n : Nat) : ∀ h k, norm (node L n h k) = node L n h k
  | 0, k => by unfold node; split; exact hL k; exact norm_zr 0
  | h + 1, k => by unfold node; exact pr_norm _ _
theorem eq_of_norm {a b : Dg} (ha : norm a = a) (hb : norm b = b) (h : ∀ i, i < 32 → a i = b i) : a = b := by rw [← ha, ← hb]; exact norm_eq h
/-- Trees with the same leaves. -/
theorem node_same {L M : Nat → Dg} {n m : Nat} : ∀ h k k', (∀ j, j < 2 ^ h → node L n 0 (2 ^ h * k + j) = node M m 0 (2 ^ h * k' + j)) → node L n h k = node M m h k'
  | 0, k, k', e => by have := e 0 (by decide); simpa using this
  | h + 1, k, k', e => by
    have hp : 2 ^ (h + 1) = 2 ^ h + 2 ^ h := by rw [Nat.pow_succ]; omega
    have q : ∀ k : Nat, 2 ^ (h + 1) * k = 2 ^ h * (2 * k) := fun k => by rw [Nat.pow_succ, Nat.mul_assoc]
    have q1 : ∀ k : Nat, 2 ^ h * (2 * k + 1) = 2 ^ h * (2 * k) + 2 ^ h := fun k => by rw [Nat.mul_add (2 ^ h) (2 * k) 1, Nat.mul_one]
    show pr _ _ = pr _ _
    rw [node_same h (2 * k) (2 * k') fun j hj => by have := e j (by omega); rw [q, q] at this; exact this,
      node_same h (2 * k + 1) (2 * k' + 1) fun j hj => by have := e (2 ^ h + j) (by omega); rw [q, q] at this; rw [q1, q1, Nat.add_assoc, Nat.add_assoc]; exact this]
theorem pr_self_zr (h : Nat) : pr (zr h) (zr h) = zr (h + 1) := rfl
/-- A level: a slice of digests. -/
def LevAt (w : World) (S : Nat → Prop) (v : Value) (n : Nat) (F : Nat → Dg) : Prop := ∃ sp c, v = .slice sp n c ∧ (0 < n → ∃ b o, sp = some ⟨b, o, none⟩ ∧ b < w.heap.size ∧ ¬ S b ∧ DgsAt w b o n F)
theorem LevAt.below {w w' : World} {S T : Nat → Prop} {v : Value} {n : Nat} {F : Nat → Dg} (h : LevAt w S v n F) (hb : Below w.heap.size w w') (hT : ∀ b, b < w.heap.size → ¬ S b → ¬ T b) : LevAt w' T v n F := by
  obtain ⟨sp, c, rfl, h⟩ := h
  refine ⟨sp, c, rfl, fun h0 => ?_⟩
  obtain ⟨b, o, rfl, h1, h2, h3⟩ := h h0
  exact ⟨b, o, rfl, Nat.lt_of_lt_of_le h1 hb.size, hT b h1 h2, h3.below hb h1⟩
theorem LevAt.keeps {w w' : World} {S T K : Nat → Prop} {v : Value} {n : Nat} {F : Nat → Dg} (h : LevAt w S v n F) (hk : Keeps K w w') (hT : ∀ b, b < w.heap.size → ¬ S b → ¬ K b ∧ ¬ T b) : LevAt w' T v n F := by
  obtain ⟨sp, c, rfl, h⟩ := h
  refine ⟨sp, c, rfl, fun h0 => ?_⟩
  obtain ⟨b, o, rfl, h1, h2, h3⟩ := h h0
  exact ⟨b, o, rfl, Nat.lt_of_lt_of_le h1 hk.size, (hT b h1 h2).2, h3.keeps hk h1 (hT b h1 h2).1⟩
theorem LevAt.own {w : World} {S : Nat → Prop} {base : Nat} {e : TypeId} {v : Value} {n : Nat} {F : Nat → Dg} (h : w.ownsRow base e 32 v n (dl (firstL F n))) (hS : ∀ b, base ≤ b → ¬ S b) : LevAt w S v n F := by
  have h' := h
  rcases h'.2 with ⟨rfl, h0⟩ | ⟨g, cap, cur, rfl, hb, hg, h1, h2, h3, h4⟩
  · subst h0; exact ⟨none, 0, rfl, fun h => absurd h (Nat.lt_irrefl _)⟩
  · refine ⟨_, cap, rfl, fun h0 => ?_⟩
    obtain ⟨g', cap', hv, -, h5, h6, -, h7⟩ := own_dgs h h0
    cases hv
    exact ⟨_, 0, rfl, h6, hS _ h5, h7⟩
def vl (vs : Nat → Value) (n : Nat) : List Value := (List.range n).map vs
@[simp] theorem vl_length (vs : Nat → Value) (n : Nat) : (vl vs n).length = n := by simp [vl]
theorem vl_get (vs : Nat → Value) {n i : Nat} (h : i < n) : (vl vs n)[i]? = some (vs i) := by unfold vl; rw [List.getElem?_map, List.getElem?_range h]; rfl
theorem vl_push (vs : Nat → Value) (n : Nat) (v : Value) : vl vs n ++ [v] = vl (fun i => if i = n then v else vs i) (n + 1) := by
  unfold vl
  rw [List.range_succ, List.map_append]
  congr 1
  · exact List.map_congr_left fun i hi => by rw [if_neg (by have := List.mem_range.1 hi; omega)]
  · simp
theorem own_vl {w : World} {base : Nat} {e : TypeId} {v : Value} {n : Nat} {vs : Nat → Value} (h : w.ownsRow base e 1 v n (vl vs n)) (hn : 0 < n) :
    ∃ g cap, v = .slice (some ⟨g, 0, none⟩) n cap ∧ v.ownBlock = some g ∧ base ≤ g ∧ g < w.heap.size ∧ n ≤ cap ∧ ∀ i, i < n → w.cell? ⟨g, i, none⟩ = some (vs i) := by
  rcases h.2 with ⟨rfl, h0⟩ | ⟨g, cap, cur, rfl, hb, hg, h1, h2, h3, h4⟩
  · omega
  · refine ⟨g, cap, rfl, rfl, hb, lt_row hg, h1, fun i hi => ?_⟩
    have := h.cells (g := g) rfl i (vs i) (vl_get vs hi)
    rw [Addr.add_mid, Nat.zero_add] at this; exact this
section
variable {P : Program}
theorem results_tmp_row_tmp {fn : Func} {s p u : Tmp} {ty : TypeId} (h : fn.results = #[.tmp s, .cell p ty, .tmp u]) (tmps : Array Value) (w : World) (g : Nat) (t : TypeId) (cs : Array Value) (fr : Nat × Nat) (d : TypeDesc)
    (hp : tmps.getD p undef = .pointer (some ⟨g, 0, none⟩)) (hg : w.heap[g]? = some (.cells cs t fr))
    (hu : P.underlying ty = some d) (hd : (match d with | .struct _ | .array _ _ => true | _ => false) = true) (hi : (P.info? ty).map (·.size) = some cs.size) :
    (results fn tmps).run P w = .ok (.tuple #[tmps.getD s undef, .agg cs, tmps.getD u undef]) w := by
  have hp' : tmps[p]?.getD undef = .pointer (some ⟨g, 0, none⟩) := by simpa using hp
  simp [results, h, hp', asAddr, run_loadVar_row w g t ty cs fr d hg hu hd hi]
/-- A slice of one value of one cell, made. -/
theorem run_build1v (w : World) (t e : TypeId) (v : Value) (ie : TypeInfo) (z : Value) (hu : P.underlying t = some (.slice e)) (hie : P.info? e = some ie) (hz : ie.zero = some z) (hsz : ie.size = 1) (hv : v.cells = #[v]) :
    (Instr.buildSlice t 1 #[(0, v)]).run P w = .ok (.slice (some ⟨w.heap.size, 0, none⟩) 1 1) (w.alloc (.cells #[v] e)) := by
  refine run_buildSlice w t e 1 #[(0, v)] #[v] ie z hu hie hz (by rw [hsz]; decide) (by rw [hsz]; decide) ?_
  have := Great.fill_whole (s := 1) (by omega) [v] ((Array.range (1 * ie.size)).map (z.cells[· % z.cells.size]!)) (by intro u hu; simp at hu; subst hu; rw [hv]; rfl) (by simp [hsz])
  rw [hsz] at this ⊢
  simpa [hv] using this
end
theorem hrow_one (n : Nat) (F : Nat → Dg) : (hrow n F).all (·.oneCell') = true := by
  rw [Array.all_eq_true_iff_forall_mem]
  intro v hv
  obtain ⟨i, hi⟩ := Array.getElem?_of_mem hv
  unfold hrow at hi
  rw [arr_get] at hi
  split at hi
  · cases hi; rfl
  · cases hi
end Go.Mt
