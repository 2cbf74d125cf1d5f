/- A slice of slices of bytes that came in. -/
import Derived.Test.YtikkebjhnechdaaDoorMtCard
import Derived.Test.YtikkebjhnechdaaDoorMtPieces
import Derived.Deep.Matrix
namespace Go.Mt
open Go.ChangeShapes Go.WideShapes Go.ChangeAt Go.RowKit Go.Proofs.YtikkebjhnechdaaDoor
section
variable {H : Type} {enc : TypeId × Value → H} {P : Program}
theorem bulk_append (xs ys : List (DataW H)) : Rows.uptoBulkAll (xs ++ ys) = Rows.uptoBulkAll xs + Rows.uptoBulkAll ys := by
  induction xs with
  | nil => simp [Rows.uptoBulkAll]
  | cons x xs ih => rw [List.cons_append, Rows.uptoBulkAll, Rows.uptoBulkAll, ih]; omega
theorem bulk_lits (k : IntKind) (zs : List Int) : Rows.uptoBulkAll (lits k zs : List (DataW H)) = zs.length := by
  induction zs with
  | nil => simp [lits, Rows.uptoBulkAll]
  | cons z zs ih =>
    have h : Rows.uptoBulkAll (lits k (z :: zs) : List (DataW H)) = 1 + Rows.uptoBulkAll (lits k zs : List (DataW H)) := by
      show Rows.uptoBulkAll ((.lit (.int k z) : DataW H) :: lits k zs) = _
      rw [Rows.uptoBulkAll, Rows.uptoBulk]
      intro b h; cases h
    rw [h, ih, List.length_cons]; omega
theorem bulk_range (BS : Nat → List (BitVec 8)) (f : Nat → DataW H) : ∀ n, (∀ r, r < n → (BS r).length ≤ Rows.uptoBulk (f r)) → (catTo BS n).length ≤ Rows.uptoBulkAll ((List.range n).map f)
  | 0, _ => by simp [catTo]
  | n + 1, h => by
    have ih := bulk_range BS f n fun r hr => h r (by omega)
    rw [List.range_succ, List.map_append, bulk_append, List.map_cons, List.map_nil, Rows.uptoBulkAll, Rows.uptoBulkAll]
    have h2 : (catTo BS (n + 1)).length = (catTo BS n).length + (BS n).length := List.length_append
    have := h n (Nat.lt_succ_self n)
    omega
theorem open_pieces {W : World} {base : Nat} {t e q : TypeId} {v : Value} {d : DataW H} {p : List MemPlace} (ht : P.underlying t = some (.slice e)) (he : P.underlying e = some (.slice q)) (hq : P.underlying q = some (.int .u8)) (ce : P.cellsOf e = 1) (cq : P.cellsOf q = 1)
    (hval : Value.okWide P W .any base t v) (h : DataW.Trod enc P W 0 (fun _ => true) true t v d p) :
    ∃ (pp : Option Addr) (pb po N C : Nat) (SP : Nat → Option Addr) (CP : Nat → Nat) (BS : Nat → List (BitVec 8)), v = .slice pp N C ∧ (0 < N → pp = some ⟨pb, po, none⟩) ∧ (0 < N → pb < W.heap.size) ∧
      (∀ i, i < N → W.cell? ⟨pb, po + i, none⟩ = some (.slice (SP i) (BS i).length (CP i))) ∧ (∀ i, i < N → Src W (SP i) (BS i)) ∧ (∀ i, i < N → ∀ a, SP i = some a → 0 < (BS i).length → a.block < W.heap.size) ∧
      (∀ i, i < N → SP i = none → CP i = 0) ∧ N ≤ 9223372036854775807 ∧ (catTo BS N).length ≤ Rows.uptoBulk d := by
  obtain ⟨a1, len, cap, rfl⟩ := okWide_slice ht hval
  obtain ⟨fuel, hf⟩ := h
  rcases Deep.open_int_rows ht he hq ce cq hf with ⟨hcs, _⟩ | ⟨a, len', cap', A, L, C, Z, hcs, _, hl, hm, hx, hcell⟩
  · simp [Value.cells] at hcs
    obtain ⟨rfl, rfl, rfl⟩ := hcs
    exact ⟨none, 0, 0, 0, 0, fun _ => none, fun _ => 0, fun _ => [], rfl, fun h => by omega, fun h => by omega, fun i h => by omega, fun i h => by omega, fun i h => by omega, fun i h => by omega, by omega, by simp [catTo]⟩
  · simp [Value.cells] at hcs
    obtain ⟨rfl, rfl, rfl⟩ := hcs
    simp only [Prod.mk.injEq] at hx
    obtain ⟨rfl, rfl⟩ := hx
    have hbl : ∀ r, r < cap → (((Z r).take (L r)).map (BitVec.ofInt 8)).length = L r := fun r hr => by
      obtain ⟨_, h1, _, h3, _⟩ := hcell r hr
      rw [List.length_map, List.length_take]; omega
    have hat : ∀ r, r < cap → ∀ a', A r = some a' → ∀ j, j < L r → W.cell? (a'.add j) = some (.int .u8 (B (BitVec.ofInt 8 ((Z r).getD j 0)))) := fun r hr a' ha j hj => by
      obtain ⟨_, h1, _, h3, h4, _, h6⟩ := hcell r hr
      have hw := range_u8 h4 j
      rw [← List.getD_eq_getElem?_getD] at hw
      rw [(h6 a' ha).2 j (by omega), B_ofInt _ (by omega) (by omega)]
    have hsrc : ∀ r, r < cap → Src W (A r) (((Z r).take (L r)).map (BitVec.ofInt 8)) := fun r hr hpos => by
      rw [hbl r hr] at hpos
      obtain ⟨_, h1, _, h3, h4, h5, h6⟩ := hcell r hr
      cases hA : A r with
      | none => have := h5 hA; omega
      | some a' =>
        refine ⟨a', rfl, fun j u hu => ?_⟩
        have hj := (List.getElem?_eq_some_iff.1 hu).1
        rw [bl_length, hbl r hr] at hj
        rw [hat r hr a' hA j hj, ← hu, bl_get _ j (by rw [hbl r hr]; exact hj)]
        congr 3
        rw [List.getD_eq_getElem?_getD, List.getD_eq_getElem?_getD, List.getElem?_map, List.getElem?_take_of_lt hj, List.getElem?_eq_getElem (by omega)]
        rfl
    have hspot : 0 < len → a = ⟨a.block, a.off, none⟩ ∧ a.block < W.heap.size := fun h0 => by
      have h1 := (hcell 0 (by omega)).1
      have h2 := World.cell?_spot h1
      have h3 := World.block_lt_of_cell? W _ h1
      obtain ⟨ab, ao, spot⟩ := a
      have hs : spot = none := by simpa [Addr.add] using h2
      subst hs
      exact ⟨rfl, by simpa [Addr.add] using h3⟩
    refine ⟨some a, a.block, a.off, len, cap, A, C, fun r => ((Z r).take (L r)).map (BitVec.ofInt 8), rfl, fun h0 => by rw [← (hspot h0).1], fun h0 => (hspot h0).2, fun i hi => ?_, fun i hi => hsrc i (by omega), fun i hi a' ha hpos => ?_, fun i hi h => (hcell i (by omega)).2.2.2.2.2.1 h, (by have : maxLen = 9223372036854775807 := rfl; omega), ?_⟩
    · have h1 := (hcell i (by omega)).1
      rw [(hspot (by omega)).1, Addr.add_mid] at h1
      rw [hbl i (by omega)]; exact h1
    · rw [hbl i (by omega)] at hpos
      have := World.block_lt_of_cell? W _ (hat i (by omega) a' ha 0 hpos)
      simpa [Addr.add] using this
    · rw [Rows.uptoBulk]
      refine Nat.le_trans (bulk_range _ (fun r => Deep.intRow .u8 (A r) (L r) (Z r)) len fun r hr => ?_) (by omega)
      rw [hbl r (by omega)]
      obtain ⟨_, h1, _, h3, _, h5, _⟩ := hcell r (by omega)
      unfold Deep.intRow
      cases hA : A r with
      | none => have := h5 hA; omega
      | some a' => simp only; rw [Rows.uptoBulk, bulk_lits, bulk_lits, List.length_take]; omega
end
end Go.Mt
