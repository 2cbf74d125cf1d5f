/- A slice of digests that came in. What the rows that list errors.errorType give; a world that meets them. -/
import Derived.Test.YtikkebjhnechdaaDoorMtCard
import Derived.Test.YtikkebjhnechdaaDoorMerHashes
import Derived.Deep.Slices
import Derived.Deep.Fields
import Derived.Test.YtikkebjhnechdaaDoorAsErr
import Derived.LaidHandle
import Derived.LaidLaws
namespace Go.Mt
open Go.ChangeShapes Go.WideShapes Go.ChangeAt Go.RowKit Go.Deep
section
variable {H : Type} {enc : TypeId × Value → H} {P : Program}
/-- The cells of an array of bytes. -/
theorem arr_cells {W : World} {base : Nat} {spare : Nat → Bool} {held : Bool} {t e : TypeId} {n fuel : Nat} {cs : List Value} {x : DataW H × List MemPlace} (ht : P.underlying t = some (.array n e)) (he : P.underlying e = some (.int .u8)) (hce : P.cellsOf e = 1) (hct : P.cellsOf t = n)
    (h : DataW.trod enc P W base spare held fuel t cs = some x) : ∃ f : Nat → BitVec 8, ∀ i, i < n → cs[i]? = some (.int .u8 (B (f i))) := by
  cases fuel with
  | zero => simp [DataW.trod] at h
  | succ fuel =>
    simp only [DataW.trod, ht, hce, hct, Nat.mul_one] at h
    split at h
    · rename_i hl
      obtain ⟨xs, hm, hx⟩ := Option.map_eq_some_iff.1 h
      have each : ∀ i, i < n → ∃ z, cs[i]? = some (.int .u8 z) ∧ (Lit.int .u8 z).wf = true := fun i hi => by
        obtain ⟨b, hb, hf⟩ := Lib.mapM_at hm i i (by simp [hi])
        obtain ⟨z, hc, rfl, hw⟩ := DataW.trod_int he hf
        have := congrArg (·[0]?) hc
        exact ⟨z, by simpa [List.getElem?_take, List.getElem?_drop] using this, hw⟩
      refine ⟨fun i => match cs[i]? with | some (.int _ z) => BitVec.ofInt 8 z | _ => 0, fun i hi => ?_⟩
      obtain ⟨z, hz, hw⟩ := each i hi
      simp only [Lit.wf, Bool.and_eq_true, decide_eq_true_eq] at hw
      have h1 : IntKind.u8.min = 0 := by decide
      have h2 : IntKind.u8.max = 255 := by decide
      simp only [hz]
      rw [B_ofInt _ (by omega) (by omega)]
    · cases h
theorem open_dgs {W : World} {base : Nat} {t e q : TypeId} {v : Value} {d : DataW H} {p : List MemPlace} {ts : List TypeId} {ds : List (DataW H)} (ht : P.underlying t = some (.slice e)) (he : P.underlying e = some (.array 32 q)) (hq : P.underlying q = some (.int .u8)) (cq : P.cellsOf q = 1) (ce : P.cellsOf e = 32) (hby : P.bytesOf e = 32)
    (hval : Value.okWide P W .any base t v) (h : DataW.Trod enc P W 0 (fun _ => true) true t v d p) {j : Nat} (hsz : (DataW.weightsEach P ts ds).all (· ≤ reachBytes) = true) (hj : ts[j]? = some t) (hd : ds[j]? = some d) :
    ∃ (pp : Option Addr) (pb po N C : Nat) (F : Nat → Dg), v = .slice pp N C ∧ (0 < N → pp = some ⟨pb, po, none⟩) ∧ (0 < N → pb < W.heap.size) ∧ DgsAt W pb po N F ∧ (∀ k, norm (F k) = F k) ∧ N ≤ 4398046511103 ∧ N ≤ C ∧ (pp = none → C = 0) ∧ C ≤ 9223372036854775807 := by
  obtain ⟨a1, len, cap, rfl⟩ := okWide_slice ht hval
  obtain ⟨fuel, hf⟩ := h
  rcases open_slice ht hf with ⟨hcs, _⟩ | ⟨a, len', cap', m, n, D, Pl, hcs, _, hl, hm, hmm, hx, hi⟩
  · simp [Value.cells] at hcs
    obtain ⟨rfl, rfl, rfl⟩ := hcs
    exact ⟨none, 0, 0, 0, 0, fun _ => zr 0, rfl, fun h => by omega, fun h => by omega, fun k h => by omega, fun _ => norm_zr 0, by omega, by omega, fun _ => rfl, by omega⟩
  · simp [Value.cells] at hcs
    obtain ⟨rfl, rfl, rfl⟩ := hcs
    simp only [Prod.mk.injEq] at hx
    obtain ⟨rfl, rfl⟩ := hx
    simp only [if_true] at hmm
    have hreach := sized_slice hsz hj hd ht
    rw [hby] at hreach
    simp only [List.length_map, List.length_range, reachBytes] at hreach
    have each : ∀ k, k < m → ∃ f : Nat → BitVec 8, ∀ i, i < 32 → W.cell? ((a.add (k * 32)).add i) = some (.int .u8 (B (f i))) := fun k hk => by
      obtain ⟨cs', hc, ht'⟩ := hi k hk
      rw [ce] at hc
      obtain ⟨f, hf⟩ := arr_cells he hq cq ce ht'
      obtain ⟨_, hcl, hat⟩ := World.cells?_some hc
      exact ⟨f, fun i hi => by rw [hat i hi, hf i hi]⟩
    obtain ⟨f, hfe⟩ := choose_lt each
    have hspot : 0 < len → a = ⟨a.block, a.off, none⟩ ∧ a.block < W.heap.size := fun h0 => by
      have h1 := hfe 0 (by omega) 0 (by decide)
      have h2 := World.cell?_spot h1
      have h3 := World.block_lt_of_cell? W _ h1
      obtain ⟨ab, ao, spot⟩ := a
      have hs : spot = none := by simpa [Addr.add] using h2
      subst hs
      exact ⟨rfl, by simpa [Addr.add] using h3⟩
    refine ⟨some a, a.block, a.off, len, cap, fun k => norm (f k), rfl, fun h0 => by rw [← (hspot h0).1], fun h0 => (hspot h0).2, fun k hk j u hu => ?_, fun k => norm_norm _, by omega, hl, (fun h => by cases h), (by have : maxLen = 9223372036854775807 := rfl; omega)⟩
    have hj := (List.getElem?_eq_some_iff.1 hu).1
    simp at hj
    rw [arr_norm, Array.getElem?_toList, arr_get, if_pos hj] at hu
    have h1 := hfe k (by omega) j hj
    rw [(hspot (by omega)).1, Addr.add_mid, Addr.add_mid] at h1
    rw [← hu]; exact h1
theorem open_barrN {W : World} {base : Nat} {t e : TypeId} {v : Value} {d : DataW H} {p : List MemPlace} (ht : P.underlying t = some (.array 32 e)) (he : P.underlying e = some (.int .u8)) (hce : P.cellsOf e = 1) (hct : P.cellsOf t = 32)
    (hval : Value.okWide P W .any base t v) (h : DataW.Trod enc P W 0 (fun _ => true) true t v d p) : ∃ f : Nat → BitVec 8, v = .agg (arr 32 (ub f)) ∧ norm f = f := by
  obtain ⟨f, rfl⟩ := open_barr ht he hce hct hval h
  exact ⟨norm f, by rw [arr_norm], norm_norm f⟩
end
end Go.Mt
namespace Go.Proofs.YtikkebjhnechdaaDoor
theorem bytes32 : Tryd.prog.bytesOf 26 = 32 := by kernel_rfl
end Go.Proofs.YtikkebjhnechdaaDoor
namespace Go.Proofs.YtikkebjhnechdaaDoor
open Go.ChangeShapes Go.WideShapes Go.ChangeAt Go.RowKit Go.Mt
theorem etNamed : Tryd.prog.globalNamed "errors.errorType" = some 3 := by kernel_rfl
theorem rtNamed : (Tryd.prog.cutTypes.find? (·.1 == "internal/reflectlite.rtype")).map (·.2) = some 99 := by kernel_rfl
theorem oneError : ((List.range Tryd.prog.types.size).filter fun t => Tryd.prog.rowNamed t [101, 114, 114, 111, 114]) = [40] := by kernel_rfl
/-- What the row's list gives. -/
theorem err_of_laid {W : World} (h : laidMetH Tryd.prog [("errors.errorType", Rows.laid_errors_errorType), ("moot/keccak.rounds", Rows.laid_moot_keccak_rounds), ("moot/keccak.lanes", Rows.laid_moot_keccak_lanes), ("moot/keccak.turns", Rows.laid_moot_keccak_turns)] W) : Tabs W ∧ ErrT W := by
  have h' : laidMet Tryd.prog [("moot/keccak.rounds", Rows.laid_moot_keccak_rounds), ("moot/keccak.lanes", Rows.laid_moot_keccak_lanes), ("moot/keccak.turns", Rows.laid_moot_keccak_turns)] W ∧ handlesMet Tryd.prog [("errors.errorType", Rows.laid_errors_errorType)] W := h
  refine ⟨tabs_of_laid h'.1, ?_⟩
  obtain ⟨name, u, ty, e1, e2, e3, e4, e5⟩ := h'.2 _ (List.mem_singleton.2 rfl)
  have en : name = [101, 114, 114, 111, 114] := (Option.some.inj e1).symm
  subst en
  obtain rfl := Option.some.inj (rtNamed.symm.trans e2)
  have hm : ty ∈ (List.range Tryd.prog.types.size).filter fun t => Tryd.prog.rowNamed t [101, 114, 114, 111, 114] := List.mem_filter.2 ⟨List.mem_range.2 e3, e4⟩
  rw [oneError] at hm
  obtain rfl := List.mem_singleton.1 hm
  have hh : typeHandle Tryd.prog 40 = .pointer (some ⟨4, 40, none⟩) := by kernel_rfl
  rw [hh] at e5
  have := World.var?_cell etNamed e5 0
  unfold ErrT
  simpa using this
/-- A world for the witness: the tables and the handle as the text lays them. -/
noncomputable def laidWorldE (os : Os) : World :=
  { laidWorld os with heap := (laidWorld os).heap.modify 3 fun
      | .cells _ t frozen => .cells #[.iface 99 (.agg #[.pointer (some ⟨4, 40, none⟩)])] t frozen
      | o => o }
end Go.Proofs.YtikkebjhnechdaaDoor
