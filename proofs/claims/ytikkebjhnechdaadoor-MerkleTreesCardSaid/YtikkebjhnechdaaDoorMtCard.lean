/- What every card of the seat needs: the tables that the row lists, the arguments' reading, the last step. -/
import Derived.Test.YtikkebjhnechdaaDoorCards
import Derived.Test.YtikkebjhnechdaaDoorTie
import Derived.Test.YtikkebjhnechdaaDoorKecSum
import Derived.WalkKit
import Derived.ProofKit
import Derived.OpenShut
import Derived.SizedLaws
import Derived.Below
import Derived.ChangeSame
import Derived.ChangeSlices
import Derived.WideKeyArgs
import Derived.Deep.DeepHandedRow
import Derived.Lib.LaidTab
import Derived.Stop.LaidErr
namespace Go.Mt
open Go.ChangeShapes Go.WideShapes Go.ChangeAt Go.RowKit
section
variable {H : Type} {enc : TypeId × Value → H} {P : Program}
theorem post_of_below {f : Func} {s : ChangeSpec} {apart fresh handsOn again : Bool} {W W' : World} {args : Array Value} {v : Value} {ds gs : List (DataW H)} {before pa pv : List MemPlace}
    (hW : DataW.Whole enc P f.params.toList s.vars apart W args.toList ds gs before)
    (hres : ∀ (b : Nat) (sp : Nat → Bool) (hd : Bool), DataW.TrodAll enc P W' b sp hd f.resultTypes.toList (v.resultList f.resultTypes.size) (s.fn H (ds ++ gs)).results [])
    (hargs : ∀ sp : Nat → Bool, (∀ p ∈ before, sp p.block = true) → DataW.TrodAll enc P W' 0 sp true f.params.toList args.toList (s.fn H (ds ++ gs)).args pa)
    (hvars : ∀ sp : Nat → Bool, (∀ p ∈ before, sp p.block = true) → DataW.TrodVars enc P W' sp s.vars (s.fn H (ds ++ gs)).vars pv)
    (hps : before = pa ++ pv) (hb : Below W.heap.size W W')
    (hok : ∀ (j : Nat) (t : TypeId) (r : Value), f.resultTypes[j]? = some t → (v.resultList f.resultTypes.size)[j]? = some r → Value.okWide P W' .any 0 t r) :
    s.post enc P f apart fresh handsOn again W args v W' := by
  have hlt : ∀ p ∈ before, p.block < W.heap.size := fun p hp => hW.lt p hp
  have hold : ∀ p ∈ before, (fun b => decide (b < W.heap.size)) p.block = true := fun p hp => by simpa using hlt p hp
  refine ⟨ds, gs, before, [], pa, pv, hW, hres _ _ _, hargs _ hold, hvars _ hold, World.keptBut_mono (fun p hp => ⟨hp, ?_⟩) (hb.frame (· ∈ before)), fun _ => ?_⟩
  · rw [hps, List.mem_append] at hp
    exact Or.inr hp
  · obtain ⟨_, _, _, _, _, hz, hn⟩ := hW
    refine ⟨hok, _, _, ([] ++ pa) ++ pv, ⟨[] ++ pa, pv, trodAll_append (hargs _ (fun _ _ => rfl)) (hres _ _ _), hvars _ (fun _ _ => rfl), rfl, ?_, ?_⟩, ?_⟩
    · intro b off hp
      have hin : MemPlace.cell b off ∈ before := by rw [hps]; simpa using hp
      rw [hb.frozen (hlt _ hin)]
      exact hz b off hin
    · intro ha
      have := hn ha
      rw [hps] at this
      simpa using this
    · intro p hp _
      rw [hps]
      simpa using hp
theorem trodAll_stays (hl : laidOutB P = true) {W W' : World} {sp' : Nat → Bool} : ∀ {ts : List TypeId} {vs : List Value} {ds : List (DataW H)} {ps : List MemPlace}, (∀ t ∈ ts, P.readableRec t = true ∧ t < P.types.size) →
    DataW.TrodAll enc P W 0 (fun _ => true) true ts vs ds ps → (∀ p ∈ ps, W.sameAt W' p) → (∀ p ∈ ps, sp' p.block = true) → DataW.TrodAll enc P W' 0 sp' true ts vs ds ps
  | [], vs, ds, ps, _, h, _, _ => by obtain ⟨rfl, rfl, rfl⟩ := trodAll_nil h; exact trodAll_mk0
  | t :: ts, vs, ds, ps, ht, h, hs, hp => by
    obtain ⟨v, vs', d, ds', p, q, rfl, rfl, rfl, h0, h1⟩ := trodAll_cons h
    exact trodAll_cons_mk (WideElems.Trod_stays hl (ht t (by simp)).1 (ht t (by simp)).2 h0 (fun x hx => hs x (List.mem_append_left _ hx)) (fun x hx => hp x (List.mem_append_left _ hx)))
      (trodAll_stays hl (fun t' h' => ht t' (List.mem_cons_of_mem _ h')) h1 (fun x hx => hs x (List.mem_append_right _ hx)) (fun x hx => hp x (List.mem_append_right _ hx)))
/-- A law's last step: it answers true, and of the old memory nothing is touched. -/
theorem law_post {f : Func} {s : ChangeSpec} {apart fresh handsOn again : Bool} {W W' : World} {args : Array Value} {ds gs : List (DataW H)} {before : List MemPlace} {tb : TypeId}
    (hl : laidOutB P = true) (ht : ∀ t ∈ f.params.toList, P.readableRec t = true ∧ t < P.types.size) (hv : s.vars = []) (hfn : (s.fn H ds).results = [.lit (.bool true)] ∧ (s.fn H ds).args = ds ∧ (s.fn H ds).vars = [])
    (hr : f.resultTypes = #[tb]) (hu : P.underlying tb = some .bool)
    (hW : DataW.Whole enc P f.params.toList s.vars apart W args.toList ds gs before) (hb : Below W.heap.size W W') :
    s.post enc P f apart fresh handsOn again W args (.bool true) W' := by
  have hW' := hW
  have hlt : ∀ p ∈ before, p.block < W.heap.size := fun p hp => hW.lt p hp
  obtain ⟨p, q, hA, hV, rfl, _, _⟩ := hW
  rw [hv] at hV
  obtain ⟨rfl, rfl⟩ := trodVars_none hV
  simp only [List.append_nil] at hW' hlt
  refine post_of_below (pa := p) (pv := []) hW' (fun b sp hd => ?_) (fun sp hsp => ?_) (fun sp hsp => ?_) (by simp) hb (ok_one hr rfl (okWide_bool_mk hu _))
  · rw [List.append_nil, hfn.1, hr]; exact trodAll_mk1 (shut_bool hu true)
  · rw [List.append_nil, hfn.2.1]; exact trodAll_stays hl ht hA (fun x hx => hb.same (hlt x hx)) hsp
  · rw [List.append_nil, hfn.2.2, hv]; exact rfl
/-- A slice of bytes that came in. -/
theorem open_bytes {W : World} {base : Nat} {t e : TypeId} {v : Value} {d : DataW H} {p : List MemPlace} {ts : List TypeId} {ds : List (DataW H)} (hu : P.underlying t = some (.slice e)) (he : P.underlying e = some (.int .u8)) (hc : P.cellsOf e = 1) (hby : P.bytesOf e = 1)
    (hval : Value.okWide P W .any base t v) (h : DataW.Trod enc P W 0 (fun _ => true) true t v d p) {j : Nat} (hsz : (DataW.weightsEach P ts ds).all (· ≤ reachBytes) = true) (hj : ts[j]? = some t) (hd : ds[j]? = some d) :
    ∃ (sp : Option Addr) (bs : List (BitVec 8)) (c : Nat), v = .slice sp bs.length c ∧ Src W sp bs ∧ (∀ a, sp = some a → 0 < bs.length → a.block < W.heap.size) ∧ (sp = none → c = 0) ∧ bs.length ≤ 140737488351232 ∧ bs.length ≤ c ∧ c ≤ 9223372036854775807 := by
  obtain ⟨a1, len, cap, rfl⟩ := okWide_slice hu hval
  obtain ⟨fuel, hf⟩ := h
  rcases open_ints hu he hc hf with ⟨hcs, _⟩ | ⟨a, len', cap', zs, hcs, _, hl, hm, hz, hx, hcell, hwz⟩
  · simp [Value.cells] at hcs
    obtain ⟨rfl, rfl, rfl⟩ := hcs
    exact ⟨none, [], 0, rfl, Src.nil _ _, (fun a h => by cases h), fun _ => rfl, by simp, by simp, by omega⟩
  · simp [Value.cells] at hcs
    obtain ⟨rfl, rfl, rfl⟩ := hcs
    simp only [Prod.mk.injEq] at hx
    obtain ⟨rfl, rfl⟩ := hx
    simp only [if_true] at hz
    have hreach := sized_slice hsz hj hd hu
    rw [hby] at hreach
    simp only [lits, List.length_map, List.length_take, List.length_drop, reachBytes] at hreach
    have hlen : ((zs.take len).map (BitVec.ofInt 8)).length = len := by simp; omega
    have hat : ∀ j, j < len → W.cell? (a.add j) = some (.int .u8 (B (BitVec.ofInt 8 (zs.getD j 0)))) := fun j hj => by
      have hw := range_u8 hwz j
      rw [← List.getD_eq_getElem?_getD] at hw
      rw [hcell j (by omega), B_ofInt _ (by omega) (by omega)]
    refine ⟨some a, (zs.take len).map (BitVec.ofInt 8), cap, by rw [hlen], fun _ => ⟨a, rfl, fun j u hu => ?_⟩, fun a' ha h0 => ?_, (fun h => by cases h), by omega, by omega, hm⟩
    · have hj := (List.getElem?_eq_some_iff.1 hu).1
      rw [bl_length, hlen] at hj
      rw [hat j hj, ← hu, bl_get _ j (by rw [hlen]; exact hj)]
      congr 3
      rw [List.getD_eq_getElem?_getD, List.getD_eq_getElem?_getD, List.getElem?_map, List.getElem?_take_of_lt hj, List.getElem?_eq_getElem (by omega)]
      rfl
    · cases ha
      rw [hlen] at h0
      have := World.block_lt_of_cell? W _ (hat 0 h0)
      simpa [Addr.add] using this
/-- An array of whole numbers that came in. -/
theorem open_arr {W : World} {base : Nat} {t e : TypeId} {n : Nat} {k : IntKind} {v : Value} {d : DataW H} {p : List MemPlace} (ht : P.underlying t = some (.array n e)) (he : P.underlying e = some (.int k)) (hce : P.cellsOf e = 1) (hct : P.cellsOf t = n)
    (hval : Value.okWide P W .any base t v) (h : DataW.Trod enc P W 0 (fun _ => true) true t v d p) : ∃ zs : Nat → Int, v = .agg (arr n fun i => .int k (zs i)) ∧ ∀ i, i < n → (Lit.int k (zs i)).wf = true := by
  unfold Value.okWide at hval
  rw [ht] at hval
  obtain ⟨cs, rfl, _, _⟩ := hval
  obtain ⟨fuel, hf⟩ := h
  cases fuel with
  | zero => simp [DataW.trod] at hf
  | succ fuel =>
    simp only [DataW.trod, ht, hce, hct, Nat.mul_one] at hf
    split at hf
    · rename_i hl
      obtain ⟨xs, hm, hx⟩ := Option.map_eq_some_iff.1 hf
      have hl' : cs.size = n := by simpa [Value.cells] using hl
      have each : ∀ i, i < n → ∃ z, cs[i]? = some (.int k z) ∧ (Lit.int k z).wf = true := fun i hi => by
        obtain ⟨b, hb, hf⟩ := Lib.mapM_at hm i i (by simp [hi])
        obtain ⟨z, hc, rfl, hw⟩ := DataW.trod_int he hf
        have := congrArg (·[0]?) hc
        exact ⟨z, by simpa [List.getElem?_take, List.getElem?_drop, Value.cells] using this, hw⟩
      refine ⟨fun i => match cs[i]? with | some (.int _ z) => z | _ => 0, ?_, fun i hi => ?_⟩
      · congr 1
        apply Array.ext_getElem?
        intro i
        rw [arr_get]
        by_cases hi : i < n
        · obtain ⟨z, hz, _⟩ := each i hi
          rw [if_pos hi]; simp only [hz]
        · rw [if_neg hi, Array.getElem?_eq_none (by omega)]
      · obtain ⟨z, hz, hw⟩ := each i hi
        simp only [hz]; exact hw
    · cases hf
theorem open_words {W : World} {base : Nat} {t e : TypeId} {n : Nat} {v : Value} {d : DataW H} {p : List MemPlace} (ht : P.underlying t = some (.array n e)) (he : P.underlying e = some (.int .u64)) (hce : P.cellsOf e = 1) (hct : P.cellsOf t = n)
    (hval : Value.okWide P W .any base t v) (h : DataW.Trod enc P W 0 (fun _ => true) true t v d p) : ∃ f : St, v = .agg (arr n (uw f)) := by
  obtain ⟨zs, rfl, hw⟩ := open_arr ht he hce hct hval h
  refine ⟨fun i => BitVec.ofInt 64 (zs i), ?_⟩
  rw [arr_ext fun i hi => ?_]
  have := hw i hi
  simp only [Lit.wf, Bool.and_eq_true, decide_eq_true_eq] at this
  have h1 : IntKind.u64.min = 0 := by decide
  have h2 : IntKind.u64.max = 18446744073709551615 := by decide
  unfold uw
  rw [U_ofInt _ (by omega) (by omega)]
theorem open_barr {W : World} {base : Nat} {t e : TypeId} {n : Nat} {v : Value} {d : DataW H} {p : List MemPlace} (ht : P.underlying t = some (.array n e)) (he : P.underlying e = some (.int .u8)) (hce : P.cellsOf e = 1) (hct : P.cellsOf t = n)
    (hval : Value.okWide P W .any base t v) (h : DataW.Trod enc P W 0 (fun _ => true) true t v d p) : ∃ f : Nat → BitVec 8, v = .agg (arr n (ub f)) := by
  obtain ⟨zs, rfl, hw⟩ := open_arr ht he hce hct hval h
  refine ⟨fun i => BitVec.ofInt 8 (zs i), ?_⟩
  rw [arr_ext fun i hi => ?_]
  have := hw i hi
  simp only [Lit.wf, Bool.and_eq_true, decide_eq_true_eq] at this
  have h1 : IntKind.u8.min = 0 := by decide
  have h2 : IntKind.u8.max = 255 := by decide
  unfold ub
  rw [B_ofInt _ (by omega) (by omega)]
end
end Go.Mt
namespace Go.Proofs.YtikkebjhnechdaaDoor
open Go.ChangeShapes Go.WideShapes Go.ChangeAt Go.RowKit Go.Mt
theorem own : ownKnob Tryd.prog.godebug = none := by kernel_rfl
theorem laidOut : laidOutB Tryd.prog = true := by kernel_rfl
theorem gRounds : Tryd.prog.globalNamed "moot/keccak.rounds" = some 0 := by kernel_rfl
theorem gLanes : Tryd.prog.globalNamed "moot/keccak.lanes" = some 1 := by kernel_rfl
theorem gTurns : Tryd.prog.globalNamed "moot/keccak.turns" = some 2 := by kernel_rfl
theorem tRounds : (Tryd.prog.globals[0]?).map (·.type) = some 69 := by kernel_rfl
theorem tLanes : (Tryd.prog.globals[1]?).map (·.type) = some 73 := by kernel_rfl
theorem tTurns : (Tryd.prog.globals[2]?).map (·.type) = some 73 := by kernel_rfl
theorem cells1 : Tryd.prog.cellsOf 23 = 1 := by kernel_rfl
theorem cells2 : Tryd.prog.cellsOf 3 = 1 := by kernel_rfl
theorem cells3 : Tryd.prog.cellsOf 69 = 24 := by kernel_rfl
theorem cells4 : Tryd.prog.cellsOf 73 = 24 := by kernel_rfl
theorem cells5 : Tryd.prog.cellsOf 5 = 1 := by kernel_rfl
theorem cells25 : Tryd.prog.cellsOf 24 = 25 := by kernel_rfl
theorem cells32 : Tryd.prog.cellsOf 26 = 32 := by kernel_rfl
theorem cells22 : Tryd.prog.cellsOf 22 = 1 := by kernel_rfl
theorem bytes5 : Tryd.prog.bytesOf 5 = 1 := by kernel_rfl
theorem range_tab {W : World} {name : String} {k : IntKind} {zs : List Int} {vs : List Value} {g : Nat} (h : Lib.TabIs Tryd.prog W name k zs) (hg : Tryd.prog.globalNamed name = some g) (hv : vs = zs.map fun z => .int k z) : W.rangeAt g 0 vs := fun j u hu => by
  subst hv
  have hj := (List.getElem?_eq_some_iff.1 hu).1
  rw [List.length_map] at hj
  rw [Nat.zero_add, h.cell hg j hj, ← hu, List.getElem?_map, List.getElem?_eq_getElem hj, List.getD_eq_getElem?_getD, List.getElem?_eq_getElem hj]
  rfl
/-- What the row's list gives. -/
theorem tabs_of_laid {W : World} (h : laidMet Tryd.prog [("moot/keccak.rounds", Rows.laid_moot_keccak_rounds), ("moot/keccak.lanes", Rows.laid_moot_keccak_lanes), ("moot/keccak.turns", Rows.laid_moot_keccak_turns)] W) : Tabs W := by
  have h1 : Lib.TabIs Tryd.prog W "moot/keccak.rounds" .u64 (roundsL.map fun n : Nat => (n : Int)) := Lib.tabIs_of_head gRounds tRounds Tryd.underlying69 Tryd.underlying23 cells1 cells3 h
  have h2 : Lib.TabIs Tryd.prog W "moot/keccak.lanes" .i64 (lanesL.map fun n : Nat => (n : Int)) := Lib.tabIs_of_head gLanes tLanes Tryd.underlying73 Tryd.underlying3 cells2 cells4 (laidMet.tail h)
  have h3 : Lib.TabIs Tryd.prog W "moot/keccak.turns" .i64 (turnsL.map fun n : Nat => (n : Int)) := Lib.tabIs_of_head gTurns tTurns Tryd.underlying73 Tryd.underlying3 cells2 cells4 (laidMet.tail (laidMet.tail h))
  have r1 := range_tab (vs := roundsV) h1 gRounds (by simp [roundsV])
  have r2 := range_tab (vs := lanesV) h2 gLanes (by simp [lanesV])
  have r3 := range_tab (vs := turnsV) h3 gTurns (by simp [turnsV])
  have l1 := World.block_lt_of_cell? W _ (r1 0 _ rfl)
  have l2 := World.block_lt_of_cell? W _ (r2 0 _ rfl)
  have l3 := World.block_lt_of_cell? W _ (r3 0 _ rfl)
  exact ⟨r1, r2, r3, by simp at l1 l2 l3; omega⟩
/-- A world for the witness: the settled one, the tables as the text lays them. -/
noncomputable def laidWorld (os : Os) : World :=
  let put := fun (vs : List Value) (o : Obj) => match o with
    | .cells _ t frozen => .cells vs.toArray t frozen
    | o => o
  { World.holding Tryd.prog os ⟨#[], #[], []⟩ with heap := (((World.holding Tryd.prog os ⟨#[], #[], []⟩).heap.modify 0 (put roundsV)).modify 1 (put lanesV)).modify 2 (put turnsV) }
end Go.Proofs.YtikkebjhnechdaaDoor
