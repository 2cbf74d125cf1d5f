/- The tied card of KeccakPermutes is proved: for every input that it speaks of the law answers true; the tables are as the program's text lays them. -/
import Derived.Test.YtikkebjhnechdaaDoorMtCard
import Derived.Test.YtikkebjhnechdaaDoorLawPermutes
namespace Go.Proofs.YtikkebjhnechdaaDoor.KeccakPermutes
open Go.ChangeShapes Go.WideShapes Go.ChangeAt Go.RowKit Go.Mt

set_option maxRecDepth 100000 in
theorem contract (H : Type) (enc : TypeId × Value → H) (W : World) (base : Nat) (args : Array Value) (ds gs : List (DataW H)) (before : List MemPlace)
    (hval : ∀ (j : Nat) t v, Tryd.f4.params[j]? = some t → args[j]? = some v → Value.okWide Tryd.prog W .any base t v)
    (hW : DataW.Whole enc Tryd.prog Tryd.f4.params.toList Rows.keccakPermutesSpec.vars false W args.toList ds gs before)
    (hz : (DataW.weightsEach Tryd.prog (Tryd.f4.params.toList ++ (OpenSpec.ofChange Rows.keccakPermutesSpec).bare.plain.varTypes Tryd.prog) (ds ++ gs)).all (· ≤ reachBytes) = true) (hL : laidMetH Tryd.prog Rows.keccakPermutesRow.laid W) :
    Calls Tryd.prog 4 args W fun e W' => ∃ v, e = .returned v ∧ Rows.keccakPermutesSpec.post enc Tryd.prog Tryd.f4 false true false false W args v W' := by
  have hW' := hW
  obtain ⟨p, q, hA0, hV, rfl, hfz, hnd⟩ := hW
  have hA : DataW.TrodAll enc Tryd.prog W 0 (fun _ => true) true Tryd.f4.params.toList args.toList ds p := hA0
  rw [Tryd.params4] at hA hval hz
  obtain ⟨v0, vs0, d0, ds0, p0, q0, hargs, rfl, rfl, h0, r0⟩ := trodAll_cons hA
  obtain ⟨v1, vs1, d1, ds1, p1, q1, rfl, rfl, rfl, h1, r1⟩ := trodAll_cons r0
  obtain ⟨rfl, rfl, rfl⟩ := trodAll_nil r1
  obtain rfl : args = #[v0, v1] := by cases args; simp_all
  obtain ⟨rfl, rfl⟩ := trodVars_none hV
  obtain ⟨a, rfl⟩ := open_words Tryd.underlying24 Tryd.underlying23 cells1 cells25 (hval 0 24 v0 rfl rfl) h0
  obtain ⟨b, rfl⟩ := open_words Tryd.underlying24 Tryd.underlying23 cells1 cells25 (hval 1 24 v1 rfl rfl) h1
  refine (permutes_law a b W (tabs_of_laid hL)).mono fun e W' ⟨he, hb⟩ => ?_
  subst he
  refine ⟨_, rfl, law_post laidOut ?_ rfl ⟨rfl, rfl, rfl⟩ rfl Tryd.underlying4 hW' hb⟩
  rw [Tryd.params4]
  intro t ht
  have ht : t = 24 := by simpa using ht
  rcases ht with rfl
  all_goals exact ⟨by kernel_rfl, by decide +kernel⟩

theorem laid_met (os : Os) : laidMet Tryd.prog Rows.keccakPermutesRow.laid ((laidWorld os).forCall (fun _ _ => 0) ⟨#[], #[.agg (arr 25 (uw fun _ => 0)), .agg (arr 25 (uw fun _ => 0))], []⟩).memory :=
  laidMet_of_run' 8 (by kernel_rfl) (by kernel_rfl)
theorem reads (os : Os) {H : Type} (enc : TypeId × Value → H) : ∃ places, DataW.whole enc Tryd.prog ((laidWorld os).forCall (fun _ _ => 0) ⟨#[], #[.agg (arr 25 (uw fun _ => 0)), .agg (arr 25 (uw fun _ => 0))], []⟩).memory Tryd.f4.params.toList Rows.keccakPermutesSpec.vars false #[.agg (arr 25 (uw fun _ => 0)), .agg (arr 25 (uw fun _ => 0))].toList 8 = some ([.agg ((List.range 25).map fun _ => .lit (.int .u64 0)), .agg ((List.range 25).map fun _ => .lit (.int .u64 0))], [], places) :=
  ⟨[], by kernel_rfl⟩

set_option maxRecDepth 100000 in
theorem lifted (os : Os) (started : os.Started) (H : Type) (enc : TypeId × Value → H) (F : Stop.Interp) :
    ReturnsInHanded {} Tryd.checked os 4 .any ((OpenSpec.ofChange Rows.keccakPermutesSpec).preRow enc Tryd.prog Tryd.f4 Rows.keccakPermutesRow.domain false Rows.keccakPermutesRow.laid) (((OpenSpec.ofChange Rows.keccakPermutesSpec).at F).post enc Tryd.prog Tryd.f4 false true false false) := by
  obtain ⟨places, hx⟩ := reads os enc
  refine returnsInHanded_of_row (C := Tryd.checked) (s := OpenSpec.ofChange Rows.keccakPermutesSpec) own started (by kernel_rfl) Tryd.func4
    (witness_row_at (enc := enc) (C := Tryd.checked) false (laidWorld os) #[.agg (arr 25 (uw fun _ => 0)), .agg (arr 25 (uw fun _ => 0))] rfl (by kernel_rfl) (by kernel_rfl) (by kernel_rfl)
      (OpenSpec.preRow_of_cond 8 hx (by kernel_rfl) (fun k hk => by cases hk) (by kernel_rfl) (laid_met os))) ?_
  intro W base args ds gs before hval hW _ _ hz hL _ _
  exact contract H enc W base args ds gs before hval hW hz hL

theorem said : Rows.KeccakPermutesSaid :=
  OpenClaim.holds_of_cond 4 Tryd.f4 rfl rfl rfl rfl rfl rfl rfl ⟨rfl, rfl, rfl, rfl, rfl⟩ rfl rfl rfl rfl rfl (by kernel_rfl) Tryd.func4 (by kernel_rfl)
    (of_decide_eq_true (by kernel_rfl)) (by unfold Func.isWrapper; first | (rw [if_pos (by decide +kernel)]; kernel_rfl) | (rw [if_neg (by decide +kernel)]; exact ⟨rfl, rfl⟩))
    (fun os started H enc _ F => by rw [OpenClaim.pre_eq_preRow]; exact lifted os started H enc F)

theorem plain (f : FuncId) (fn : Func) (hf : Tryd.pinned.checked.prog.funcNamed "moot/mootlaw02.KeccakPermutes" = some f) (hfn : Tryd.pinned.checked.prog.funcs[f]? = some fn) :
    true = Tryd.pinned.checked.prog.looks [] ∧ ∀ (j : Nat) t, fn.params[j]? = some t → Tryd.pinned.checked.prog.wantsStandIn t = false := by
  obtain rfl : f = 4 := Option.some.inj ((show Tryd.prog.funcNamed "moot/mootlaw02.KeccakPermutes" = some 4 by kernel_rfl).symm.trans hf) |>.symm
  obtain rfl : fn = Tryd.f4 := (Option.some.inj (Tryd.func4.symm.trans hfn)).symm
  refine ⟨by kernel_rfl, fun j t ht => ?_⟩
  rw [Tryd.params4] at ht
  have ht : t = 24 := by simpa using Array.mem_of_getElem? ht
  rcases ht with rfl
  all_goals first | exact (show Tryd.prog.wantsStandIn 24 = false by kernel_rfl) | exact (show Tryd.prog.wantsStandIn 24 = false by kernel_rfl)

theorem card : Rows.KeccakPermutesCardSaid :=
  Claim7.holds_tied_plain_at .later [] _ _ _ _ said (fun _ h => by cases h) (by kernel_rfl) (fun _ h => by cases h) keccakPermutes_row_tie rfl ⟨rfl, rfl⟩ (by kernel_rfl) rfl plain (by kernel_rfl)
end Go.Proofs.YtikkebjhnechdaaDoor.KeccakPermutes
