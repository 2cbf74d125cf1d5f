/- The tied card of KeccakApart is proved: for every input that it speaks of the law answers true; the tables are as the program's text lays them. -/
import Derived.Test.YtikkebjhnechdaaDoorMtCardP
import Derived.Test.YtikkebjhnechdaaDoorLawApart
namespace Go.Proofs.YtikkebjhnechdaaDoor.KeccakApart
open Go.ChangeShapes Go.WideShapes Go.ChangeAt Go.RowKit Go.Mt

set_option maxRecDepth 100000 in
theorem contract (H : Type) (enc : TypeId × Value → H) (W : World) (base : Nat) (args : Array Value) (ds gs : List (DataW H)) (before : List MemPlace)
    (hval : ∀ (j : Nat) t v, Tryd.f6.params[j]? = some t → args[j]? = some v → Value.okWide Tryd.prog W .any base t v)
    (hW : DataW.Whole enc Tryd.prog Tryd.f6.params.toList Rows.keccakApartSpec.vars false W args.toList ds gs before)
    (hz : (DataW.weightsEach Tryd.prog (Tryd.f6.params.toList ++ (OpenSpec.ofChange Rows.keccakApartSpec).bare.plain.varTypes Tryd.prog) (ds ++ gs)).all (· ≤ reachBytes) = true) (hcond : Rows.uptoSmall H (ds ++ gs) = true) (hL : laidMetH Tryd.prog Rows.keccakApartUptoRow.laid W) :
    Calls Tryd.prog 6 args W fun e W' => ∃ v, e = .returned v ∧ Rows.keccakApartSpec.post enc Tryd.prog Tryd.f6 false true false false W args v W' := by
  have hW' := hW
  obtain ⟨p, q, hA0, hV, rfl, hfz, hnd⟩ := hW
  have hA : DataW.TrodAll enc Tryd.prog W 0 (fun _ => true) true Tryd.f6.params.toList args.toList ds p := hA0
  rw [Tryd.params6] at hA hval hz
  obtain ⟨v0, vs0, d0, ds0, p0, q0, hargs, rfl, rfl, h0, r0⟩ := trodAll_cons hA
  obtain ⟨v1, vs1, d1, ds1, p1, q1, rfl, rfl, rfl, h1, r1⟩ := trodAll_cons r0
  obtain ⟨rfl, rfl, rfl⟩ := trodAll_nil r1
  obtain rfl : args = #[v0, v1] := by cases args; simp_all
  obtain ⟨rfl, rfl⟩ := trodVars_none hV
  obtain ⟨pp_1, pb_1, po_1, N_1, C_1, SP_1, CP_1, BS_1, rfl, hp1_1, hp2_1, hp3_1, hp4_1, hp5_1, hp6_1, hp7_1, hp8_1⟩ := open_pieces Tryd.underlying36 Tryd.underlying22 Tryd.underlying5 cells22 cells5 (hval 0 36 v0 rfl rfl) h0
  obtain ⟨pp_2, pb_2, po_2, N_2, C_2, SP_2, CP_2, BS_2, rfl, hp1_2, hp2_2, hp3_2, hp4_2, hp5_2, hp6_2, hp7_2, hp8_2⟩ := open_pieces Tryd.underlying36 Tryd.underlying22 Tryd.underlying5 cells22 cells5 (hval 1 36 v1 rfl rfl) h1
  have hsm : Rows.uptoBulkAll ([d0, d1] ++ ([] : List (DataW H))) ≤ 1048576 := of_decide_eq_true hcond
  rw [List.append_nil, Rows.uptoBulkAll, Rows.uptoBulkAll, Rows.uptoBulkAll] at hsm
  refine (apart_law pp_1 pb_1 po_1 N_1 C_1 SP_1 CP_1 BS_1 pp_2 pb_2 po_2 N_2 C_2 SP_2 CP_2 BS_2 W (tabs_of_laid hL) hp1_1 hp2_1 hp3_1 hp4_1 hp5_1 hp6_1 hp7_1 (by omega) hp1_2 hp2_2 hp3_2 hp4_2 hp5_2 hp6_2 hp7_2 (by omega)).mono fun e W' ⟨he, hb⟩ => ?_
  subst he
  refine ⟨_, rfl, law_post laidOut ?_ rfl ⟨rfl, rfl, rfl⟩ rfl Tryd.underlying4 hW' hb⟩
  rw [Tryd.params6]
  intro t ht
  have ht : t = 36 := by simpa using ht
  rcases ht with rfl
  all_goals exact ⟨by kernel_rfl, by decide +kernel⟩

theorem laid_met (os : Os) : laidMet Tryd.prog Rows.keccakApartUptoRow.laid ((laidWorld os).forCall (fun _ _ => 0) ⟨#[], #[.slice none 0 0, .slice none 0 0], []⟩).memory :=
  laidMet_of_run' 8 (by kernel_rfl) (by kernel_rfl)
theorem reads (os : Os) {H : Type} (enc : TypeId × Value → H) : ∃ places, DataW.whole enc Tryd.prog ((laidWorld os).forCall (fun _ _ => 0) ⟨#[], #[.slice none 0 0, .slice none 0 0], []⟩).memory Tryd.f6.params.toList Rows.keccakApartSpec.vars false #[.slice none 0 0, .slice none 0 0].toList 8 = some ([.nil, .nil], [], places) :=
  ⟨[], by kernel_rfl⟩

set_option maxRecDepth 100000 in
theorem lifted (os : Os) (started : os.Started) (H : Type) (enc : TypeId × Value → H) (F : Stop.Interp) :
    ReturnsInHanded {} Tryd.checked os 6 .any ((Rows.OpenSpec.upto Rows.keccakApartSpec).preRow enc Tryd.prog Tryd.f6 Rows.keccakApartUptoRow.domain false Rows.keccakApartUptoRow.laid) (((Rows.OpenSpec.upto Rows.keccakApartSpec).at F).post enc Tryd.prog Tryd.f6 false true false false) := by
  obtain ⟨places, hx⟩ := reads os enc
  refine returnsInHanded_of_row (C := Tryd.checked) (s := Rows.OpenSpec.upto Rows.keccakApartSpec) own started (by kernel_rfl) Tryd.func6
    (witness_row_at (enc := enc) (C := Tryd.checked) false (laidWorld os) #[.slice none 0 0, .slice none 0 0] rfl (by kernel_rfl) (by kernel_rfl) (by kernel_rfl)
      (OpenSpec.preRow_of_cond 8 hx (by kernel_rfl) (fun k hk => by cases hk; kernel_rfl) (by kernel_rfl) (laid_met os))) ?_
  intro W base args ds gs before hval hW _ hcnd hz hL _ _
  exact contract H enc W base args ds gs before hval hW hz (hcnd _ rfl) hL

theorem said : Rows.KeccakApartUptoSaid :=
  OpenClaim.holds_of_cond 6 Tryd.f6 rfl rfl rfl rfl rfl rfl rfl ⟨rfl, rfl, rfl, rfl, rfl⟩ rfl rfl rfl rfl rfl (by kernel_rfl) Tryd.func6 (by kernel_rfl)
    (of_decide_eq_true (by kernel_rfl)) (by unfold Func.isWrapper; first | (rw [if_pos (by decide +kernel)]; kernel_rfl) | (rw [if_neg (by decide +kernel)]; exact ⟨rfl, rfl⟩))
    (fun os started H enc _ F => by rw [OpenClaim.pre_eq_preRow]; exact lifted os started H enc F)

set_option maxRecDepth 100000 in
theorem plain (f : FuncId) (fn : Func) (hf : Tryd.pinned.checked.prog.funcNamed "moot/mootlaw02.KeccakApart" = some f) (hfn : Tryd.pinned.checked.prog.funcs[f]? = some fn) :
    true = Tryd.pinned.checked.prog.looks [] ∧ ∀ (j : Nat) t, fn.params[j]? = some t → Tryd.pinned.checked.prog.wantsStandIn t = false := by
  obtain rfl : f = 6 := Option.some.inj ((show Tryd.prog.funcNamed "moot/mootlaw02.KeccakApart" = some 6 by kernel_rfl).symm.trans hf) |>.symm
  obtain rfl : fn = Tryd.f6 := (Option.some.inj (Tryd.func6.symm.trans hfn)).symm
  refine ⟨by kernel_rfl, fun j t ht => ?_⟩
  rw [Tryd.params6] at ht
  have ht : t = 36 := by simpa using Array.mem_of_getElem? ht
  rcases ht with rfl
  all_goals first | exact (show Tryd.prog.wantsStandIn 36 = false by kernel_rfl) | exact (show Tryd.prog.wantsStandIn 36 = false by kernel_rfl)

theorem card : Rows.KeccakApartUptoCardSaid :=
  Claim7.holds_tied_plain_at .later [] _ _ _ _ said (fun _ h => by cases h) (by kernel_rfl) (fun _ h => by cases h) keccakApartUpto_row_tie rfl ⟨rfl, rfl⟩ (by kernel_rfl) rfl plain (by kernel_rfl)
end Go.Proofs.YtikkebjhnechdaaDoor.KeccakApart
