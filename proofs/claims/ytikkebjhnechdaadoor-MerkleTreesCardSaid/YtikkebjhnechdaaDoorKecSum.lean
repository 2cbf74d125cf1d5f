/- Walk: Hasher.Sum, keccak.Sum. -/
import Derived.Test.YtikkebjhnechdaaDoorKecAdd
import Derived.Test.YtikkebjhnechdaaDoorKecDig
import Derived.Laws.ResultCell
import Derived.Laws.MakeOwn
namespace Go.Mt
/-- The last piece. -/
def pad0 (xs : List (BitVec 8)) (j : Nat) : BitVec 8 := if j < xs.length then xs.getD j 0 else 0
def pad1 (xs : List (BitVec 8)) : Nat → BitVec 8 := upd (pad0 xs) xs.length (pad0 xs xs.length ^^^ 1#8)
def pad (xs : List (BitVec 8)) : Nat → BitVec 8 := upd (pad1 xs) 135 (pad1 xs 135 ^^^ 128#8)
theorem pad_row (xs : List (BitVec 8)) (h : xs.length ≤ 136) : (splice (arr 136 (ub fun _ => 0)).toList 0 (bl xs)).toArray = arr 136 (ub (pad0 xs)) := by
  apply Array.ext_getElem?
  intro i
  rw [List.getElem?_toArray, arr_get]
  unfold splice
  rw [List.take_zero, List.nil_append, Nat.zero_add, bl_length]
  by_cases hi : i < xs.length
  · rw [List.getElem?_append_left (by simpa using hi), bl_get _ _ hi, if_pos (by omega)]
    unfold ub pad0; rw [if_pos hi]
  · rw [List.getElem?_append_right (by simp; omega), bl_length, List.getElem?_drop, show xs.length + (i - xs.length) = i by omega, Array.getElem?_toList, arr_get]
    unfold ub pad0; rw [if_neg hi]
@[go_sem] theorem bits_xor_B1 (x : BitVec 8) : bits .xor .u8 (B x) 1 = B (x ^^^ 1#8) := by
  have h : ∀ x : BitVec 8, bits .xor .u8 (B x) 1 = B (x ^^^ 1#8) := by decide +kernel
  exact h x
@[go_sem] theorem bits_xor_B128 (x : BitVec 8) : bits .xor .u8 (B x) 128 = B (x ^^^ 128#8) := by
  have h : ∀ x : BitVec 8, bits .xor .u8 (B x) 128 = B (x ^^^ 128#8) := by decide +kernel
  exact h x
theorem results_row_tmp {P : Program} {fn : Func} {p u : Tmp} {ty : TypeId} (h : fn.results = #[.cell p ty, .tmp u]) (tmps : Array Value) (w : World) (g : Nat) (t : TypeId) (cs : Array Value) (fr : Nat × Nat) (d : TypeDesc)
    (hp : tmps.getD p undef = .pointer (some ⟨g, 0, none⟩)) (hg : w.heap[g]? = some (.cells cs t fr))
    (hu : P.underlying ty = some d) (hd : (match d with | .struct _ | .array _ _ => true | _ => false) = true) (hi : (P.info? ty).map (·.size) = some cs.size) :
    (results fn tmps).run P w = .ok (.tuple #[.agg cs, tmps.getD u undef]) w := by
  rw [results_cell_tmp h, hp]
  simp [asAddr, run_loadVar_row w g t ty cs fr d hg hu hd hi]
end Go.Mt
namespace Go.Proofs.YtikkebjhnechdaaDoor
open Go.RowKit Go.Mt

set_option maxRecDepth 100000 in
set_option maxHeartbeats 2000000 in
theorem hsum_any (g base : Nat) (f : St) (xs : List (BitVec 8)) (v : Value) (w : World) (hT : Tabs w)
    (hg : w.heap[g]? = some (.cells (hs f v) 82 (0, 0))) (hv : w.ownsRow base 5 1 v xs.length (bl xs)) (hlen : xs.length < 136) :
    Calls Tryd.prog 20 #[.pointer (some ⟨g, 0, none⟩)] w fun e w' => e = .returned (.tuple #[.agg (arr 32 (ub (dig (absorb f (pad xs))))), .nilIface]) ∧ Below w.heap.size w w' := by
  have hr := hs_rest hg
  have hgl := lt_row hg
  obtain ⟨sv, cv, rfl, hvs, hvn, hvc, hva⟩ := src_own hv
  have hmk : ∀ w0 : World, (Instr.makeSlice 22 (.int .i64 136) (.int .i64 136)).run Tryd.prog w0 = .ok (.slice (some ⟨w0.heap.size, 0, none⟩) 136 136) (w0.alloc (.cells (arr 136 (ub fun _ => 0)) 5)) := fun w0 => by
    have := run_make (P := Tryd.prog) w0 22 5 Tryd.t5 (.int .u8 0) Tryd.underlying22 (by kernel_rfl) (by kernel_rfl) .i64 .i64 136 136 (by decide) (by decide) (by decide) (by decide)
    rw [this]
    have e : madeCells (Value.int .u8 0).cells ((136 : Int).toNat * Tryd.t5.size) = arr 136 (ub fun _ => 0) := by kernel_rfl
    rw [e]; rfl
  go_enter Tryd.func20, Tryd.ntmps20
  have hrow : ((w.alloc (.cells (arr 32 (ub fun _ => 0)) 27)).alloc (.cells (arr 136 (ub fun _ => 0)) 5)).heap[w.heap.size + 1]? = some (.cells (arr 136 (ub fun _ => 0)).toList.toArray 5 (0, 0)) := by
    rw [Array.toArray_toList]; exact at_alloc _ (by simp)
  have hres : ((w.alloc (.cells (arr 32 (ub fun _ => 0)) 27)).alloc (.cells (arr 136 (ub fun _ => 0)) 5)).heap[w.heap.size]? = some (.cells (arr 32 (ub fun _ => 0)) 27 (0, 0)) := keep_alloc (at_alloc _ rfl) _
  have hb1 : Below w.heap.size w ((w.alloc (.cells (arr 32 (ub fun _ => 0)) 27)).alloc (.cells (arr 136 (ub fun _ => 0)) 5)) := ((Below.refl _ _).alloc (Nat.le_refl _) _).alloc (by simp) _
  have hsrc := hvs.keep hb1 (fun a ha => by obtain ⟨k, rfl, _, hk⟩ := hva a ha; exact hk)
  have hgA := keep_alloc (keep_alloc hg (.cells (arr 32 (ub fun _ => 0)) 27)) (.cells (arr 136 (ub fun _ => 0)) 5)
  have hn : (bl xs).length = Nat.min xs.length 136 := by rw [bl_length]; exact (Nat.min_eq_left (by omega)).symm
  have inf24 : (Tryd.prog.info? 24).map (·.size) = some 25 := by kernel_rfl
  have inf : ∀ f, (Tryd.prog.info? 24).map (·.size) = some (arr 25 (uw f)).toList.length := fun f => by rw [inf24]; simp
  have infh : ∀ f, (Tryd.prog.info? 27).map (·.size) = some (arr 32 (ub f)).size := fun f => by rw [arr_size]; kernel_rfl
  obtain ⟨fa, hfa⟩ : ∃ fa, fa = absorb f (pad xs) := ⟨_, rfl⟩
  rw [← hfa]
  have Hfa := Lib.hid hfa
  clear hfa
  have HT := Lib.hid hT
  clear hT
  go_wp2_with (first | (refine wpList_copy_splice rfl (.tmp 10) (.tmp 14) 22 22 rfl 5 Tryd.underlying22 (by kernel_rfl) (some ⟨w.heap.size + 1, 0, none⟩) sv 136 136 xs.length cv rfl rfl (w.heap.size + 1) 0 (arr 136 (ub fun _ => 0)).toList 5 hrow (bl xs) hn (fun h0 => ⟨rfl, hsrc (by simpa using h0)⟩) (by simp; omega) (bl_one xs) (w.heap.size + 1) _ (Below.refl _ _) (Nat.le_refl _) ?_; intro w2 hg2 hb2; have hp2 := hg2.out; rw [pad_row xs (by omega)] at hp2; clear hg2; have hA2 := keep_below hb2 hgA (by omega); have hr2 := hs_rest hA2; have hres2 := keep_below hb2 hres (Nat.lt_succ_self _); have hcl := bytes_of hp2 xs.length (by omega); have hc135 := bytes_of hp2 135 (by omega); have hp3 := set_bytes hp2 xs.length (pad0 xs xs.length ^^^ 1#8); have hc3 := bytes_of hp3 135 (by omega); have hfr3 := (fun j => frozen_of_row _ (w.heap.size + 1) j _ _ hp3); have hp4 := set_bytes hp3 135 (upd (pad0 xs) xs.length (pad0 xs xs.length ^^^ 1#8) 135 ^^^ 128#8); have hfr2 : ∀ j, w2.frozen? ⟨w.heap.size + 1, j, none⟩ = false := (fun j => frozen_of_row _ _ _ _ _ hp2); have hb4 := (hb2.setCell (p := ⟨w.heap.size + 1, xs.length, none⟩) (Nat.le_refl _) (.int .u8 (B (pad0 xs xs.length ^^^ 1#8)))).setCell (p := ⟨w.heap.size + 1, 135, none⟩) (Nat.le_refl _) (.int .u8 (B (upd (pad0 xs) xs.length (pad0 xs xs.length ^^^ 1#8) 135 ^^^ 128#8))); have hA4 := keep_below hb4 hgA (by omega); have hres4 := keep_below hb4 hres (Nat.lt_succ_self _); have hbw4 := hb1.trans (hb4.mono (Nat.le_succ _))) | (refine wpList_load_mid rfl 24 (.tmp 33) rfl g 0 rfl (arr 25 (uw f)).toList _ (hs_range hA4) Tryd.underlying24 rfl (inf f) ?_) | (go_at_call 40; refine (absorbed_any f (pad xs) (w.heap.size + 1) 0 136 136 _ (HT.out.below hbw4 HT.out.2.2.2) (by omega) (by omega) (by omega) (fun j hj => by rw [Nat.zero_add]; exact bytes_of hp4 j hj)).mono ?_; rintro e w5 ⟨rfl, hb5⟩; rw [← Hfa.out]) | (go_at_call 39; refine (digest_any fa _).mono ?_; rintro e w6 ⟨rfl, hb6⟩; have hres6 := keep_below hb6 (keep_below hb5 hres4 (lt_row hres4)) (lt_row (keep_below hb5 hres4 (lt_row hres4)))) | (refine wpList_store_mid rfl 27 (.tmp 2) (.tmp 37) rfl w.heap.size 0 (arr 32 (ub (dig fa))) rfl rfl (there_row hres6 (by simp)) (infh _) (bytes_one 32 _) ?_))
  refine bodyPost_ret (results_row_tmp (u := 3) rfl _ _ w.heap.size 27 _ (0, 0) _ rfl (setCells_all hres6 _ (by simp)) Tryd.underlying27 rfl (infh _)) rfl ⟨rfl, ?_⟩
  exact hbw4.trans ((hb5.mono hbw4.size).trans ((hb6.mono (Nat.le_trans hbw4.size hb5.size)).trans (below_only (only_setCells _ _ _ (only_refl _ _)) (Nat.le_refl _) (Nat.le_trans (Nat.le_trans hbw4.size hb5.size) hb6.size))))
end Go.Proofs.YtikkebjhnechdaaDoor
