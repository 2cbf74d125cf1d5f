/- Walk: mootlaw05.hashes. -/
import Derived.Test.YtikkebjhnechdaaDoorMerNew
import Derived.Test.YtikkebjhnechdaaDoorMtPad
namespace Go.Mt
open Go.RowKit
def firstL (F : Nat → Dg) (n : Nat) : List Dg := (List.range n).map F
@[simp] theorem firstL_length (F : Nat → Dg) (n : Nat) : (firstL F n).length = n := by simp [firstL]
theorem firstL_succ (F : Nat → Dg) (n : Nat) : firstL F (n + 1) = firstL F n ++ [F n] := by unfold firstL; rw [List.range_succ, List.map_append]; rfl
/-- The digests of a slice that came in. -/
def DgsAt (w : World) (b o n : Nat) (F : Nat → Dg) : Prop := ∀ k, k < n → w.rangeAt b (o + k * 32) (arr 32 (ub (F k))).toList
end Go.Mt
namespace Go.Proofs.YtikkebjhnechdaaDoor
open Go.RowKit Go.Mt
theorem infH (f : Nat → BitVec 8) : (Tryd.prog.info? 27).map (·.size) = some (arr 32 (ub f)).size := by rw [arr_size]; kernel_rfl
theorem infH' (f : Nat → BitVec 8) : (Tryd.prog.info? 27).map (·.size) = some (arr 32 (ub f)).toList.length := by rw [Array.length_toList]; exact infH f
theorem infB (f : Nat → BitVec 8) : (Tryd.prog.info? 26).map (·.size) = some (arr 32 (ub f)).size := by rw [arr_size]; kernel_rfl
theorem infB' (f : Nat → BitVec 8) : (Tryd.prog.info? 26).map (·.size) = some (arr 32 (ub f)).toList.length := by rw [Array.length_toList]; exact infB f
theorem z32_size (f : Nat → BitVec 8) : (arr 32 (ub f)).size = z32.size := by rw [arr_size]; kernel_rfl
section
variable {w : World} {ops : Array Oper} {rest : List Oper} {o : Oper} {a : Act} {Q : Exit → Act → World → Prop}
/-- A slice of one digest, made. -/
theorem build1H (hg : o.guard = none) (x : Operand) (ho : o.op = .buildSlice 50 1 #[(0, x)]) (f : Nat → BitVec 8) (hx : a.eval x = .agg (arr 32 (ub f))) (N : Nat) (hN : w.heap.size = N)
    (h : wpList Tryd.prog ops Q rest (a.put o.dst (.slice (some ⟨N, 0, none⟩) 1 1)) (w.alloc (.cells (arr 32 (ub f)) 27))) : wpList Tryd.prog ops Q (o :: rest) a w := by
  subst hN
  exact wpList_build1 hg 50 27 x ho (arr 32 (ub f)) Tryd.t27 (.agg z32) Tryd.underlying50 (by kernel_rfl) (by kernel_rfl) (by rw [arr_size]; kernel_rfl) (by rw [arr_size]; decide) (by rw [arr_size]; decide) hx h
theorem appendH (hgd : o.guard = none) (s x : Operand) (ho : o.op = .call { callee := .builtin .append, args := #[s, x], argTypes := #[50, 50] })
    (base : Nat) (v : Value) (ds : List Dg) (d : Dg) (hs : a.eval s = v) (hown : w.ownsRow base 27 32 v ds.length (dl ds))
    (ad : Addr) (c : Nat) (hx : a.eval x = .slice (some ad) 1 c) (hsrc : ∀ j, j < 32 → w.cell? (ad.add j) = some (.int .u8 (B (d j)))) (hlim : ds.length < 4398046511104) (hbase : base ≤ w.heap.size)
    (h : ∀ v' w', w'.ownsRow base 27 32 v' (ds ++ [d]).length (dl (ds ++ [d])) → Keeps (fun k => v.ownBlock = some k) w w' → (v'.ownBlock = v.ownBlock ∨ v'.ownBlock = some w.heap.size) → wpList Tryd.prog ops Q rest (a.put o.dst v') w') :
    wpList Tryd.prog ops Q (o :: rest) a w :=
  wpList_append_dg hgd s x 50 ho base 27 Tryd.t27 (.agg z32) Tryd.underlying50 (by kernel_rfl) (by kernel_rfl) (by kernel_rfl) (by kernel_rfl) (by kernel_rfl) v ds d hs hown ad c hx hsrc hlim hbase h
end
/-- The cells of a row just made. -/
theorem src_new (w : World) (f : Nat → BitVec 8) (t : TypeId) : ∀ j, j < 32 → (w.alloc (.cells (arr 32 (ub f)) t)).cell? ((⟨w.heap.size, 0, none⟩ : Addr).add j) = some (.int .u8 (B (f j))) := fun j hj => by
  have := bytes_of (at_alloc (w := w) (.cells (arr 32 (ub f)) t (0, 0)) rfl) j hj
  rw [Addr.add_mid, Nat.zero_add]; exact this

set_option maxRecDepth 100000 in
set_option maxHeartbeats 400000 in
theorem hashes_any (pp : Option Addr) (pb po N C : Nat) (F : Nat → Dg) (w : World) (hpp : 0 < N → pp = some ⟨pb, po, none⟩) (hpb : 0 < N → pb < w.heap.size) (hF : DgsAt w pb po N F) (hN : N ≤ 4398046511104) :
    Calls Tryd.prog 23 #[.slice pp N C] w fun e w' => ∃ v, e = .returned v ∧ w'.ownsRow w.heap.size 27 32 v N (dl (firstL F N)) ∧ Below w.heap.size w w' := by
  have HF := Lib.hid hF
  clear hF
  go_enter Tryd.func23, Tryd.ntmps23
  go_wp2_with fail
  go_loopw [3, 8] (fun v x wr => ∃ k : Nat, k ≤ N ∧ x = .int .i64 k ∧ wr.ownsRow w.heap.size 27 32 v (firstL F k).length (dl (firstL F k)) ∧ Below w.heap.size w wr) (fun _ x _ => N - (intOf x).toNat)
  case atStart => exact ⟨0, by omega, rfl, World.ownsRow_nil _ _ _ _, Below.refl _ _⟩
  case round =>
    obtain ⟨k, hk, rfl, ho, hb⟩ := hrel
    obtain ⟨v, rfl⟩ : ∃ v, v = u3 := ⟨_, rfl⟩
    by_cases hlt : k < N
    · obtain rfl := hpp (by omega)
      have hpw := hpb (by omega)
      have hsz := hb.size
      obtain ⟨f, hf⟩ : ∃ f, f = F k := ⟨_, rfl⟩
      have hrg : wr.rangeAt pb (po + k * 32) (arr 32 (ub f)).toList := fun j u hu => by
        rw [hb.cell (p := ⟨pb, po + k * 32 + j, none⟩) hpw]; rw [hf] at hu; exact HF.out k hlt j u hu
      have hnx : firstL F (k + 1) = firstL F k ++ [f] := by rw [hf]; exact firstL_succ F k
      have Hnx := Lib.hid hnx
      have hsc := src_new (wr.alloc (.cells (arr 32 (ub f)) 26)) f 27
      rw [show (wr.alloc (.cells (arr 32 (ub f)) 26)).heap.size = wr.heap.size + 1 by simp] at hsc
      have ho2 : ((wr.alloc (.cells (arr 32 (ub f)) 26)).alloc (.cells (arr 32 (ub f)) 27)).ownsRow w.heap.size 27 32 v (firstL F k).length (dl (firstL F k)) := (ho.alloc _).alloc _
      have hb2 : Below w.heap.size w ((wr.alloc (.cells (arr 32 (ub f)) 26)).alloc (.cells (arr 32 (ub f)) 27)) := (hb.alloc hsz _).alloc (by simp; omega) _
      have hs2 : w.heap.size ≤ ((wr.alloc (.cells (arr 32 (ub f)) 26)).alloc (.cells (arr 32 (ub f)) 27)).heap.size := hb2.size
      have hlim : (firstL F k).length < 4398046511104 := by rw [firstL_length]; omega
      have Hb2 := Lib.hid hb2
      have Hs2 := Lib.hid hs2
      have Hsc := Lib.hid hsc
      clear hf hnx hb ho hb2 hs2 hsc
      go_wp2_with (first
        | (guard_target = wpList _ _ _ (⟨_, Op.load _ (.tmp 10), _, _, _, _⟩ :: _) _ _; refine wpList_load_arr rfl 26 (.tmp 10) rfl pb (po + k * 32) rfl (arr 32 (ub f)) _ hrg Tryd.underlying26 rfl (infB' _) ?_; clear hrg)
        | (guard_target = wpList _ _ _ (⟨_, Op.load _ (.tmp 5), _, _, _, _⟩ :: _) _ _; refine wpList_load_row rfl 26 (.tmp 5) rfl wr.heap.size rfl 26 (arr 32 (ub f)) (0, 0) _ hA Tryd.underlying26 rfl (infB _) ?_; clear hA)
        | (guard_target = wpList _ _ _ (⟨_, Op.store _ (.tmp 5) _, _, _, _, _⟩ :: _) _ _; refine wpList_store_new rfl 26 (.tmp 5) (.tmp 11) rfl wr.heap.size _ (arr 32 (ub f)) 26 rfl rfl rfl (z32_size _) (infB _) (bytes_one 32 _) ?_; have hA : (wr.alloc (.cells (arr 32 (ub f)) 26)).heap[wr.heap.size]? = some (.cells (arr 32 (ub f)) 26 (0, 0)) := at_alloc _ rfl)
        | (guard_target = wpList _ _ _ (⟨_, Op.buildSlice _ _ _, _, _, _, _⟩ :: _) _ _; refine build1H rfl (.tmp 13) rfl f rfl (wr.heap.size + 1) (by simp) ?_)
        | (at_builtin; (refine appendH rfl (.tmp 12) (.tmp 14) rfl w.heap.size v (firstL F k) f rfl ho2 ⟨wr.heap.size + 1, 0, none⟩ 1 rfl Hsc.out hlim Hs2.out ?_; intro v' w1 hv1 hk1 hat1; rw [← Hnx.out] at hv1; have hb1 : Below w.heap.size w w1 := Hb2.out.trans (hk1.below Hs2.out (fun q hq h => by have := ho2.lt q h; omega)); clear hk1 hat1)))
      exact ⟨⟨k + 1, by omega, by go_num, hv1, hb1⟩, by simp [intOf]; omega⟩
    · obtain rfl : k = N := by omega
      rw [firstL_length] at ho
      go_wp2_with fail
      exact bodyPost_ret (results_tmp (t := 2) rfl _ _ _) rfl ⟨_, rfl, ho, hb⟩
end Go.Proofs.YtikkebjhnechdaaDoor
