/- Walk: keccak.Sum. -/
import Derived.Test.YtikkebjhnechdaaDoorKecSum
namespace Go.Mt
def sumB (bs : List (BitVec 8)) : Nat → BitVec 8 := dig (absorb (feed (fun _ => 0) bs).1 (pad (feed (fun _ => 0) bs).2))
@[reducible] def z32 : Array Value := #[.int .u8 0, .int .u8 0, .int .u8 0, .int .u8 0, .int .u8 0, .int .u8 0, .int .u8 0, .int .u8 0, .int .u8 0, .int .u8 0, .int .u8 0, .int .u8 0, .int .u8 0, .int .u8 0, .int .u8 0, .int .u8 0, .int .u8 0, .int .u8 0, .int .u8 0, .int .u8 0, .int .u8 0, .int .u8 0, .int .u8 0, .int .u8 0, .int .u8 0, .int .u8 0, .int .u8 0, .int .u8 0, .int .u8 0, .int .u8 0, .int .u8 0, .int .u8 0]
theorem z32_eq : z32 = arr 32 (ub fun _ => 0) := by kernel_rfl
end Go.Mt
namespace Go.Proofs.YtikkebjhnechdaaDoor
open Go.RowKit Go.Mt

set_option maxRecDepth 100000 in
set_option maxHeartbeats 2000000 in
theorem ksum_any (sp : Option Addr) (n c : Nat) (bs : List (BitVec 8)) (w : World) (hT : Tabs w) (hn : bs.length = n) (hsrc : Src w sp bs) (hsb : ∀ a, sp = some a → a.block < w.heap.size) (hnil : sp = none → c = 0) (hlim : n ≤ 140737488355328) :
    Calls Tryd.prog 14 #[.slice sp n c] w fun e w' => e = .returned (.agg (arr 32 (ub (sumB bs)))) ∧ Below w.heap.size w w' := by
  have infh : ∀ f, (Tryd.prog.info? 27).map (·.size) = some (arr 32 (ub f)).size := fun f => by rw [arr_size]; kernel_rfl
  have hres : (w.alloc (.cells (arr 32 (ub fun _ => 0)) 27)).heap[w.heap.size]? = some (.cells (arr 32 (ub fun _ => 0)) 27 (0, 0)) := at_alloc _ rfl
  have hb1 : Below w.heap.size w (w.alloc (.cells (arr 32 (ub fun _ => 0)) 27)) := (Below.refl _ _).alloc (Nat.le_refl _) _
  obtain ⟨x, hx⟩ : ∃ x, x = sumB bs := ⟨_, rfl⟩
  have Hsum := Lib.hid (show ∀ base v w3, Tabs w3 → w3.heap[w.heap.size + 1]? = some (.cells (hs (feed (fun _ => 0) bs).1 v) 82 (0, 0)) → w3.ownsRow base 5 1 v (feed (fun _ => 0) bs).2.length (bl (feed (fun _ => 0) bs).2) →
      Calls Tryd.prog 20 #[.pointer (some ⟨w.heap.size + 1, 0, none⟩)] w3 fun e w' => e = .returned (.tuple #[.agg (arr 32 (ub x)), .nilIface]) ∧ Below w3.heap.size w3 w' from fun base v w3 h1 h2 h3 => by
    rw [hx]; exact hsum_any (w.heap.size + 1) base _ _ v w3 h1 h2 h3 (feed_short _ _))
  rw [← hx]
  clear hx
  have HT := Lib.hid hT
  clear hT
  go_enter Tryd.func14, Tryd.ntmps14
  go_wp2_with (first | (go_at_call 19; refine (new_any _).mono ?_; rintro e w2 ⟨rfl, hh2, hb2, hs2⟩; have hT2 := HT.out.below (hb1.trans (hb2.mono (by simp))) HT.out.2.2.2; have hsrc2 := hsrc.keep (hb1.trans (hb2.mono (by simp))) hsb; have hsz2 : w2.heap.size = w.heap.size + 2 := (by simpa using hs2); have hh2' : w2.heap[w.heap.size + 1]? = some (.cells (hs (fun _ => 0) (.slice none 0 0)) 82 (0, 0)) := (by simpa using hh2)) | (go_at_call 22; refine (add_any (w.heap.size + 1) (w.heap.size + 2) (fun _ => 0) [] (.slice none 0 0) sp n c bs w2 hT2 hh2' (World.ownsRow_nil _ _ _ _) (by omega) (by omega) (by have := HT.out.2.2.2; omega) hn hsrc2 hnil (by simpa using hlim)).mono ?_; rintro e w3 ⟨rfl, v3, hh3, ho3, _, hk3⟩; rw [List.nil_append] at hh3 ho3; have hb3 := hk3.below (B := w.heap.size + 1) (by omega) (fun k hk h => by rcases h with h | h; (· omega); (· cases h)); have hbw2 := hb1.trans (hb2.mono (by simp)); have hbw3 := hbw2.trans (hb3.mono (Nat.le_succ _)); have hres3 := keep_below hb3 (keep_below hb2 hres (lt_row hres)) (Nat.lt_succ_self _); have hl3 := lt_row hres3) | (go_at_call 20; refine (Hsum.out (w.heap.size + 2) v3 w3 (HT.out.below hbw3 HT.out.2.2.2) hh3 ho3).mono ?_; rintro e w4 ⟨rfl, hb4⟩; have hr5 : (w4.alloc (.cells z32 27)).heap[w4.heap.size]? = some (.cells (arr 32 (ub fun _ => 0)) 27 (0, 0)) := z32_eq ▸ at_alloc _ rfl; have hres4 := keep_below hb4 hres3 hl3) | (refine wpList_store_mid rfl 27 (.tmp 4) (.tmp 13) rfl w4.heap.size 0 (arr 32 (ub x)) rfl rfl (there_row hr5 (by simp)) (infh _) (bytes_one 32 _) ?_; generalize hw6 : (World.setCells _ w4.heap.size 0 (arr 32 (ub x)).toList) = w6; have hr6 : w6.heap[w4.heap.size]? = some (.cells (arr 32 (ub x)) 27 (0, 0)) := hw6 ▸ setCells_all hr5 (arr 32 (ub x)) (by simp); have hb6 : Below w4.heap.size w4 w6 := hw6 ▸ (((Below.refl _ _).alloc (Nat.le_refl _) (.cells z32 27)).trans ((below_only (only_setCells (g := w4.heap.size) (arr 32 (ub x)).toList 0 _ (only_refl (w4.alloc (.cells z32 27)) _)) (Nat.le_refl _) (by simp)).mono (Nat.le_refl _))); have hres6 := keep_below hb6 hres4 (lt_row hres4); clear hw6) | (refine wpList_load_row rfl 27 (.tmp 4) rfl w4.heap.size rfl 27 (arr 32 (ub x)) (0, 0) _ hr6 Tryd.underlying27 rfl (infh _) ?_) | (refine wpList_store_mid rfl 27 (.tmp 2) (.tmp 15) rfl w.heap.size 0 (arr 32 (ub x)) rfl rfl (there_row hres6 (by simp)) (infh _) (bytes_one 32 _) ?_))
  refine bodyPost_ret (results_cell_row (p := 2) (ty := 27) rfl _ _ w.heap.size 27 _ (0, 0) _ rfl (setCells_all hres6 _ (by simp)) Tryd.underlying27 rfl (infh _)) rfl ⟨rfl, ?_⟩
  exact hbw3.trans ((hb4.mono hbw3.size).trans ((hb6.mono (Nat.le_trans hbw3.size hb4.size)).trans (below_only (only_setCells _ _ _ (only_refl _ _)) (Nat.le_refl _) (Nat.le_trans (Nat.le_trans hbw3.size hb4.size) hb6.size))))
end Go.Proofs.YtikkebjhnechdaaDoor
