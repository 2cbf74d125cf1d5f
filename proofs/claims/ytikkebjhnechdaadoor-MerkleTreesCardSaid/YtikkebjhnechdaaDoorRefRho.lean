/- Walk: rho and pi, in the reference's permute. -/
import Derived.Test.YtikkebjhnechdaaDoorRefSmall
import Derived.Test.YtikkebjhnechdaaDoorMtRef
namespace Go.Proofs.YtikkebjhnechdaaDoor
open Go.RowKit Go.Mt

noncomputable def rrhoCode : Code := csub (Tryd.f36.body.getD .skip) [1, 0, 1, 0, 0, 1, 0, 0, 1, 1, 0, 1, 0]
set_option maxRecDepth 100000 in
set_option maxHeartbeats 4000000 in
theorem rrho_loop (g : St) (T Bb Cc : Nat) (x0 x1 x3 x4 x5 x6 x7 x10 x11 x12 x13 x14 x16 x17 x18 x19 x20 x21 x22 x23 x24 x25 x26 x27 x28 x29 x30 x31 x32 x33 x34 x35 x36 x37 x38 x39 x40 x41 x42 x43 x44 x45 x46 x47 x48 x49 x50 x51 x52 x53 x54 x55 x56 x57 x58 x59 x60 x61 x62 x63 x64 x65 x66 x67 x68 x69 x70 x71 x72 x73 x74 x75 x76 x77 x78 x79 x80 x81 x82 x83 x84 x85 x86 x87 x88 x89 x90 x91 x92 x93 x94 x95 x96 x97 x98 x99 x100 x101 x102 x103 x104 x105 x106 x107 x108 x109 x110 x111 x112 x113 x114 x115 x116 x117 x118 x119 x120 x121 x122 x123 x124 x125 x126 x127 x128 x129 x130 x131 x132 x133 x134 x135 x136 x137 x138 x139 x140 x141 x142 x143 x144 x145 : Value) (w : World) (Q : Exit → Act → World → Prop) (hQ : ∀ c a d v w, Q (.panic c) (a.put d v) w → Q (.panic c) a w)
    (hBC : Bb ≠ Cc) (hTC : T ≠ Cc) (hT : w.heap[T]? = some (.cells (arr 25 fun i => .int .i64 (turnsOf.getD i 0 : Nat)) 3 (0, 0))) (hB : w.heap[Bb]? = some (.cells (arr 25 (uw (thE g))) 24 (0, 0))) (hC : w.heap[Cc]? = some (.cells (arr 25 (uw (fun _ => 0))) 24 (0, 0)))
    (hexit : ∀ (y15 y16 y67 y68 y69 y70 y71 y72 y73 y74 y75 y76 y77 y78 y79 y80 y81 y82 y83 y84 y85 y86 y87 y88 y89 y90 y91 y92 y93 y94 y95 y96 y97 y98 : Value) (w' : World), w'.heap[Cc]? = some (.cells (arr 25 (uw (bE g))) 24 (0, 0)) → w.grownBy w' (some Cc) → Q .normal ⟨#[x0, x1, .slice (some ⟨T, 0, none⟩) 25 25, x3, x4, x5, x6, x7, .pointer (some ⟨Bb, 0, none⟩), .pointer (some ⟨Cc, 0, none⟩), x10, x11, x12, x13, x14, y15, y16, x17, x18, x19, x20, x21, x22, x23, x24, x25, x26, x27, x28, x29, x30, x31, x32, x33, x34, x35, x36, x37, x38, x39, x40, x41, x42, x43, x44, x45, x46, x47, x48, x49, x50, x51, x52, x53, x54, x55, x56, x57, x58, x59, x60, x61, x62, x63, x64, x65, x66, y67, y68, y69, y70, y71, y72, y73, y74, y75, y76, y77, y78, y79, y80, y81, y82, y83, y84, y85, y86, y87, y88, y89, y90, y91, y92, y93, y94, y95, y96, y97, y98, x99, x100, x101, x102, x103, x104, x105, x106, x107, x108, x109, x110, x111, x112, x113, x114, x115, x116, x117, x118, x119, x120, x121, x122, x123, x124, x125, x126, x127, x128, x129, x130, x131, x132, x133, x134, x135, x136, x137, x138, x139, x140, x141, x142, x143, x144, x145], []⟩ w') :
    Code.wp Tryd.prog (.block 8 rrhoCode) Q ⟨#[x0, x1, .slice (some ⟨T, 0, none⟩) 25 25, x3, x4, x5, x6, x7, .pointer (some ⟨Bb, 0, none⟩), .pointer (some ⟨Cc, 0, none⟩), x10, x11, x12, x13, x14, .int .i64 0, x16, x17, x18, x19, x20, x21, x22, x23, x24, x25, x26, x27, x28, x29, x30, x31, x32, x33, x34, x35, x36, x37, x38, x39, x40, x41, x42, x43, x44, x45, x46, x47, x48, x49, x50, x51, x52, x53, x54, x55, x56, x57, x58, x59, x60, x61, x62, x63, x64, x65, x66, x67, x68, x69, x70, x71, x72, x73, x74, x75, x76, x77, x78, x79, x80, x81, x82, x83, x84, x85, x86, x87, x88, x89, x90, x91, x92, x93, x94, x95, x96, x97, x98, x99, x100, x101, x102, x103, x104, x105, x106, x107, x108, x109, x110, x111, x112, x113, x114, x115, x116, x117, x118, x119, x120, x121, x122, x123, x124, x125, x126, x127, x128, x129, x130, x131, x132, x133, x134, x135, x136, x137, x138, x139, x140, x141, x142, x143, x144, x145], []⟩ w := by
  have hBw := lt_row hB
  have hTw := lt_row hT
  conv => arg 2; arg 2; whnf
  go_wp2_with fail
  go_loopw [15] (fun x wr => ∃ k : Nat, k ≤ 5 ∧ x = .int .i64 k ∧ wr.heap[Cc]? = some (.cells (arr 25 (uw (cTo g k 0))) 24 (0, 0)) ∧ w.grownBy wr (some Cc)) (fun x _ => 5 - (intOf x).toNat)
  case atStart => exact ⟨0, by omega, rfl, by rw [cTo_zero]; exact hC, only_refl _ _⟩
  case round =>
    obtain ⟨k, hk, rfl, hCr, hg⟩ := hrel
    clear hC
    have Hg := Lib.hid hg
    clear hg
    by_cases hlt : k < 5
    · clear hexit
      go_wp2_with fail
      obtain ⟨wo, hwo⟩ : ∃ wo : World, wo = wr := ⟨_, rfl⟩
      have Hwo := Lib.hid hwo
      clear hwo
      go_loopw [16] (fun y wq => ∃ j : Nat, j ≤ 5 ∧ y = .int .i64 j ∧ wq.heap[Cc]? = some (.cells (arr 25 (uw (cTo g k j))) 24 (0, 0)) ∧ w.grownBy wq (some Cc)) (fun y _ => 5 - (intOf y).toNat)
      case atStart => exact ⟨0, by omega, rfl, hCr, Hg.out⟩
      case round =>
        obtain ⟨j, hj, rfl, hCq, hgq⟩ := hrel
        have hBq := (hgq.block Bb hBw (by simp; exact hBC)).trans hB
        have hTq := (hgq.block T hTw (by simp; exact hTC)).trans hT
        have Hgq := Lib.hid hgq
        clear hgq hCr Hg
        by_cases hj5 : j < 5
        · have hc := words_of hBq (k + 5 * j) (by omega)
          have ht := cells_of hTq (k + 5 * j) (by omega)
          have hto := turnsOf_lt (k + 5 * j)
          obtain ⟨tn, htn⟩ : ∃ tn, tn = turnsOf.getD (k + 5 * j) 0 := ⟨_, rfl⟩
          rw [← htn] at ht hto
          have Htn := Lib.hid htn
          have hcb := words_of hCq (j + 5 * ((2 * k + 3 * j) % 5)) (by omega)
          have hfr : ∀ j, wr.frozen? ⟨Cc, j, none⟩ = false := fun j => frozen_of_row _ _ _ _ _ hCq
          have HCq := Lib.hid hCq
          clear hBq hCq hTq htn
          go_wp2_with (first | (refine MtOrd.wp_region_ord_lit (id := 24) [(0, .head), (1, .head), (2, .head), (3, .head), (4, .head), (5, .head), (6, .head), (7, .head), (8, .head), (9, .head), (10, .head), (11, .head), (12, .head), (13, .head), (14, .head), (15, .head), (16, .head), (17, .head), (18, .head), (19, .head), (20, .head), (21, .head), (22, .head), (23, .head), (24, .loud)] (by kernel_rfl) (by kernel_rfl) (by intro c a d v w h; exact hQ c a d v w h) ?_) | (guard_target = MtOrd.Ord _ _ _ _ _ _ _; first | (refine MtOrd.ord_nil ?_) | (refine MtOrd.ord_head rfl rfl ?_; intro K hK; first | ((fail); refine hK _ ?_; clear hK K) | (go_big_quiet_op; first | (refine hK _ ?_; clear hK K) | (apply Exists.intro; refine ⟨?_, ?_⟩; (go_at_call 50; refine (left_any _ tn _ (by omega)).mono ?_; rintro e w2 ⟨rfl, rfl⟩; exact ⟨rfl, rfl⟩); refine hK _ ?_; clear hK K))) | (refine MtOrd.ord_free rfl rfl ?_; intro K hK; go_big_quiet_op; (refine hK _ ?_; clear hK K)) | (refine MtOrd.ord_skip rfl rfl ?_) | (refine MtOrd.ord_loud0 rfl rfl ?_; intro K hK)))
          refine ⟨⟨j + 1, by omega, by go_num, ?_, ?_⟩, by simp [intOf]; omega⟩
          · rw [heap_drew, set_words HCq.out, Htn.out, ← toPlace_eq hlt, words_ext fun i hi => cTo_step g hlt hj5 i hi]
          · exact only_drew (only_setCell Hgq.out (.inl rfl) _)
        · obtain rfl : j = 5 := by omega
          go_wp2_with fail
          refine ⟨⟨k + 1, by omega, by go_num, ?_, Hgq.out⟩, by simp [intOf]; omega⟩
          rw [hCq, words_ext fun i _ => cTo_next g k i]
    · obtain rfl : k = 5 := by omega
      go_wp2_with fail
      apply hexit
      · rw [hCr, words_ext fun i _ => cTo_end g i]
      · exact Hg.out
end Go.Proofs.YtikkebjhnechdaaDoor
