/- Walk: chi, in the reference's permute. -/
import Derived.Test.YtikkebjhnechdaaDoorRefSmall
import Derived.Test.YtikkebjhnechdaaDoorMtRef
namespace Go.Proofs.YtikkebjhnechdaaDoor
open Go.RowKit Go.Mt

noncomputable def rchiCode : Code := csub (Tryd.f36.body.getD .skip) [1, 0, 1, 0, 0, 1, 0, 0, 1, 1, 1, 0, 1, 0]
set_option maxRecDepth 100000 in
set_option maxHeartbeats 4000000 in
theorem rchi_loop (g : St) (A Cc : Nat) (x0 x1 x2 x4 x5 x6 x7 x8 x10 x11 x12 x13 x14 x15 x16 x18 x19 x20 x21 x22 x23 x24 x25 x26 x27 x28 x29 x30 x31 x32 x33 x34 x35 x36 x37 x38 x39 x40 x41 x42 x43 x44 x45 x46 x47 x48 x49 x50 x51 x52 x53 x54 x55 x56 x57 x58 x59 x60 x61 x62 x63 x64 x65 x66 x67 x68 x69 x70 x71 x72 x73 x74 x75 x76 x77 x78 x79 x80 x81 x82 x83 x84 x85 x86 x87 x88 x89 x90 x91 x92 x93 x94 x95 x96 x97 x98 x99 x100 x101 x102 x103 x104 x105 x106 x107 x108 x109 x110 x111 x112 x113 x114 x115 x116 x117 x118 x119 x120 x121 x122 x123 x124 x125 x126 x127 x128 x129 x130 x131 x132 x133 x134 x135 x136 x137 x138 x139 x140 x141 x142 x143 x144 x145 : Value) (w : World) (Q : Exit → Act → World → Prop) (hQ : ∀ c a d v w, Q (.panic c) (a.put d v) w → Q (.panic c) a w)
    (hCA : Cc ≠ A) (hC : w.heap[Cc]? = some (.cells (arr 25 (uw (bE g))) 24 (0, 0))) (hA : w.heap[A]? = some (.cells (arr 25 (uw (g))) 24 (0, 0)))
    (hexit : ∀ (y17 y18 y99 y100 y101 y102 y103 y104 y105 y106 y107 y108 y109 y110 y111 y112 y113 y114 y115 y116 y117 y118 y119 y120 y121 y122 y123 y124 y125 y126 y127 y128 y129 y130 y131 y132 y133 y134 y135 y136 : Value) (w' : World), w'.heap[A]? = some (.cells (arr 25 (uw (aTo g 25))) 24 (0, 0)) → w.grownBy w' (some A) → Q .normal ⟨#[x0, x1, x2, .pointer (some ⟨A, 0, none⟩), x4, x5, x6, x7, x8, .pointer (some ⟨Cc, 0, none⟩), x10, x11, x12, x13, x14, x15, x16, y17, y18, x19, x20, x21, x22, x23, x24, x25, x26, x27, x28, x29, x30, x31, x32, x33, x34, x35, x36, x37, x38, x39, x40, x41, x42, x43, x44, x45, x46, x47, x48, x49, x50, x51, x52, x53, x54, x55, x56, x57, x58, x59, x60, x61, x62, x63, x64, x65, x66, x67, x68, x69, x70, x71, x72, x73, x74, x75, x76, x77, x78, x79, x80, x81, x82, x83, x84, x85, x86, x87, x88, x89, x90, x91, x92, x93, x94, x95, x96, x97, x98, y99, y100, y101, y102, y103, y104, y105, y106, y107, y108, y109, y110, y111, y112, y113, y114, y115, y116, y117, y118, y119, y120, y121, y122, y123, y124, y125, y126, y127, y128, y129, y130, y131, y132, y133, y134, y135, y136, x137, x138, x139, x140, x141, x142, x143, x144, x145], []⟩ w') :
    Code.wp Tryd.prog (.block 12 rchiCode) Q ⟨#[x0, x1, x2, .pointer (some ⟨A, 0, none⟩), x4, x5, x6, x7, x8, .pointer (some ⟨Cc, 0, none⟩), x10, x11, x12, x13, x14, x15, x16, .int .i64 0, x18, x19, x20, x21, x22, x23, x24, x25, x26, x27, x28, x29, x30, x31, x32, x33, x34, x35, x36, x37, x38, x39, x40, x41, x42, x43, x44, x45, x46, x47, x48, x49, x50, x51, x52, x53, x54, x55, x56, x57, x58, x59, x60, x61, x62, x63, x64, x65, x66, x67, x68, x69, x70, x71, x72, x73, x74, x75, x76, x77, x78, x79, x80, x81, x82, x83, x84, x85, x86, x87, x88, x89, x90, x91, x92, x93, x94, x95, x96, x97, x98, x99, x100, x101, x102, x103, x104, x105, x106, x107, x108, x109, x110, x111, x112, x113, x114, x115, x116, x117, x118, x119, x120, x121, x122, x123, x124, x125, x126, x127, x128, x129, x130, x131, x132, x133, x134, x135, x136, x137, x138, x139, x140, x141, x142, x143, x144, x145], []⟩ w := by
  have hCw := lt_row hC
  conv => arg 2; arg 2; whnf
  go_wp2_with fail
  go_loopw [17] (fun x wr => ∃ k : Nat, k ≤ 5 ∧ x = .int .i64 k ∧ wr.heap[A]? = some (.cells (arr 25 (uw (aTo g (5 * k)))) 24 (0, 0)) ∧ w.grownBy wr (some A)) (fun x _ => 5 - (intOf x).toNat)
  case atStart => exact ⟨0, by omega, rfl, by rw [Nat.mul_zero, aTo_zero]; exact hA, only_refl _ _⟩
  case round =>
    obtain ⟨k, hk, rfl, hAr, hg⟩ := hrel
    clear hA
    have Hg := Lib.hid hg
    clear hg
    by_cases hlt : k < 5
    · clear hexit
      go_wp2_with fail
      obtain ⟨wo, hwo⟩ : ∃ wo : World, wo = wr := ⟨_, rfl⟩
      have Hwo := Lib.hid hwo
      clear hwo
      go_loopw [18] (fun y wq => ∃ j : Nat, j ≤ 5 ∧ y = .int .i64 j ∧ wq.heap[A]? = some (.cells (arr 25 (uw (aTo g (j + 5 * k)))) 24 (0, 0)) ∧ w.grownBy wq (some A)) (fun y _ => 5 - (intOf y).toNat)
      case atStart => exact ⟨0, by omega, rfl, by rw [Nat.zero_add]; exact hAr, Hg.out⟩
      case round =>
        obtain ⟨j, hj, rfl, hAq, hgq⟩ := hrel
        have hCq := (hgq.block Cc hCw (by simp; exact hCA)).trans hC
        have Hgq := Lib.hid hgq
        clear hgq hAr Hg
        by_cases hj5 : j < 5
        · have hc0 := words_of hCq (j + 5 * k) (by omega)
          have hc1 := words_of hCq ((j + 1) % 5 + 5 * k) (by omega)
          have hc2 := words_of hCq ((j + 2) % 5 + 5 * k) (by omega)
          have hca := words_of hAq (j + 5 * k) (by omega)
          have hfr : ∀ j, wr.frozen? ⟨A, j, none⟩ = false := fun j => frozen_of_row _ _ _ _ _ hAq
          have HAq := Lib.hid hAq
          clear hCq hAq
          go_wp2_with (first | (refine MtOrd.wp_region_ord_lit (id := 31) [(0, .head), (1, .head), (2, .head), (3, .head), (4, .head), (5, .head), (6, .head), (7, .head), (8, .head), (9, .head), (10, .head), (11, .head), (12, .head), (13, .head), (14, .head), (15, .head), (16, .head), (17, .head), (18, .head), (19, .head), (20, .head), (21, .head), (22, .head), (23, .head), (24, .head), (25, .head), (26, .head), (27, .head), (28, .head), (29, .head), (30, .loud)] (by kernel_rfl) (by kernel_rfl) (by intro c a d v w h; exact hQ c a d v w h) ?_) | (guard_target = MtOrd.Ord _ _ _ _ _ _ _; first | (refine MtOrd.ord_nil ?_) | (refine MtOrd.ord_head rfl rfl ?_; intro K hK; first | ((fail); refine hK _ ?_; clear hK K) | (go_big_quiet_op; first | (refine hK _ ?_; clear hK K) | (apply Exists.intro; refine ⟨?_, ?_⟩; (fail); refine hK _ ?_; clear hK K))) | (refine MtOrd.ord_free rfl rfl ?_; intro K hK; go_big_quiet_op; (refine hK _ ?_; clear hK K)) | (refine MtOrd.ord_skip rfl rfl ?_) | (refine MtOrd.ord_loud0 rfl rfl ?_; intro K hK)))
          refine ⟨⟨j + 1, by omega, by go_num, ?_, ?_⟩, by simp [intOf]; omega⟩
          · rw [heap_drew, set_words HAq.out, chi_at g hj5, aTo_step, show j + 5 * k + 1 = j + 1 + 5 * k by omega]
          · exact only_drew (only_setCell Hgq.out (.inl rfl) _)
        · obtain rfl : j = 5 := by omega
          go_wp2_with fail
          refine ⟨⟨k + 1, by omega, by go_num, ?_, Hgq.out⟩, by simp [intOf]; omega⟩
          rw [hAq, show 5 + 5 * k = 5 * (k + 1) by omega]
    · obtain rfl : k = 5 := by omega
      go_wp2_with fail
      apply hexit
      · exact hAr
      · exact Hg.out
end Go.Proofs.YtikkebjhnechdaaDoor
