/- Walk: theta, in the reference's permute. -/
import Derived.Test.YtikkebjhnechdaaDoorRefSmall
import Derived.Test.YtikkebjhnechdaaDoorMtRef
namespace Go.Proofs.YtikkebjhnechdaaDoor
open Go.RowKit Go.Mt

noncomputable def rthetaCode : Code := csub (Tryd.f36.body.getD .skip) [1, 0, 1, 0, 0, 1, 0, 0, 1, 0, 1, 0]
set_option maxRecDepth 100000 in
set_option maxHeartbeats 4000000 in
theorem rtheta_loop (g : St) (A Bb : Nat) (x0 x1 x2 x4 x5 x6 x7 x9 x11 x12 x13 x14 x15 x16 x17 x18 x19 x20 x21 x22 x23 x24 x25 x26 x27 x28 x29 x30 x31 x32 x33 x34 x35 x36 x37 x38 x39 x40 x41 x42 x43 x44 x45 x46 x47 x48 x49 x50 x51 x52 x53 x54 x55 x56 x57 x58 x59 x60 x61 x62 x63 x64 x65 x66 x67 x68 x69 x70 x71 x72 x73 x74 x75 x76 x77 x78 x79 x80 x81 x82 x83 x84 x85 x86 x87 x88 x89 x90 x91 x92 x93 x94 x95 x96 x97 x98 x99 x100 x101 x102 x103 x104 x105 x106 x107 x108 x109 x110 x111 x112 x113 x114 x115 x116 x117 x118 x119 x120 x121 x122 x123 x124 x125 x126 x127 x128 x129 x130 x131 x132 x133 x134 x135 x136 x137 x138 x139 x140 x141 x142 x143 x144 x145 : Value) (w : World) (Q : Exit → Act → World → Prop) (hQ : ∀ c a d v w, Q (.panic c) (a.put d v) w → Q (.panic c) a w)
    (hAB : A ≠ Bb) (hA : w.heap[A]? = some (.cells (arr 25 (uw (g))) 24 (0, 0))) (hB : w.heap[Bb]? = some (.cells (arr 25 (uw (fun _ => 0))) 24 (0, 0)))
    (hexit : ∀ (y10 y11 y12 y13 y14 y23 y24 y25 y26 y27 y28 y29 y30 y31 y32 y33 y34 y35 y36 y37 y38 y39 y40 y41 y42 y43 y44 y45 y46 y47 y48 y49 y50 y51 y52 y53 y54 y55 y56 y57 y58 y59 y60 y61 y62 y63 y64 y65 y66 : Value) (w' : World), w'.heap[Bb]? = some (.cells (arr 25 (uw (thE g))) 24 (0, 0)) → w.grownBy w' (some Bb) → Q .normal ⟨#[x0, x1, x2, .pointer (some ⟨A, 0, none⟩), x4, x5, x6, x7, .pointer (some ⟨Bb, 0, none⟩), x9, y10, y11, y12, y13, y14, x15, x16, x17, x18, x19, x20, x21, x22, y23, y24, y25, y26, y27, y28, y29, y30, y31, y32, y33, y34, y35, y36, y37, y38, y39, y40, y41, y42, y43, y44, y45, y46, y47, y48, y49, y50, y51, y52, y53, y54, y55, y56, y57, y58, y59, y60, y61, y62, y63, y64, y65, y66, x67, x68, x69, x70, x71, x72, x73, x74, x75, x76, x77, x78, x79, x80, x81, x82, x83, x84, x85, x86, x87, x88, x89, x90, x91, x92, x93, x94, x95, x96, x97, x98, x99, x100, x101, x102, x103, x104, x105, x106, x107, x108, x109, x110, x111, x112, x113, x114, x115, x116, x117, x118, x119, x120, x121, x122, x123, x124, x125, x126, x127, x128, x129, x130, x131, x132, x133, x134, x135, x136, x137, x138, x139, x140, x141, x142, x143, x144, x145], []⟩ w') :
    Code.wp Tryd.prog (.block 2 rthetaCode) Q ⟨#[x0, x1, x2, .pointer (some ⟨A, 0, none⟩), x4, x5, x6, x7, .pointer (some ⟨Bb, 0, none⟩), x9, .int .i64 0, x11, x12, x13, x14, x15, x16, x17, x18, x19, x20, x21, x22, x23, x24, x25, x26, x27, x28, x29, x30, x31, x32, x33, x34, x35, x36, x37, x38, x39, x40, x41, x42, x43, x44, x45, x46, x47, x48, x49, x50, x51, x52, x53, x54, x55, x56, x57, x58, x59, x60, x61, x62, x63, x64, x65, x66, x67, x68, x69, x70, x71, x72, x73, x74, x75, x76, x77, x78, x79, x80, x81, x82, x83, x84, x85, x86, x87, x88, x89, x90, x91, x92, x93, x94, x95, x96, x97, x98, x99, x100, x101, x102, x103, x104, x105, x106, x107, x108, x109, x110, x111, x112, x113, x114, x115, x116, x117, x118, x119, x120, x121, x122, x123, x124, x125, x126, x127, x128, x129, x130, x131, x132, x133, x134, x135, x136, x137, x138, x139, x140, x141, x142, x143, x144, x145], []⟩ w := by
  have hAw := lt_row hA
  conv => arg 2; arg 2; whnf
  go_wp2_with fail
  go_loopw [10] (fun x wr => ∃ k : Nat, k ≤ 5 ∧ x = .int .i64 k ∧ wr.heap[Bb]? = some (.cells (arr 25 (uw (bTo g k 0))) 24 (0, 0)) ∧ w.grownBy wr (some Bb)) (fun x _ => 5 - (intOf x).toNat)
  case atStart => exact ⟨0, by omega, rfl, by rw [bTo_zero]; exact hB, only_refl _ _⟩
  case round =>
    obtain ⟨k, hk, rfl, hBr, hg⟩ := hrel
    clear hB
    have Hg := Lib.hid hg
    have hAr := (hg.block A hAw (by simp; exact hAB)).trans hA
    clear hg
    by_cases hlt : k < 5
    · clear hexit
      go_wp2_with fail
      obtain ⟨wo, hwo⟩ : ∃ wo : World, wo = wr := ⟨_, rfl⟩
      have hwr : wr = wo := hwo.symm
      clear hwo
      go_loopw [11, 12, 13] (fun m n y wq => ∃ j : Nat, j ≤ 5 ∧ m = .int .u64 (U (colN g ((k + 4) % 5) j)) ∧ n = .int .u64 (U (colN g ((k + 1) % 5) j)) ∧ y = .int .i64 ((5 * j : Nat) : Int) ∧ wq = wo) (fun _ _ y _ => 25 - (intOf y).toNat)
      case atStart => exact ⟨0, by omega, rfl, rfl, rfl, hwr⟩
      case round =>
        obtain ⟨j, hj, rfl, rfl, rfl, hwq⟩ := hrel
        subst hwq
        by_cases hj5 : j < 5
        · rw [hwr] at hAr
          have hc1 := words_of hAr ((k + 4) % 5 + 5 * j) (by omega)
          have hc2 := words_of hAr ((k + 1) % 5 + 5 * j) (by omega)
          clear hBr Hg hAr
          go_wp2_with fail
          exact ⟨⟨j + 1, by omega, rfl, rfl, by go_num, trivial⟩, by simp [intOf]; omega⟩
        · obtain rfl : j = 5 := by omega
          rw [colN_end, colN_end]
          obtain ⟨m, hm⟩ : ∃ m, m = col g ((k + 4) % 5) := ⟨_, rfl⟩
          obtain ⟨n, hn⟩ : ∃ n, n = col g ((k + 1) % 5) := ⟨_, rfl⟩
          rw [← hm, ← hn]
          have Hm := Lib.hid hm
          have Hn := Lib.hid hn
          rw [hwr] at hAr hBr Hg
          clear hm hn hwr
          go_wp2_with fail
          obtain ⟨wp, hwp⟩ : ∃ wp : World, wp = wr := ⟨_, rfl⟩
          have Hwp := Lib.hid hwp
          clear hwp
          go_loopw [14] (fun y wq => ∃ j : Nat, j ≤ 5 ∧ y = .int .i64 ((5 * j : Nat) : Int) ∧ wq.heap[Bb]? = some (.cells (arr 25 (uw (bTo g k j))) 24 (0, 0)) ∧ w.grownBy wq (some Bb)) (fun y _ => 25 - (intOf y).toNat)
          case atStart => exact ⟨0, by omega, rfl, hBr, Hg.out⟩
          case round =>
            obtain ⟨j, hj, rfl, hBq, hgq⟩ := hrel
            have hAq := (hgq.block A hAw (by simp; exact hAB)).trans hA
            have Hgq := Lib.hid hgq
            clear hgq hBr Hg hAr
            by_cases hj5 : j < 5
            · have hc := words_of hAq (k + 5 * j) (by omega)
              have hcb := words_of hBq (k + 5 * j) (by omega)
              have hfr : ∀ j, wr.frozen? ⟨Bb, j, none⟩ = false := fun j => frozen_of_row _ _ _ _ _ hBq
              have HBq := Lib.hid hBq
              clear hAq hBq
              go_wp2_with (first | (refine MtOrd.wp_region_ord_lit (id := 17) [(0, .head), (1, .head), (2, .head), (3, .head), (4, .head), (5, .head), (6, .head), (7, .head), (8, .head), (9, .head), (10, .head), (11, .head), (12, .head), (13, .head), (14, .loud)] (by kernel_rfl) (by kernel_rfl) (by intro c a d v w h; exact hQ c a d v w h) ?_) | (guard_target = MtOrd.Ord _ _ _ _ _ _ _; first | (refine MtOrd.ord_nil ?_) | (refine MtOrd.ord_head rfl rfl ?_; intro K hK; first | ((fail); refine hK _ ?_; clear hK K) | (go_big_quiet_op; first | (refine hK _ ?_; clear hK K) | (apply Exists.intro; refine ⟨?_, ?_⟩; (go_at_call 50; refine (left_any _ 1 _ (by omega)).mono ?_; rintro e w2 ⟨rfl, rfl⟩; exact ⟨rfl, rfl⟩); refine hK _ ?_; clear hK K))) | (refine MtOrd.ord_free rfl rfl ?_; intro K hK; go_big_quiet_op; (refine hK _ ?_; clear hK K)) | (refine MtOrd.ord_skip rfl rfl ?_) | (refine MtOrd.ord_loud0 rfl rfl ?_; intro K hK)))
              refine ⟨⟨j + 1, by omega, by go_num, ?_, ?_⟩, by simp [intOf]; omega⟩
              · rw [heap_drew, set_words HBq.out, Hm.out, Hn.out, bTo_step g hlt]
              · exact only_drew (only_setCell Hgq.out (.inl rfl) _)
            · obtain rfl : j = 5 := by omega
              go_wp2_with fail
              refine ⟨⟨k + 1, by omega, by go_num, ?_, Hgq.out⟩, by simp [intOf]; omega⟩
              rw [hBq, words_ext fun i hi => bTo_next g k i hi]
    · obtain rfl : k = 5 := by omega
      go_wp2_with fail
      apply hexit
      · rw [hBr, words_ext fun i _ => bTo_end g i]
      · exact Hg.out
end Go.Proofs.YtikkebjhnechdaaDoor
