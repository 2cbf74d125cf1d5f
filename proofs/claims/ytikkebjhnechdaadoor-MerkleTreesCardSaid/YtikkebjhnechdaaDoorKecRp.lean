/- Walk: the middle loop of keccak.Permute (rho and pi). -/
import Derived.Test.YtikkebjhnechdaaDoorKecRot
import Derived.Test.YtikkebjhnechdaaDoorMtKec
import Derived.Deep.MidRow
namespace Go.Proofs.YtikkebjhnechdaaDoor
open Go.RowKit Go.Mt

noncomputable def rpCode : Code := csub (Tryd.f12.body.getD .skip) [1, 0, 1, 0, 0, 1, 1, 0, 0, 1, 1, 1, 1, 1, 0, 1, 0]
set_option maxRecDepth 100000 in
set_option maxHeartbeats 1000000 in
theorem rp_loop (g : St) (A : Nat) (x0 x2 x3 x4 x5 x6 x7 x8 x9 x10 x11 x12 x13 x14 x15 x16 x18 x19 x20 x21 x22 x23 x24 x25 x26 x27 x28 x29 x30 x31 x32 x33 x34 x35 x36 x37 x38 x39 x40 x41 x42 x43 x44 x45 x46 x47 x48 x49 x50 x51 x52 x53 x54 x55 x56 x57 x58 x59 x60 x61 x62 x63 x64 x65 x66 x67 x68 x69 x70 x71 x72 x73 x74 x75 x76 x77 x78 x79 x80 x81 x82 x83 x84 x85 x86 x87 x88 x89 x90 x91 x92 x93 x94 x95 x96 x97 x98 x99 x100 x101 x102 x103 x104 x105 x106 x107 x108 x109 x110 x111 x112 x113 x114 x115 x116 x117 x118 x119 x120 x121 x122 x123 x124 x125 x126 x127 x128 x129 x130 x131 x132 x133 x134 x135 x136 x137 x138 x139 x140 x141 x142 x143 x144 x145 x146 x147 x148 x149 x150 x151 x152 x153 x154 x155 x156 x157 x158 x159 x160 x161 x162 x163 x164 x165 x166 x167 x168 x169 x170 x171 x172 x173 x174 x177 x178 x179 x180 x181 x182 x183 x184 x185 x186 x187 x188 x189 x190 x191 x192 x193 x194 x195 x196 x197 x198 x199 x200 x201 x202 x203 x204 x205 x206 x207 x208 x209 x210 x211 x212 x213 x214 x215 x216 x217 x218 x219 x220 x221 x222 x223 x224 x225 x226 x227 x228 x229 x230 x231 x232 x233 x234 x235 x236 x237 x238 x239 x240 x241 x242 x243 x244 x245 x246 x247 x248 x249 x250 x251 x252 x253 x254 x255 x256 x257 x258 x259 x260 x261 x262 x263 x264 x265 x266 x267 x268 x269 : Value) (w : World) (Q : Exit → Act → World → Prop) (hQ : ∀ c a d v w, Q (.panic c) (a.put d v) w → Q (.panic c) a w)
    (hT : ∀ i, i < 24 → w.cell? ⟨2, i, none⟩ = some (.int .i64 (turn i))) (hA2 : A ≠ 2)
    (hA : w.heap[A]? = some (.cells (arr 25 (uw g)) 24 (0, 0)))
    (hexit : ∀ (y17 y18 y19 y176 y177 y178 y179 y180 y181 y182 y183 y184 y185 y186 y187 y188 y189 y190 : Value) (w' : World), w'.heap[A]? = some (.cells (arr 25 (uw (rp g 24).2)) 24 (0, 0)) → w.grownBy w' (some A) → Q .normal ⟨#[x0, .pointer (some ⟨A, 0, none⟩), x2, x3, x4, x5, x6, x7, x8, x9, x10, x11, x12, x13, x14, x15, x16, y17, y18, y19, x20, x21, x22, x23, x24, x25, x26, x27, x28, x29, x30, x31, x32, x33, x34, x35, x36, x37, x38, x39, x40, x41, x42, x43, x44, x45, x46, x47, x48, x49, x50, x51, x52, x53, x54, x55, x56, x57, x58, x59, x60, x61, x62, x63, x64, x65, x66, x67, x68, x69, x70, x71, x72, x73, x74, x75, x76, x77, x78, x79, x80, x81, x82, x83, x84, x85, x86, x87, x88, x89, x90, x91, x92, x93, x94, x95, x96, x97, x98, x99, x100, x101, x102, x103, x104, x105, x106, x107, x108, x109, x110, x111, x112, x113, x114, x115, x116, x117, x118, x119, x120, x121, x122, x123, x124, x125, x126, x127, x128, x129, x130, x131, x132, x133, x134, x135, x136, x137, x138, x139, x140, x141, x142, x143, x144, x145, x146, x147, x148, x149, x150, x151, x152, x153, x154, x155, x156, x157, x158, x159, x160, x161, x162, x163, x164, x165, x166, x167, x168, x169, x170, x171, x172, x173, x174, .agg lanesV.toArray, y176, y177, y178, y179, y180, y181, y182, y183, y184, y185, y186, y187, y188, y189, y190, x191, x192, x193, x194, x195, x196, x197, x198, x199, x200, x201, x202, x203, x204, x205, x206, x207, x208, x209, x210, x211, x212, x213, x214, x215, x216, x217, x218, x219, x220, x221, x222, x223, x224, x225, x226, x227, x228, x229, x230, x231, x232, x233, x234, x235, x236, x237, x238, x239, x240, x241, x242, x243, x244, x245, x246, x247, x248, x249, x250, x251, x252, x253, x254, x255, x256, x257, x258, x259, x260, x261, x262, x263, x264, x265, x266, x267, x268, x269], []⟩ w') :
    Code.wp Tryd.prog (.block 4 rpCode) Q ⟨#[x0, .pointer (some ⟨A, 0, none⟩), x2, x3, x4, x5, x6, x7, x8, x9, x10, x11, x12, x13, x14, x15, x16, .int .u64 (U (g 1)), x18, x19, x20, x21, x22, x23, x24, x25, x26, x27, x28, x29, x30, x31, x32, x33, x34, x35, x36, x37, x38, x39, x40, x41, x42, x43, x44, x45, x46, x47, x48, x49, x50, x51, x52, x53, x54, x55, x56, x57, x58, x59, x60, x61, x62, x63, x64, x65, x66, x67, x68, x69, x70, x71, x72, x73, x74, x75, x76, x77, x78, x79, x80, x81, x82, x83, x84, x85, x86, x87, x88, x89, x90, x91, x92, x93, x94, x95, x96, x97, x98, x99, x100, x101, x102, x103, x104, x105, x106, x107, x108, x109, x110, x111, x112, x113, x114, x115, x116, x117, x118, x119, x120, x121, x122, x123, x124, x125, x126, x127, x128, x129, x130, x131, x132, x133, x134, x135, x136, x137, x138, x139, x140, x141, x142, x143, x144, x145, x146, x147, x148, x149, x150, x151, x152, x153, x154, x155, x156, x157, x158, x159, x160, x161, x162, x163, x164, x165, x166, x167, x168, x169, x170, x171, x172, x173, x174, .agg lanesV.toArray, .int .i64 0, x177, x178, x179, x180, x181, x182, x183, x184, x185, x186, x187, x188, x189, x190, x191, x192, x193, x194, x195, x196, x197, x198, x199, x200, x201, x202, x203, x204, x205, x206, x207, x208, x209, x210, x211, x212, x213, x214, x215, x216, x217, x218, x219, x220, x221, x222, x223, x224, x225, x226, x227, x228, x229, x230, x231, x232, x233, x234, x235, x236, x237, x238, x239, x240, x241, x242, x243, x244, x245, x246, x247, x248, x249, x250, x251, x252, x253, x254, x255, x256, x257, x258, x259, x260, x261, x262, x263, x264, x265, x266, x267, x268, x269], []⟩ w := by
  have inf3 : (Tryd.prog.info? 3).map (·.size) = some 1 := by kernel_rfl
  have h2w : 2 < w.heap.size := World.block_lt_of_cell? w _ (hT 0 (by omega))
  conv => arg 2; arg 2; whnf
  go_wp2_with fail
  go_loopw [17, 176] (fun o i wr => ∃ k : Nat, k ≤ 24 ∧ i = .int .i64 k ∧ o = .int .u64 (U (rp g k).1) ∧ wr.heap[A]? = some (.cells (arr 25 (uw (rp g k).2)) 24 (0, 0)) ∧ w.grownBy wr (some A)) (fun _ i _ => 24 - (intOf i).toNat)
  case atStart => exact ⟨0, by omega, rfl, rfl, hA, only_refl _ _⟩
  case round =>
    obtain ⟨k, hk, rfl, rfl, hAr, hgr⟩ := hrel
    clear hA
    by_cases hlt : k < 24
    · clear hexit
      have hcl := words_of hAr (lane k) (lane_lt k)
      have hfr : ∀ j, wr.frozen? ⟨A, j, none⟩ = false := fun j => frozen_of_row _ _ _ _ _ hAr
      have htn : wr.cell? ⟨2, k, none⟩ = some (.int .i64 (turn k)) := by
        rw [World.cell?_of_block (w := w) (hgr.block 2 h2w (by simp; omega))]; exact hT k hlt
      have hix := run_index_arr Tryd.underlying73 Tryd.underlying3 inf3 .i64 lanesV.toArray k hlt _ (lanes_at k hlt)
      have hl1 : (0 : Int) ≤ (lane k : Int) := by omega
      have hl2 : (lane k : Int) < 25 := by have := lane_lt k; omega
      have ht1 : (0 : Int) ≤ (turn k : Int) := by omega
      have ht2 : (turn k : Int) < 64 := by have := turn_lt k; omega
      clear hT
      go_wp2_with (first | (refine MtOrd.wp_region_ord_lit (id := 15) [(0, .head), (1, .head), (2, .head), (3, .head), (4, .head), (5, .head), (6, .head), (7, .head), (8, .head), (9, .head), (10, .head), (11, .loud)] (by kernel_rfl) (by kernel_rfl) (by intro c a d v w h; exact hQ c a d v w h) ?_) | (guard_target = MtOrd.Ord _ _ _ _ _ _ _; first | (refine MtOrd.ord_nil ?_) | (refine MtOrd.ord_head rfl rfl ?_; intro K hK; first | ((fail); refine hK _ ?_; clear hK K) | (go_big_quiet_op; first | (refine hK _ ?_; clear hK K) | (apply Exists.intro; refine ⟨?_, ?_⟩; (go_at_call 35; refine (rot_any _ _ _ (by omega) (by omega)).mono ?_; rintro e w2 ⟨rfl, rfl⟩; exact ⟨rfl, rfl⟩); refine hK _ ?_; clear hK K))) | (refine MtOrd.ord_free rfl rfl ?_; intro K hK; go_big_quiet_op; (refine hK _ ?_; clear hK K)) | (refine MtOrd.ord_skip rfl rfl ?_) | (refine MtOrd.ord_loud0 rfl rfl ?_; intro K hK)))
      refine ⟨⟨k + 1, by omega, by go_num, rfl, ?_, ?_⟩, by simp [intOf]; omega⟩
      · simp only [heap_drew]
        rw [set_words hAr]
        rfl
      · exact only_drew (only_setCell hgr (.inl rfl) _)
    · obtain rfl : k = 24 := by omega
      go_wp2_with fail
      apply hexit
      · exact hAr
      · exact hgr
end Go.Proofs.YtikkebjhnechdaaDoor
