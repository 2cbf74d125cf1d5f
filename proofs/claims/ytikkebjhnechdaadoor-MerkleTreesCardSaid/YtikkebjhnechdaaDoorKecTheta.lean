/- Walk: the first inner loop of keccak.Permute (theta's rows). -/
import Derived.Test.YtikkebjhnechdaaDoorKecRot
import Derived.Test.YtikkebjhnechdaaDoorMtKec
import Derived.Deep.MidRow
namespace Go.Proofs.YtikkebjhnechdaaDoor
open Go.RowKit Go.Mt

noncomputable def thetaCode : Code := csub (Tryd.f12.body.getD .skip) [1, 0, 1, 0, 0, 1, 1, 0, 0, 1, 1, 1, 0, 1, 0]
set_option maxRecDepth 100000 in
set_option maxHeartbeats 1000000 in
theorem theta_loop (g : St) (A : Nat) (v0 v1 v2 v3 v4 : BitVec 64) (e0 : v0 = dd g 0) (e1 : v1 = dd g 1) (e2 : v2 = dd g 2) (e3 : v3 = dd g 3) (e4 : v4 = dd g 4) (x0 x2 x3 x4 x5 x6 x7 x8 x9 x16 x17 x18 x19 x20 x21 x22 x23 x24 x25 x26 x27 x28 x29 x30 x31 x32 x33 x34 x35 x36 x37 x38 x39 x40 x41 x42 x43 x44 x45 x46 x47 x48 x49 x50 x51 x52 x53 x54 x55 x56 x57 x58 x59 x60 x61 x62 x63 x64 x65 x66 x67 x68 x69 x70 x71 x72 x73 x74 x75 x76 x77 x78 x79 x80 x81 x82 x83 x84 x85 x86 x87 x88 x89 x90 x91 x92 x93 x94 x95 x96 x97 x98 x99 x100 x101 x102 x103 x104 x105 x106 x107 x108 x109 x110 x111 x112 x113 x114 x115 x116 x117 x118 x119 x120 x121 x122 x123 x124 x125 x126 x127 x128 x129 x130 x131 x132 x133 x134 x135 x136 x137 x138 x139 x140 x141 x142 x143 x144 x145 x146 x147 x148 x149 x150 x151 x152 x153 x154 x155 x156 x157 x158 x159 x160 x161 x162 x163 x164 x165 x166 x167 x168 x169 x170 x171 x172 x173 x174 x175 x176 x177 x178 x179 x180 x181 x182 x183 x184 x185 x186 x187 x188 x189 x190 x191 x192 x193 x194 x195 x196 x197 x198 x199 x200 x201 x202 x203 x204 x205 x206 x207 x208 x209 x210 x211 x212 x213 x214 x215 x216 x217 x218 x219 x220 x221 x222 x223 x224 x225 x226 x227 x228 x229 x230 x231 x232 x233 x234 x235 x236 x237 x238 x239 x240 x241 x242 x243 x244 x245 x246 x247 x248 x249 x250 x251 x252 x253 x254 x255 x256 x257 x258 x259 x260 x261 x262 x263 x264 x265 x266 x267 x268 x269 : Value) (w : World) (Q : Exit → Act → World → Prop) (hQ : ∀ c a d v w, Q (.panic c) (a.put d v) w → Q (.panic c) a w)
    (hA : w.heap[A]? = some (.cells (arr 25 (uw g)) 24 (0, 0)))
    (hexit : ∀ (y15 y16 y121 y122 y123 y124 y125 y126 y127 y128 y129 y130 y131 y132 y133 y134 y135 y136 y137 y138 y139 y140 y141 y142 y143 y144 y145 y146 y147 y148 y149 y150 y151 y152 y153 y154 y155 y156 y157 y158 y159 y160 y161 y162 y163 y164 y165 y166 y167 y168 y169 y170 y171 y172 : Value) (w' : World), w'.heap[A]? = some (.cells (arr 25 (uw (thetaTo g 5))) 24 (0, 0)) → w.grownBy w' (some A) → Q .normal ⟨#[x0, .pointer (some ⟨A, 0, none⟩), x2, x3, x4, x5, x6, x7, x8, x9, .int .u64 (U v0), .int .u64 (U v1), .int .u64 (U v2), .int .u64 (U v3), .int .u64 (U v4), y15, y16, x17, x18, x19, x20, x21, x22, x23, x24, x25, x26, x27, x28, x29, x30, x31, x32, x33, x34, x35, x36, x37, x38, x39, x40, x41, x42, x43, x44, x45, x46, x47, x48, x49, x50, x51, x52, x53, x54, x55, x56, x57, x58, x59, x60, x61, x62, x63, x64, x65, x66, x67, x68, x69, x70, x71, x72, x73, x74, x75, x76, x77, x78, x79, x80, x81, x82, x83, x84, x85, x86, x87, x88, x89, x90, x91, x92, x93, x94, x95, x96, x97, x98, x99, x100, x101, x102, x103, x104, x105, x106, x107, x108, x109, x110, x111, x112, x113, x114, x115, x116, x117, x118, x119, x120, y121, y122, y123, y124, y125, y126, y127, y128, y129, y130, y131, y132, y133, y134, y135, y136, y137, y138, y139, y140, y141, y142, y143, y144, y145, y146, y147, y148, y149, y150, y151, y152, y153, y154, y155, y156, y157, y158, y159, y160, y161, y162, y163, y164, y165, y166, y167, y168, y169, y170, y171, y172, x173, x174, x175, x176, x177, x178, x179, x180, x181, x182, x183, x184, x185, x186, x187, x188, x189, x190, x191, x192, x193, x194, x195, x196, x197, x198, x199, x200, x201, x202, x203, x204, x205, x206, x207, x208, x209, x210, x211, x212, x213, x214, x215, x216, x217, x218, x219, x220, x221, x222, x223, x224, x225, x226, x227, x228, x229, x230, x231, x232, x233, x234, x235, x236, x237, x238, x239, x240, x241, x242, x243, x244, x245, x246, x247, x248, x249, x250, x251, x252, x253, x254, x255, x256, x257, x258, x259, x260, x261, x262, x263, x264, x265, x266, x267, x268, x269], []⟩ w') :
    Code.wp Tryd.prog (.block 2 thetaCode) Q ⟨#[x0, .pointer (some ⟨A, 0, none⟩), x2, x3, x4, x5, x6, x7, x8, x9, .int .u64 (U v0), .int .u64 (U v1), .int .u64 (U v2), .int .u64 (U v3), .int .u64 (U v4), .int .i64 0, x16, x17, x18, x19, x20, x21, x22, x23, x24, x25, x26, x27, x28, x29, x30, x31, x32, x33, x34, x35, x36, x37, x38, x39, x40, x41, x42, x43, x44, x45, x46, x47, x48, x49, x50, x51, x52, x53, x54, x55, x56, x57, x58, x59, x60, x61, x62, x63, x64, x65, x66, x67, x68, x69, x70, x71, x72, x73, x74, x75, x76, x77, x78, x79, x80, x81, x82, x83, x84, x85, x86, x87, x88, x89, x90, x91, x92, x93, x94, x95, x96, x97, x98, x99, x100, x101, x102, x103, x104, x105, x106, x107, x108, x109, x110, x111, x112, x113, x114, x115, x116, x117, x118, x119, x120, x121, x122, x123, x124, x125, x126, x127, x128, x129, x130, x131, x132, x133, x134, x135, x136, x137, x138, x139, x140, x141, x142, x143, x144, x145, x146, x147, x148, x149, x150, x151, x152, x153, x154, x155, x156, x157, x158, x159, x160, x161, x162, x163, x164, x165, x166, x167, x168, x169, x170, x171, x172, x173, x174, x175, x176, x177, x178, x179, x180, x181, x182, x183, x184, x185, x186, x187, x188, x189, x190, x191, x192, x193, x194, x195, x196, x197, x198, x199, x200, x201, x202, x203, x204, x205, x206, x207, x208, x209, x210, x211, x212, x213, x214, x215, x216, x217, x218, x219, x220, x221, x222, x223, x224, x225, x226, x227, x228, x229, x230, x231, x232, x233, x234, x235, x236, x237, x238, x239, x240, x241, x242, x243, x244, x245, x246, x247, x248, x249, x250, x251, x252, x253, x254, x255, x256, x257, x258, x259, x260, x261, x262, x263, x264, x265, x266, x267, x268, x269], []⟩ w := by
  have inf23 : (Tryd.prog.info? 23).map (·.size) = some 1 := by kernel_rfl
  subst e0 e1 e2 e3 e4
  have hAw : A < w.heap.size := lt_of_block hA
  conv => arg 2; arg 2; whnf
  go_wp2_with fail
  go_loopw [15] (fun i wr => ∃ k : Nat, k ≤ 5 ∧ i = .int .i64 (5 * k) ∧ wr.heap[A]? = some (.cells (arr 25 (uw (thetaTo g k))) 24 (0, 0)) ∧ w.grownBy wr (some A)) (fun i _ => 25 - (intOf i).toNat)
  case atStart => exact ⟨0, by omega, rfl, by rw [hA]; rfl, only_refl _ _⟩
  case round =>
    obtain ⟨k, hk, rfl, hAr, hgr⟩ := hrel
    clear hA
    by_cases hlt : k < 5
    · clear hexit
      have hc := words_of hAr
      have hfr : ∀ j, wr.frozen? ⟨A, j, none⟩ = false := fun j => frozen_of_row _ _ _ _ _ hAr
      have hc0 := hc (5 * k) (by omega)
      have hc1 := hc (5 * k + 1) (by omega)
      have hc2 := hc (5 * k + 2) (by omega)
      have hc3 := hc (5 * k + 3) (by omega)
      have hc4 := hc (5 * k + 4) (by omega)
      clear hc
      have hsl := run_sliceAt_arr Tryd.underlying24 inf23 .i64 A 0 (5 * k) (by omega) (5 * (k : Int)) (by omega)
      rw [show 0 + 5 * k * 1 = 5 * k by omega] at hsl
      have har := run_arrayAt Tryd.underlying146 (some ⟨A, 5 * k, none⟩) (25 - 5 * k) (25 - 5 * k) (by omega)
      go_wp2_with (first | (refine MtOrd.wp_region_ord_lit (id := 10) [(0, .head), (5, .head), (6, .head), (7, .head), (8, .head), (9, .head), (10, .head), (11, .head), (12, .head), (13, .head), (14, .head), (17, .head), (18, .head), (19, .head), (20, .head), (23, .head), (24, .head), (25, .head), (26, .head), (29, .head), (30, .head), (31, .head), (32, .head), (35, .head), (36, .head), (1, .free), (2, .free), (3, .free), (4, .free), (15, .free), (16, .free), (21, .free), (22, .free), (27, .free), (28, .free), (33, .free), (34, .free), (38, .free), (41, .free), (44, .free), (47, .free), (37, .loud), (39, .head), (40, .loud), (42, .head), (43, .loud), (45, .head), (46, .loud), (48, .head), (49, .loud)] (by kernel_rfl) (by kernel_rfl) (by intro c a d v w h; exact hQ c a d v w h) ?_) | (guard_target = MtOrd.Ord _ _ _ _ _ _ _; first | (refine MtOrd.ord_nil ?_) | (refine MtOrd.ord_head rfl rfl ?_; intro K hK; first | ((fail); refine hK _ ?_; clear hK K) | (go_big_quiet_op; first | (refine hK _ ?_; clear hK K) | (apply Exists.intro; refine ⟨?_, ?_⟩; (fail); refine hK _ ?_; clear hK K))) | (refine MtOrd.ord_free rfl rfl ?_; intro K hK; go_big_quiet_op; (refine hK _ ?_; clear hK K)) | (refine MtOrd.ord_skip rfl rfl ?_) | (refine MtOrd.ord_loud0 rfl rfl ?_; intro K hK)))
      refine ⟨⟨k + 1, by omega, by go_num, ?_, ?_⟩, by simp [intOf]; omega⟩
      · simp only [heap_drew]
        rw [set_words (set_words (set_words (set_words (set_words hAr _ _) _ _) _ _) _ _) _ _]
        exact congrArg (fun c => some (Obj.cells c 24 (0, 0))) (words_ext fun i _ => thetaTo_step g k i)
      · exact only_drew (only_setCell (only_setCell (only_setCell (only_setCell (only_setCell hgr (.inl rfl) _) (.inl rfl) _) (.inl rfl) _) (.inl rfl) _) (.inl rfl) _)
    · obtain rfl : k = 5 := by omega
      go_wp2_with fail
      apply hexit
      · exact hAr
      · exact hgr
end Go.Proofs.YtikkebjhnechdaaDoor
