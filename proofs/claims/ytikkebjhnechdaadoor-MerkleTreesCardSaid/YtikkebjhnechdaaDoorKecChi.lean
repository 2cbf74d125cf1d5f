/- Walk: the last inner loop of keccak.Permute (chi's rows). -/
import Derived.Test.YtikkebjhnechdaaDoorKecRot
import Derived.Test.YtikkebjhnechdaaDoorMtKec
import Derived.Deep.MidRow
namespace Go.Proofs.YtikkebjhnechdaaDoor
open Go.RowKit Go.Mt

noncomputable def chiCode : Code := csub (Tryd.f12.body.getD .skip) [1, 0, 1, 0, 0, 1, 1, 0, 0, 1, 1, 1, 1, 1, 1, 0, 1, 0]
set_option maxRecDepth 100000 in
set_option maxHeartbeats 1000000 in
theorem chi_loop (g : St) (A : Nat) (x0 x2 x3 x4 x5 x6 x7 x8 x9 x10 x11 x12 x13 x14 x15 x16 x17 x18 x19 x21 x22 x23 x24 x25 x26 x27 x28 x29 x30 x31 x32 x33 x34 x35 x36 x37 x38 x39 x40 x41 x42 x43 x44 x45 x46 x47 x48 x49 x50 x51 x52 x53 x54 x55 x56 x57 x58 x59 x60 x61 x62 x63 x64 x65 x66 x67 x68 x69 x70 x71 x72 x73 x74 x75 x76 x77 x78 x79 x80 x81 x82 x83 x84 x85 x86 x87 x88 x89 x90 x91 x92 x93 x94 x95 x96 x97 x98 x99 x100 x101 x102 x103 x104 x105 x106 x107 x108 x109 x110 x111 x112 x113 x114 x115 x116 x117 x118 x119 x120 x121 x122 x123 x124 x125 x126 x127 x128 x129 x130 x131 x132 x133 x134 x135 x136 x137 x138 x139 x140 x141 x142 x143 x144 x145 x146 x147 x148 x149 x150 x151 x152 x153 x154 x155 x156 x157 x158 x159 x160 x161 x162 x163 x164 x165 x166 x167 x168 x169 x170 x171 x172 x173 x174 x175 x176 x177 x178 x179 x180 x181 x182 x183 x184 x185 x186 x187 x188 x189 x190 x191 x192 x193 x194 x195 x196 x197 x198 x199 x200 x201 x202 x203 x204 x205 x206 x207 x208 x209 x210 x211 x212 x213 x214 x215 x216 x217 x218 x219 x220 x221 x222 x223 x224 x225 x226 x227 x228 x229 x230 x231 x232 x233 x234 x235 x236 x237 x238 x239 x240 x241 x242 x243 x244 x245 x246 x247 x248 x249 x250 x251 x252 x253 x254 x255 x256 x257 x258 x259 x260 x261 x262 x263 x264 x265 x266 x267 x268 x269 : Value) (w : World) (Q : Exit → Act → World → Prop) (hQ : ∀ c a d v w, Q (.panic c) (a.put d v) w → Q (.panic c) a w)
    (hA : w.heap[A]? = some (.cells (arr 25 (uw g)) 24 (0, 0)))
    (hexit : ∀ (y20 y21 y22 y23 y24 y25 y26 y191 y192 y193 y194 y195 y196 y197 y198 y199 y200 y201 y202 y203 y204 y205 y206 y207 y208 y209 y210 y211 y212 y213 y214 y215 y216 y217 y218 y219 y220 y221 y222 y223 y224 y225 y226 y227 y228 y229 y230 y231 y232 y233 y234 y235 y236 y237 y238 y239 y240 y241 y242 y243 y244 y245 y246 y247 y248 y249 y250 y251 y252 y253 y254 y255 y256 y257 y258 y259 y260 y261 y262 : Value) (w' : World), w'.heap[A]? = some (.cells (arr 25 (uw (chiTo g 5))) 24 (0, 0)) → w.grownBy w' (some A) → Q .normal ⟨#[x0, .pointer (some ⟨A, 0, none⟩), x2, x3, x4, x5, x6, x7, x8, x9, x10, x11, x12, x13, x14, x15, x16, x17, x18, x19, y20, y21, y22, y23, y24, y25, y26, x27, x28, x29, x30, x31, x32, x33, x34, x35, x36, x37, x38, x39, x40, x41, x42, x43, x44, x45, x46, x47, x48, x49, x50, x51, x52, x53, x54, x55, x56, x57, x58, x59, x60, x61, x62, x63, x64, x65, x66, x67, x68, x69, x70, x71, x72, x73, x74, x75, x76, x77, x78, x79, x80, x81, x82, x83, x84, x85, x86, x87, x88, x89, x90, x91, x92, x93, x94, x95, x96, x97, x98, x99, x100, x101, x102, x103, x104, x105, x106, x107, x108, x109, x110, x111, x112, x113, x114, x115, x116, x117, x118, x119, x120, x121, x122, x123, x124, x125, x126, x127, x128, x129, x130, x131, x132, x133, x134, x135, x136, x137, x138, x139, x140, x141, x142, x143, x144, x145, x146, x147, x148, x149, x150, x151, x152, x153, x154, x155, x156, x157, x158, x159, x160, x161, x162, x163, x164, x165, x166, x167, x168, x169, x170, x171, x172, x173, x174, x175, x176, x177, x178, x179, x180, x181, x182, x183, x184, x185, x186, x187, x188, x189, x190, y191, y192, y193, y194, y195, y196, y197, y198, y199, y200, y201, y202, y203, y204, y205, y206, y207, y208, y209, y210, y211, y212, y213, y214, y215, y216, y217, y218, y219, y220, y221, y222, y223, y224, y225, y226, y227, y228, y229, y230, y231, y232, y233, y234, y235, y236, y237, y238, y239, y240, y241, y242, y243, y244, y245, y246, y247, y248, y249, y250, y251, y252, y253, y254, y255, y256, y257, y258, y259, y260, y261, y262, x263, x264, x265, x266, x267, x268, x269], []⟩ w') :
    Code.wp Tryd.prog (.block 6 chiCode) Q ⟨#[x0, .pointer (some ⟨A, 0, none⟩), x2, x3, x4, x5, x6, x7, x8, x9, x10, x11, x12, x13, x14, x15, x16, x17, x18, x19, .int .i64 0, x21, x22, x23, x24, x25, x26, x27, x28, x29, x30, x31, x32, x33, x34, x35, x36, x37, x38, x39, x40, x41, x42, x43, x44, x45, x46, x47, x48, x49, x50, x51, x52, x53, x54, x55, x56, x57, x58, x59, x60, x61, x62, x63, x64, x65, x66, x67, x68, x69, x70, x71, x72, x73, x74, x75, x76, x77, x78, x79, x80, x81, x82, x83, x84, x85, x86, x87, x88, x89, x90, x91, x92, x93, x94, x95, x96, x97, x98, x99, x100, x101, x102, x103, x104, x105, x106, x107, x108, x109, x110, x111, x112, x113, x114, x115, x116, x117, x118, x119, x120, x121, x122, x123, x124, x125, x126, x127, x128, x129, x130, x131, x132, x133, x134, x135, x136, x137, x138, x139, x140, x141, x142, x143, x144, x145, x146, x147, x148, x149, x150, x151, x152, x153, x154, x155, x156, x157, x158, x159, x160, x161, x162, x163, x164, x165, x166, x167, x168, x169, x170, x171, x172, x173, x174, x175, x176, x177, x178, x179, x180, x181, x182, x183, x184, x185, x186, x187, x188, x189, x190, x191, x192, x193, x194, x195, x196, x197, x198, x199, x200, x201, x202, x203, x204, x205, x206, x207, x208, x209, x210, x211, x212, x213, x214, x215, x216, x217, x218, x219, x220, x221, x222, x223, x224, x225, x226, x227, x228, x229, x230, x231, x232, x233, x234, x235, x236, x237, x238, x239, x240, x241, x242, x243, x244, x245, x246, x247, x248, x249, x250, x251, x252, x253, x254, x255, x256, x257, x258, x259, x260, x261, x262, x263, x264, x265, x266, x267, x268, x269], []⟩ w := by
  have inf23 : (Tryd.prog.info? 23).map (·.size) = some 1 := by kernel_rfl
  have hAw : A < w.heap.size := lt_of_block hA
  conv => arg 2; arg 2; whnf
  go_wp2_with fail
  go_loopw [20] (fun i wr => ∃ k : Nat, k ≤ 5 ∧ i = .int .i64 (5 * k) ∧ wr.heap[A]? = some (.cells (arr 25 (uw (chiTo g k))) 24 (0, 0)) ∧ w.grownBy wr (some A)) (fun i _ => 25 - (intOf i).toNat)
  case atStart => exact ⟨0, by omega, rfl, by rw [hA]; rfl, only_refl _ _⟩
  case round =>
    obtain ⟨k, hk, rfl, hAr, hgr⟩ := hrel
    clear hA
    by_cases hlt : k < 5
    · clear hexit
      have hc := words_of hAr
      have hfr : ∀ j, wr.frozen? ⟨A, j, none⟩ = false := fun j => frozen_of_row _ _ _ _ _ hAr
      have hc0 := hc (5 * k) (by omega)
      have hc1 := hc (5 * k + 1) (by omega)
      have hc2 := hc (5 * k + 2) (by omega)
      have hc3 := hc (5 * k + 3) (by omega)
      have hc4 := hc (5 * k + 4) (by omega)
      clear hc
      have hsl := run_sliceAt_arr Tryd.underlying24 inf23 .i64 A 0 (5 * k) (by omega) (5 * (k : Int)) (by omega)
      rw [show 0 + 5 * k * 1 = 5 * k by omega] at hsl
      have har := run_arrayAt Tryd.underlying146 (some ⟨A, 5 * k, none⟩) (25 - 5 * k) (25 - 5 * k) (by omega)
      go_wp2_with (first | (refine MtOrd.wp_region_ord_lit (id := 21) [(0, .head), (1, .head), (2, .head), (3, .head), (4, .head), (5, .head), (6, .head), (7, .head), (8, .head), (9, .head), (10, .head), (11, .head), (12, .head), (13, .head), (14, .head), (15, .head), (16, .head), (17, .head), (18, .head), (19, .head), (20, .head), (21, .head), (22, .head), (23, .head), (24, .head)] (by kernel_rfl) (by kernel_rfl) (by intro c a d v w h; exact hQ c a d v w h) ?_) | (refine MtOrd.wp_region_ord_lit (id := 22) [(0, .head), (5, .head), (6, .head), (7, .head), (8, .head), (9, .head), (10, .head), (35, .head), (36, .head), (1, .free), (2, .free), (3, .free), (4, .free), (11, .free), (12, .free), (13, .free), (14, .free), (15, .free), (16, .free), (17, .free), (18, .free), (19, .free), (20, .free), (21, .free), (22, .free), (23, .free), (24, .free), (25, .free), (26, .free), (27, .free), (28, .free), (29, .free), (30, .free), (31, .free), (32, .free), (33, .free), (34, .free), (38, .free), (41, .free), (44, .free), (47, .free), (37, .loud), (39, .head), (40, .loud), (42, .head), (43, .loud), (45, .head), (46, .loud), (48, .head), (49, .loud)] (by kernel_rfl) (by kernel_rfl) (by intro c a d v w h; exact hQ c a d v w h) ?_) | (guard_target = MtOrd.Ord _ _ _ _ _ _ _; first | (refine MtOrd.ord_nil ?_) | (refine MtOrd.ord_head rfl rfl ?_; intro K hK; first | ((fail); refine hK _ ?_; clear hK K) | (go_big_quiet_op; first | (refine hK _ ?_; clear hK K) | (apply Exists.intro; refine ⟨?_, ?_⟩; (fail); refine hK _ ?_; clear hK K))) | (refine MtOrd.ord_free rfl rfl ?_; intro K hK; go_big_quiet_op; (refine hK _ ?_; clear hK K)) | (refine MtOrd.ord_skip rfl rfl ?_) | (refine MtOrd.ord_loud0 rfl rfl ?_; intro K hK)))
      refine ⟨⟨k + 1, by omega, by go_num, ?_, ?_⟩, by simp [intOf]; omega⟩
      · simp only [heap_drew]
        rw [set_words (set_words (set_words (set_words (set_words hAr _ _) _ _) _ _) _ _) _ _]
        exact congrArg (fun c => some (Obj.cells c 24 (0, 0))) (words_ext fun i _ => chiTo_step g k i)
      · exact only_drew (only_drew (only_setCell (only_setCell (only_setCell (only_setCell (only_setCell hgr (.inl rfl) _) (.inl rfl) _) (.inl rfl) _) (.inl rfl) _) (.inl rfl) _))
    · obtain rfl : k = 5 := by omega
      go_wp2_with fail
      apply hexit
      · exact hAr
      · exact hgr
end Go.Proofs.YtikkebjhnechdaaDoor
