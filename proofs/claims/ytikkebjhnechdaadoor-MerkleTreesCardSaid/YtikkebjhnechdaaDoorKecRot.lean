/- Walk: math/bits.RotateLeft64 turns a word. -/
import Derived.Test.YtikkebjhnechdaaDoorProg
import Derived.Test.YtikkebjhnechdaaDoorMtVal
import Derived.Test.YtikkebjhnechdaaDoorMtOrd
import Derived.Lib.Hide
namespace Go.Proofs.YtikkebjhnechdaaDoor
open Go.RowKit Go.Mt

theorem rot_shifts (x : BitVec 64) (k : Int) (k0 : 0 ≤ k) (k1 : k < 64) : x <<< k.toNat ||| x >>> (64 - k).toNat = x.rotateLeft k.toNat := by
  rw [BitVec.rotateLeft_def]
  rw [show k.toNat % 64 = k.toNat by omega, show 64 - k.toNat = (64 - k).toNat by omega]

theorem and63 (k : Int) (k0 : 0 ≤ k) (k1 : k < 64) : bits .and .u64 k 63 = k := by
  obtain ⟨n, rfl⟩ := Int.eq_ofNat_of_zero_le k0
  show IntKind.u64.wrap ((BitVec.ofInt 64 (n : Int) &&& BitVec.ofInt 64 63).toNat : Int) = _
  rw [BitVec.toNat_and, BitVec.ofInt_natCast, BitVec.toNat_ofNat, show (BitVec.ofInt 64 63).toNat = 2 ^ 6 - 1 from rfl, Nat.and_two_pow_sub_one_eq_mod, IntKind.wrap_u64]
  omega

theorem rot_any (x : BitVec 64) (k : Int) (w : World) (k0 : 0 ≤ k) (k1 : k < 64) :
    Calls Tryd.prog 35 #[.int .u64 (U x), .int .i64 k] w fun e w' => e = .returned (.int .u64 (U (x.rotateLeft k.toNat))) ∧ w = w' := by
  have h63 := and63 k k0 k1
  go_enter Tryd.func35, Tryd.ntmps35
  go_wp2
  go_ret
  exact ⟨by simp [← rot_shifts x k k0 k1], rfl⟩
end Go.Proofs.YtikkebjhnechdaaDoor
