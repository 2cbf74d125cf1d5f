/- The sponge over the padded bytes, plainly. No program in sight. -/
import Derived.Test.YtikkebjhnechdaaDoorKecKsum
namespace Go.Mt
theorem xw_ext {f : St} {p q : Nat → BitVec 8} {j : Nat} (hp : ∀ i, i < 8 * j + 8 → p i = q i) : ∀ k, k ≤ 8 → xw f p j k = xw f q j k
  | 0, _ => rfl
  | k + 1, hk => by unfold xw; rw [xw_ext hp k (by omega), hp _ (by omega)]
theorem xin_ext {f : St} {p q : Nat → BitVec 8} (h : ∀ i, i < 136 → p i = q i) : xin f p = xin f q := by
  funext j; unfold xin; split
  · exact xw_ext (fun i hi => h i (by omega)) 8 (Nat.le_refl _)
  · rfl
theorem absorb_ext {f : St} {p q : Nat → BitVec 8} (h : ∀ i, i < 136 → p i = q i) : absorb f p = absorb f q := by unfold absorb; rw [xin_ext h]
/-- The sponge, after k pieces. -/
def spl (f : St) (P : Nat → BitVec 8) : Nat → St
  | 0 => f
  | k + 1 => absorb (spl f P k) fun j => P (136 * k + j)
theorem spl_front (f : St) (P : Nat → BitVec 8) : ∀ k, spl f P (k + 1) = spl (absorb f P) (fun j => P (136 + j)) k
  | 0 => by unfold spl; exact absorb_ext fun i _ => by rw [Nat.mul_zero, Nat.zero_add]
  | k + 1 => by rw [spl, spl_front f P k, spl]; exact absorb_ext fun i _ => by rw [show 136 * (k + 1) + i = 136 + (136 * k + i) by omega]
theorem spl_ext {f : St} {P Q : Nat → BitVec 8} : ∀ k, (∀ i, i < 136 * k → P i = Q i) → spl f P k = spl f Q k
  | 0, _ => rfl
  | k + 1, h => by unfold spl; rw [spl_ext k fun i hi => h i (by omega)]; exact absorb_ext fun i hi => h _ (by omega)
/-- The padded bytes. -/
def pd (bs : List (BitVec 8)) (i : Nat) : BitVec 8 :=
  let x := if i < bs.length then bs.getD i 0 else if i = bs.length then 1#8 else 0#8
  if i = 136 * (bs.length / 136) + 135 then x ^^^ 128#8 else x
theorem getD_none {l : List (BitVec 8)} {i : Nat} (h : l.length ≤ i) : l.getD i 0 = 0#8 := by
  rw [List.getD_eq_getElem?_getD, List.getElem?_eq_none h]; rfl
theorem pd_short {bs : List (BitVec 8)} (h : bs.length < 136) (i : Nat) (_ : i < 136) : pad bs i = pd bs i := by
  unfold pd pad pad1 pad0 upd
  have e : 136 * (bs.length / 136) + 135 = 135 := by omega
  rw [e]
  simp only
  by_cases h1 : i = 135
  · subst h1
    rw [if_pos rfl, if_pos rfl]
    by_cases h2 : 135 = bs.length
    · rw [if_pos h2, if_neg (by omega), if_neg (by omega), if_pos h2]; rfl
    · rw [if_neg h2, if_neg h2]; rfl
  · rw [if_neg h1, if_neg h1]
    by_cases h2 : i = bs.length
    · rw [if_pos h2, if_neg (by omega), if_neg (by omega), if_pos h2]; rfl
    · rw [if_neg h2, if_neg h2]; rfl
theorem pd_head {bs : List (BitVec 8)} (h : 136 ≤ bs.length) (i : Nat) (hi : i < 136) : pd bs i = bs.getD i 0 := by
  unfold pd; rw [if_neg (by omega), if_pos (by omega)]
theorem pd_tail {bs : List (BitVec 8)} (h : 136 ≤ bs.length) (i : Nat) : pd bs (136 + i) = pd (bs.drop 136) i := by
  unfold pd
  rw [List.length_drop]
  have e1 : (bs.drop 136).getD i 0 = bs.getD (136 + i) 0 := by
    rw [List.getD_eq_getElem?_getD, List.getD_eq_getElem?_getD, List.getElem?_drop]
  rw [e1]
  have e2 : (136 + i < bs.length) = (i < bs.length - 136) := propext (by omega)
  have e3 : (136 + i = bs.length) = (i = bs.length - 136) := propext (by omega)
  have e4 : (136 + i = 136 * (bs.length / 136) + 135) = (i = 136 * ((bs.length - 136) / 136) + 135) := propext (by omega)
  simp only [e2, e3, e4]
theorem spl_pd : ∀ (k : Nat) (f : St) (bs : List (BitVec 8)), bs.length / 136 = k → spl f (pd bs) (k + 1) = absorb (feed f bs).1 (pad (feed f bs).2)
  | 0, f, bs, h => by
    rw [feed_end (by omega)]
    unfold spl spl
    exact absorb_ext fun i hi => by rw [Nat.mul_zero, Nat.zero_add]; exact (pd_short (by omega) i hi).symm
  | k + 1, f, bs, h => by
    have h1 : 136 ≤ bs.length := by omega
    rw [feed_step h1, spl_front, ← spl_pd k _ (bs.drop 136) (by rw [List.length_drop]; omega)]
    rw [absorb_ext (p := pd bs) (q := fun j => bs.getD j 0) (fun i hi => pd_head h1 i hi)]
    congr 1
    funext j
    exact pd_tail h1 j
theorem sumB_pd (bs : List (BitVec 8)) : sumB bs = dig (spl (fun _ => 0) (pd bs) (bs.length / 136 + 1)) := by
  unfold sumB; rw [spl_pd _ _ _ rfl]
/-- The bytes as they are written: a 1 behind them, noughts, and the last bit. -/
theorem pd_list {bs : List (BitVec 8)} {k m : Nat} (hm : m = bs.length + 1 + k) (h136 : m % 136 = 0) (hk : k ≤ 135) (i : Nat) (hi : i < m) :
    ((bs ++ [1#8] ++ List.replicate k 0#8).set (m - 1) ((bs ++ [1#8] ++ List.replicate k 0#8).getD (m - 1) 0 ^^^ 128#8)).getD i 0 = pd bs i := by
  have hl : (bs ++ [1#8] ++ List.replicate k 0#8).length = m := by simp; omega
  have e : ∀ j, j < m → (bs ++ [1#8] ++ List.replicate k 0#8).getD j 0 = if j < bs.length then bs.getD j 0 else if j = bs.length then 1#8 else 0#8 := fun j hj => by
    rw [List.getD_eq_getElem?_getD, List.append_assoc]
    by_cases h1 : j < bs.length
    · rw [List.getElem?_append_left h1, if_pos h1, List.getD_eq_getElem?_getD]
    · rw [List.getElem?_append_right (by omega), if_neg h1]
      by_cases h2 : j = bs.length
      · subst h2; simp
      · rw [if_neg h2, List.getElem?_append_right (by simp; omega), List.getElem?_replicate, if_pos (by simp; omega)]; rfl
  rw [List.getD_eq_getElem?_getD, List.getElem?_set, hl]
  unfold pd
  have e2 : 136 * (bs.length / 136) + 135 = m - 1 := by omega
  rw [e2]
  by_cases h1 : m - 1 = i
  · rw [if_pos h1, if_pos (by omega), e _ (by omega)]
    simp only [h1]
    simp
  · rw [if_neg h1, ← List.getD_eq_getElem?_getD, e _ hi]
    simp only
    rw [if_neg (show ¬ i = m - 1 from fun h => h1 h.symm)]
/-- A piece comes in byte by byte. -/
def xb (f : St) (p : Nat → BitVec 8) (i : Nat) : St := xinTo f p (i / 8) (i % 8)
theorem xb_step (f : St) (p : Nat → BitVec 8) (i : Nat) : upd (xb f p i) (i / 8) (xb f p i (i / 8) ^^^ ((p i).setWidth 64 <<< (8 * (i % 8)))) = xb f p (i + 1) := by
  unfold xb
  have h := xinTo_step f p (i / 8) (i % 8)
  rw [show 8 * (i / 8) + i % 8 = i by omega] at h
  rw [h]
  by_cases h8 : i % 8 = 7
  · rw [h8, xinTo_next, show (i + 1) / 8 = i / 8 + 1 by omega, show (i + 1) % 8 = 0 by omega]
  · rw [show (i + 1) / 8 = i / 8 by omega, show (i + 1) % 8 = i % 8 + 1 by omega]
theorem xb_zero (f : St) (p : Nat → BitVec 8) : xb f p 0 = f := xinTo_zero f p
theorem xb_end (f : St) (p : Nat → BitVec 8) : arr 25 (uw (xb f p 136)) = arr 25 (uw (xin f p)) := words_ext fun i hi => xinTo_end f p i hi
@[reducible] def z25 : Array Value := #[.int .u64 0, .int .u64 0, .int .u64 0, .int .u64 0, .int .u64 0, .int .u64 0, .int .u64 0, .int .u64 0, .int .u64 0, .int .u64 0, .int .u64 0, .int .u64 0, .int .u64 0, .int .u64 0, .int .u64 0, .int .u64 0, .int .u64 0, .int .u64 0, .int .u64 0, .int .u64 0, .int .u64 0, .int .u64 0, .int .u64 0, .int .u64 0, .int .u64 0]
theorem z25_eq : z25 = arr 25 (uw fun _ => 0) := by kernel_rfl
open Go.RowKit in
theorem Src.keepL {B : Nat} {w w' : World} {sp : Option Addr} {bs : List (BitVec 8)} (h : Src w sp bs) (hb : Below B w w') (hB : ∀ a, sp = some a → 0 < bs.length → a.block < B) : Src w' sp bs := fun hl => by
  obtain ⟨ad, rfl, h2⟩ := h hl
  exact h.keep hb (fun a ha => hB a ha hl) hl
theorem at_z25 {w : World} {k : Nat} (t : TypeId) (h : w.heap.size = k) : (w.alloc (.cells z25 t)).heap[k]? = some (.cells (arr 25 (uw fun _ => 0)) t (0, 0)) := by
  rw [← z25_eq]; exact at_alloc _ h
theorem at_z32 {w : World} {k : Nat} (t : TypeId) (h : w.heap.size = k) : (w.alloc (.cells z32 t)).heap[k]? = some (.cells (arr 32 (ub fun _ => 0)) t (0, 0)) := by
  rw [← z32_eq]; exact at_alloc _ h
end Go.Mt
