/- Steps in a region that draws its order, with a law on the worlds that come up. No program in sight. -/
import Derived.Test.YtikkebjhnechdaaDoorMtRow
import Derived.Great.BuildSlice
import Derived.Laws.CopyOwn
import Derived.Laws.BytesString
import Derived.Laws.IdiomStrings
namespace Go.Mt
open Go.RowKit
theorem range_of_row {w : World} {g : Nat} {cs : Array Value} {t : TypeId} (h : w.heap[g]? = some (.cells cs t (0, 0))) : w.rangeAt g 0 cs.toList := fun j u hu => by
  rw [cell_of_row w g (0 + j) _ t (0, 0) h, Nat.zero_add]; simpa using hu
section
variable {P : Program} {D : World → Prop} {Q : Exit → Act → World → Prop} {l : List Oper} {o : Oper} {i : Nat} {r : List (Nat × MtOrd.Ent)} {a : Act} {w : World}
/-- 'append' of bytes onto a slice of the call's own, whatever the source (nil too). -/
theorem wp_append_bytes {K : Act → World → Prop} (s x : Operand) (t : TypeId)
    (ho : o.op = .call { callee := .builtin .append, args := #[s, x], argTypes := #[t, t] })
    (base : Nat) (e : TypeId) (i : TypeInfo) (ht : P.underlying t = some (.slice e)) (hi : P.info? e = some i) (hz : i.zero = some (.int .u8 0)) (hsize : i.size = 1) (hby : i.bytes = 1)
    (v : Value) (xs : List (BitVec 8)) (hs : a.eval s = v) (hown : w.ownsRow base e 1 v xs.length (bl xs))
    (sp : Option Addr) (c : Nat) (bs : List (BitVec 8)) (hx : a.eval x = .slice sp bs.length c) (hsrc : Src w sp bs) (hnil : sp = none → c = 0)
    (hlim : xs.length + bs.length ≤ 140737488355328) (hbase : base ≤ w.heap.size)
    (h : ∀ v' w', w'.ownsRow base e 1 v' (xs ++ bs).length (bl (xs ++ bs)) → Keeps (fun k => v.ownBlock = some k) w w' → (v'.ownBlock = v.ownBlock ∨ v'.ownBlock = some w.heap.size) → K (a.put o.dst v') w') :
    o.wp P a w K Q := by
  subst hs
  cases sp with
  | none =>
    have hb : bs = [] := by
      cases bs with
      | nil => rfl
      | cons b bs => obtain ⟨ad, h, _⟩ := hsrc (by simp); cases h
    subst hb
    have hc := hnil rfl
    subst hc
    have hx' : a.eval x = .slice none 0 0 := hx
    have hrun := run_append_owned_none (P := P) (w := w) base t o.type e i 1 ht hi _ _ _ hown
    have hfin : K (a.put o.dst (a.eval s)) w := h _ _ (by simpa using hown) (Keeps.refl _ _) (.inl rfl)
    unfold Oper.wp
    simp [execOp, ho, resolve, invoke, builtin, hx', hrun, Result.andThen]
    exact hfin
  | some ad =>
    obtain ⟨v', w', hr, h2, h3, h4, h5⟩ := run_append_own_at (P := P) w base t o.type e i (.int .u8 0) 1 1 ht hi hz hsize hby rfl (by omega) _ xs.length (bl xs) hown ad bs.length c (bl bs) (by simp)
      (fun j u hu => by
        obtain ⟨ad', h1, h2⟩ := hsrc (by have := (List.getElem?_eq_some_iff.1 hu).1; simp at this; omega)
        cases h1
        exact h2 j u hu) (bl_one bs) (by have : maxLen = 9223372036854775807 := rfl; omega) (by omega) hbase
    have hfin : K (a.put o.dst v') w' := h v' w' (by rw [List.length_append, bl_append]; exact h2) (keeps_only h3 fun k hk => hk) h5
    unfold Oper.wp execOp
    simp only [ho, resolve, invoke, builtin, Sem.run_bind, Sem.run_pure, Result.andThen_ok, List.map_toArray, List.map_cons, List.map_nil, hx, hr]
    exact hfin
theorem ord_append_bytes (hop : l[i]? = some o) (hw : Region.wanted o (yielded l.toArray a.tmps) = true) (s x : Operand) (t : TypeId)
    (ho : o.op = .call { callee := .builtin .append, args := #[s, x], argTypes := #[t, t] })
    (base : Nat) (e : TypeId) (ti : TypeInfo) (ht : P.underlying t = some (.slice e)) (hi : P.info? e = some ti) (hz : ti.zero = some (.int .u8 0)) (hsize : ti.size = 1) (hby : ti.bytes = 1)
    (v : Value) (xs : List (BitVec 8)) (hs : a.eval s = v) (hown : w.ownsRow base e 1 v xs.length (bl xs))
    (sp : Option Addr) (c : Nat) (bs : List (BitVec 8)) (hx : a.eval x = .slice sp bs.length c) (hsrc : Src w sp bs) (hnil : sp = none → c = 0)
    (hlim : xs.length + bs.length ≤ 140737488355328) (hbase : base ≤ w.heap.size)
    (h : ∀ v' w', w'.ownsRow base e 1 v' (xs ++ bs).length (bl (xs ++ bs)) → Keeps (fun k => v.ownBlock = some k) w w' → (v'.ownBlock = v.ownBlock ∨ v'.ownBlock = some w.heap.size) → D w' ∧ MtOrd.Ord P l.toArray D Q r (a.put o.dst v') w') :
    MtOrd.Ord P l.toArray D Q ((i, .loud) :: r) a w :=
  MtOrd.ord_loud hop hw fun _ hK => wp_append_bytes s x t ho base e ti ht hi hz hsize hby v xs hs hown sp c bs hx hsrc hnil hlim hbase fun v' w' h1 h2 h3 => hK _ _ (h v' w' h1 h2 h3).1 (h v' w' h1 h2 h3).2
theorem run_buildSlice0 (w : World) (t e : TypeId) (ie : TypeInfo) (z : Value)
    (hu : P.underlying t = some (.slice e)) (hie : P.info? e = some ie) (_ : ie.zero = some z) :
    (Instr.buildSlice t 0 #[]).run P w = .ok (.slice (some ⟨w.heap.size, 0, none⟩) 0 0) (w.alloc (.cells #[] e)) := by
  have h0 : Array.map (fun _ => (default : Value)) (Array.range 0) = #[] := by apply Array.ext <;> simp
  simp [Instr.buildSlice, run_underlying hu, sizeOf, typeInfo, hie, newRow, Instr.fill]
  rw [h0]
theorem ord_build0 (hop : l[i]? = some o) (hw : Region.wanted o (yielded l.toArray a.tmps) = true) (t e : TypeId) (ie : TypeInfo) (z : Value) (ho : o.op = .buildSlice t 0 #[])
    (hu : P.underlying t = some (.slice e)) (hie : P.info? e = some ie) (hz : ie.zero = some z)
    (hD : D (w.alloc (.cells #[] e))) (h : MtOrd.Ord P l.toArray D Q r (a.put o.dst (.slice (some ⟨w.heap.size, 0, none⟩) 0 0)) (w.alloc (.cells #[] e))) :
    MtOrd.Ord P l.toArray D Q ((i, .loud) :: r) a w :=
  MtOrd.ord_loud hop hw fun K hK => by
    have hf := hK _ _ hD h
    unfold Oper.wp execOp
    simp only [ho, Sem.run_bind, List.map_toArray, List.map_nil, run_buildSlice0 w t e ie z hu hie hz, Result.andThen_ok]
    exact hf
theorem ord_pick (hop : l[i]? = some o) (hw : Region.wanted o (yielded l.toArray a.tmps) = true) (c x y : Operand) (b : Bool) (ho : o.op = .pick c x y) (hc : a.eval c = .bool b)
    (hD : D w) (h : MtOrd.Ord P l.toArray D Q r (a.put o.dst (if b then a.eval x else a.eval y)) w) : MtOrd.Ord P l.toArray D Q ((i, .loud) :: r) a w :=
  MtOrd.ord_loud hop hw fun K hK => by
    have hf := hK _ _ hD h
    unfold Oper.wp execOp
    simp only [ho, hc, asBool, Sem.run_bind, Sem.run_pure, Result.andThen_ok]
    exact hf
theorem ord_storeD (ho : l[i]? = some o) (hw : Region.wanted o (yielded l.toArray a.tmps) = true)
    (ty : TypeId) (x y : Operand) (hop : o.op = .store ty x y) (b off : Nat) (cells : Array Value) (hx : a.eval x = .pointer (some ⟨b, off, none⟩)) (hy : a.eval y = .agg cells)
    (ht : w.there b off cells.size) (hi : (P.info? ty).map (·.size) = some cells.size) (h1 : cells.all (·.oneCell') = true) (hD : D (w.setCells b off cells.toList))
    (h : MtOrd.Ord P l.toArray D Q r (a.put o.dst undef) (w.setCells b off cells.toList)) : MtOrd.Ord P l.toArray D Q ((i, .loud) :: r) a w :=
  MtOrd.ord_loud ho hw fun _ hK => wp_store_mid ty x y hop b off cells hx hy ht hi h1 (hK _ _ hD h)
theorem quiet_eql {C : World → Prop} {K : Act → Prop} {op : Oper} (t t' : TypeId) (x y : Operand) (ho : op.op = .binOp .eql t x y t') (cs ds : Array Value) (b : Bool) (hx : a.eval x = .agg cs) (hy : a.eval y = .agg ds)
    (hg : P.eqGuardType P.depth t = false) (h : ∀ w, (binOp .eql t (.agg cs) (.agg ds)).run P w = .ok (.bool b) w) (hK : K (a.put op.dst (.bool b))) : op.quiet P a C K :=
  ⟨.bool b, fun w _ => by
    unfold Oper.quietAt execOp
    have h0 : (eqGuard .eql t x y (.agg cs) (.agg ds)).run P w = .ok () w := by simp [eqGuard, hg]
    simp only [ho, hx, hy, Sem.run_bind, h0, Result.andThen_ok]
    simp [h w, Oper.quietUpon], hK⟩
theorem quiet_load_arr {C : World → Prop} {K : Act → Prop} {op : Oper} (ty : TypeId) (x : Operand) (ho : op.op = .load ty x)
    (b o : Nat) (hx : a.eval x = .pointer (some ⟨b, o, none⟩)) (cs : Array Value) (d : TypeDesc) (hC : ∀ w, C w → w.rangeAt b o cs.toList)
    (hu : P.underlying ty = some d) (hd : d.isRow = true) (hi : (P.info? ty).map (·.size) = some cs.toList.length) (h : K (a.put op.dst (.agg cs))) : op.quiet P a C K :=
  quiet_load_mid ty x ho b o hx cs.toList d hC hu hd hi (by rw [Array.toArray_toList]; exact h)
/-- 'copy' of cells that lie somewhere into a row, at the place off. -/
theorem ord_copy (hop : l[i]? = some o) (hw : Region.wanted o (yielded l.toArray a.tmps) = true) (d s : Operand) (dT sT : TypeId)
    (ho : o.op = .call { callee := .builtin .copy, args := #[d, s], argTypes := #[dT, sT] }) (elem : TypeId) (hu : P.underlying dT = some (.slice elem)) (hsz : (P.info? elem).map (·.size) = some 1)
    (g off dLen dCap : Nat) (ad : Addr) (sLen sCap : Nat) (hd : a.eval d = .slice (some ⟨g, off, none⟩) dLen dCap) (hs : a.eval s = .slice (some ad) sLen sCap)
    (cur : Array Value) (t : TypeId) (hg : w.heap[g]? = some (.cells cur t (0, 0))) (cs : List Value) (hn : cs.length = Nat.min sLen dLen)
    (hsrc : ∀ j v, cs[j]? = some v → w.cell? (ad.add j) = some v) (hfit : off + cs.length ≤ cur.size) (h1 : ∀ v ∈ cs, v.oneCell' = true)
    (h : ∀ w', w'.heap[g]? = some (.cells (splice cur.toList off cs).toArray t (0, 0)) → (∀ B w0, Below B w0 w → B ≤ g → Below B w0 w') → (∀ k, k ≠ g → w'.heap[k]? = w.heap[k]?) → D w' ∧ MtOrd.Ord P l.toArray D Q r (a.put o.dst (goInt cs.length)) w') :
    MtOrd.Ord P l.toArray D Q ((i, .loud) :: r) a w :=
  MtOrd.ord_loud hop hw fun K hK => by
    have hrun := run_copy_row (P := P) w dT sT o.type elem g off dLen dCap ad sLen sCap cur t cs hu hsz hg hn hsrc hfit h1
    obtain ⟨h2, h3⟩ := h (w.setRow g (cur.toList.take off ++ (cs ++ cur.toList.drop (off + cs.length))).toArray) (setRow_heap w g _ _ t _ hg) (fun B w0 hb hBg => below_setRow hb hBg _) (fun k hk => setRow_other w g k _ hk)
    have hf := hK _ _ h2 h3
    unfold Oper.wp
    simp [execOp, ho, resolve, invoke, builtin, hd, hs, hrun, Result.andThen]
    exact hf
end
/-- Bytes as a string. -/
def strOf (bs : List (BitVec 8)) : ByteArray := ⟨(bs.map fun b => UInt8.ofNat b.toNat).toArray⟩
theorem conv_src {P : Program} {w : World} {sp : Option Addr} {c : Nat} {bs : List (BitVec 8)} (src dst e : TypeId) (hs : P.underlying src = some (.slice e)) (he : P.underlying e = some (.int .u8)) (hd : P.underlying dst = some .string)
    (h : Src w sp bs) (hnil : sp = none → c = 0) (hl : bs.length ≤ 9223372036854775807) : (convert src dst (.slice sp bs.length c)).run P w = .ok (.string (strOf bs)) w := by
  have hlen : (bs.map fun b => UInt8.ofNat b.toNat).length = bs.length := by simp
  cases sp with
  | none =>
    have hb : bs = [] := by
      cases bs with
      | nil => rfl
      | cons b bs => obtain ⟨ad, h, _⟩ := h (by simp); cases h
    subst hb
    have hc := hnil rfl
    subst hc
    rw [List.length_nil, run_convert_bytes_string w src dst e none 0 0 hs he hd]; rfl
  | some a =>
    have := run_convert_bytes_back (P := P) w src dst e a c (bs.map fun b => UInt8.ofNat b.toNat) hs he hd (fun j hj => by
      rw [hlen] at hj
      obtain ⟨ad, h1, h2⟩ := h (by omega)
      cases h1
      rw [h2 j _ (bl_get bs j hj)]
      congr 2
      unfold B
      rw [List.getElem_map, UInt8.toNat_ofNat', List.getD_eq_getElem?_getD, List.getElem?_eq_getElem hj]
      have := (bs[j]).isLt
      simp only [Option.getD_some]
      rw [Nat.mod_eq_of_lt (by omega)])
    rw [hlen] at this
    exact this
end Go.Mt
