/- Digests in regions that draw their order; what is owned, read back. No program in sight but its table of types. -/
import Derived.Test.YtikkebjhnechdaaDoorMerHashes
namespace Go.Mt
open Go.RowKit
section
variable {P : Program} {D : World → Prop} {Q : Exit → Act → World → Prop} {l : List Oper} {o : Oper} {i : Nat} {r : List (Nat × MtOrd.Ent)} {a : Act} {w : World}
theorem wp_build1 {K : Act → World → Prop} (t e : TypeId) (x : Operand) (ho : o.op = .buildSlice t 1 #[(0, x)])
    (cells : Array Value) (ie : TypeInfo) (z : Value) (hu : P.underlying t = some (.slice e)) (hie : P.info? e = some ie) (hz : ie.zero = some z) (hsz : ie.size = cells.size) (hpos : 0 < cells.size) (hsm : cells.size ≤ 16777216)
    (hx : a.eval x = .agg cells) (h : K (a.put o.dst (.slice (some ⟨w.heap.size, 0, none⟩) 1 1)) (w.alloc (.cells cells e))) : o.wp P a w K Q := by
  refine wp_buildSlice t e 1 #[(0, x)] ho cells ie z hu hie hz (by rw [hsz]; simpa using hsm) (by rw [hsz]; omega) ?_ h
  have e1 : ((#[(0, x)] : Array (Nat × Operand)).map fun (i, x) => (i, a.eval x)).toList = [(0, .agg cells)] := by simp [hx]
  rw [e1, hsz]
  have := fill_one cells ((Array.range (1 * cells.size)).map (z.cells[· % z.cells.size]!)) (by simpa using hpos) (by simp)
  simpa using this
/-- Digests behind those that a slice of the call's own holds. -/
theorem wp_append_dgs {K : Act → World → Prop} (s x : Operand) (t : TypeId)
    (ho : o.op = .call { callee := .builtin .append, args := #[s, x], argTypes := #[t, t] })
    (base : Nat) (e : TypeId) (ti : TypeInfo) (z : Value) (ht : P.underlying t = some (.slice e)) (hi : P.info? e = some ti) (hz : ti.zero = some z) (hzs : z.cells.size = 32) (hsize : ti.size = 32) (hby : ti.bytes = 32)
    (v : Value) (ds es : List Dg) (hs : a.eval s = v) (hown : w.ownsRow base e 32 v ds.length (dl ds))
    (ad : Addr) (c : Nat) (hx : a.eval x = .slice (some ad) es.length c) (hsrc : ∀ j u, (dl es)[j]? = some u → w.cell? (ad.add j) = some u)
    (hlim : ds.length + es.length ≤ 4398046511104) (hbase : base ≤ w.heap.size)
    (h : ∀ v' w', w'.ownsRow base e 32 v' (ds ++ es).length (dl (ds ++ es)) → Keeps (fun k => v.ownBlock = some k) w w' → (v'.ownBlock = v.ownBlock ∨ v'.ownBlock = some w.heap.size) → K (a.put o.dst v') w') :
    o.wp P a w K Q := by
  subst hs
  obtain ⟨v', w', hr, h2, h3, h4, h5⟩ := run_append_own_at (P := P) w base t o.type e ti z 32 32 ht hi hz hsize hby hzs (by omega) _ ds.length (dl ds) hown ad es.length c (dl es) (by simp)
    hsrc (dl_one _) (by have : maxLen = 9223372036854775807 := rfl; omega) (by omega) hbase
  have hfin : K (a.put o.dst v') w' := h v' w' (by rw [List.length_append, dl_append]; exact h2) (keeps_only h3 fun k hk => hk) h5
  unfold Oper.wp execOp
  simp only [ho, resolve, invoke, builtin, Sem.run_bind, Sem.run_pure, Result.andThen_ok, List.map_toArray, List.map_cons, List.map_nil, hx, hr]
  exact hfin
/-- One digest, as a source. -/
theorem src_one {ad : Addr} {d : Dg} (hsrc : ∀ j, j < 32 → w.cell? (ad.add j) = some (.int .u8 (B (d j)))) : ∀ j u, (dl [d])[j]? = some u → w.cell? (ad.add j) = some u := fun j u hu => by
  have hj := (List.getElem?_eq_some_iff.1 hu).1
  simp at hj
  have h1 := dl_get [d] 0 j (by simp) hj
  rw [Nat.mul_zero, Nat.zero_add] at h1
  rw [h1] at hu
  cases hu
  exact hsrc j hj
end
/-- What is owned, read back. -/
theorem own_dgs {w : World} {base : Nat} {e : TypeId} {v : Value} {n : Nat} {F : Nat → Dg} (h : w.ownsRow base e 32 v n (dl (firstL F n))) (hn : 0 < n) :
    ∃ g cap, v = .slice (some ⟨g, 0, none⟩) n cap ∧ v.ownBlock = some g ∧ base ≤ g ∧ g < w.heap.size ∧ n ≤ cap ∧ DgsAt w g 0 n F := by
  rcases h.2 with ⟨rfl, h0⟩ | ⟨g, cap, cur, rfl, hb, hg, h1, h2, h3, h4⟩
  · omega
  · refine ⟨g, cap, rfl, rfl, hb, lt_row hg, h1, fun k hk j u hu => ?_⟩
    have hj := (List.getElem?_eq_some_iff.1 hu).1
    simp at hj
    rw [Array.getElem?_toList, arr_get, if_pos hj] at hu
    have h5 := h.cells (g := g) rfl (32 * k + j) u (by
      rw [dl_get _ k j (by simpa using hk) hj, ← hu]
      unfold firstL ub
      rw [List.getD_eq_getElem?_getD, List.getElem?_map, List.getElem?_range hk]; rfl)
    rw [Addr.add_mid] at h5
    rw [show 0 + k * 32 + j = 0 + (32 * k + j) by omega]; exact h5
theorem own_below {w w' : World} {base : Nat} {e : TypeId} {s : Nat} {v : Value} {n : Nat} {xs : List Value} {B : Nat} (h : w.ownsRow base e s v n xs) (k : Below B w w') (hB : w.heap.size ≤ B) : w'.ownsRow base e s v n xs := by
  rcases h.2 with ⟨rfl, h0⟩ | ⟨g, cap, cur, rfl, hb, hg, h1, h2, h3, h4⟩
  · exact ⟨h.1, .inl ⟨rfl, h0⟩⟩
  · exact ⟨h.1, .inr ⟨g, cap, cur, rfl, hb, keep_below k hg (Nat.lt_of_lt_of_le (lt_row hg) hB), h1, h2, h3, h4⟩⟩
theorem DgsAt.below {B : Nat} {w w' : World} {b o n : Nat} {F : Nat → Dg} (h : DgsAt w b o n F) (hb : Below B w w') (hlt : b < B) : DgsAt w' b o n F := fun k hk j u hu => by
  rw [hb.cell (p := ⟨b, o + k * 32 + j, none⟩) hlt]; exact h k hk j u hu
theorem DgsAt.keeps {S : Nat → Prop} {w w' : World} {b o n : Nat} {F : Nat → Dg} (h : DgsAt w b o n F) (hk : Keeps S w w') (hlt : b < w.heap.size) (hS : ¬ S b) : DgsAt w' b o n F := fun k hkn j u hu => by
  rw [World.cell?_of_block (a := ⟨b, o + k * 32 + j, none⟩) (hk.block b hlt hS)]; exact h k hkn j u hu
theorem DgsAt.ext {w : World} {b o n : Nat} {F G : Nat → Dg} (h : DgsAt w b o n F) (hFG : ∀ k, k < n → ∀ i, i < 32 → F k i = G k i) : DgsAt w b o n G := fun k hk => by
  rw [← bytes_ext (hFG k hk)]; exact h k hk
/-- A piece of it. -/
theorem DgsAt.piece {w : World} {b o n : Nat} {F : Nat → Dg} (h : DgsAt w b o n F) (lo m : Nat) (hm : lo + m ≤ n) : DgsAt w b (o + lo * 32) m (fun k => F (lo + k)) := fun k hk => by
  rw [show o + lo * 32 + k * 32 = o + (lo + k) * 32 by omega]; exact h (lo + k) (by omega)
/-- Digests at a place, as a source of 'append'. -/
theorem DgsAt.src {w : World} {b o n : Nat} {F : Nat → Dg} (h : DgsAt w b o n F) : ∀ j u, (dl (firstL F n))[j]? = some u → w.cell? ((⟨b, o, none⟩ : Addr).add j) = some u := fun j u hu => by
  have hj := (List.getElem?_eq_some_iff.1 hu).1
  simp at hj
  have e : j = 32 * (j / 32) + j % 32 := by omega
  have hm : j % 32 < 32 := Nat.mod_lt _ (by decide)
  have hk : j / 32 < n := by omega
  rw [e, dl_get _ (j / 32) (j % 32) (by simpa using hk) hm] at hu
  have := h (j / 32) hk (j % 32) u (by
    rw [Array.getElem?_toList, arr_get, if_pos hm, ← hu]
    unfold firstL ub
    rw [List.getD_eq_getElem?_getD, List.getElem?_map, List.getElem?_range hk]; rfl)
  rw [Addr.add_mid]
  rw [show o + j / 32 * 32 + j % 32 = o + j by omega] at this; exact this
end Go.Mt
namespace Go.Proofs.YtikkebjhnechdaaDoor
open Go.RowKit Go.Mt
section
variable {D : World → Prop} {Q : Exit → Act → World → Prop} {K : Act → World → Prop} {o : Oper} {a : Act} {w : World}
theorem wp_build1H (x : Operand) (ho : o.op = .buildSlice 50 1 #[(0, x)]) (f : Nat → BitVec 8) (hx : a.eval x = .agg (arr 32 (ub f))) (N : Nat) (hN : w.heap.size = N)
    (h : K (a.put o.dst (.slice (some ⟨N, 0, none⟩) 1 1)) (w.alloc (.cells (arr 32 (ub f)) 27))) : o.wp Tryd.prog a w K Q := by
  subst hN
  exact wp_build1 50 27 x ho (arr 32 (ub f)) Tryd.t27 (.agg z32) Tryd.underlying50 (by kernel_rfl) (by kernel_rfl) (by rw [arr_size]; kernel_rfl) (by rw [arr_size]; decide) (by rw [arr_size]; decide) hx h
theorem wp_build1B (x : Operand) (ho : o.op = .buildSlice 48 1 #[(0, x)]) (f : Nat → BitVec 8) (hx : a.eval x = .agg (arr 32 (ub f))) (N : Nat) (hN : w.heap.size = N)
    (h : K (a.put o.dst (.slice (some ⟨N, 0, none⟩) 1 1)) (w.alloc (.cells (arr 32 (ub f)) 26))) : o.wp Tryd.prog a w K Q := by
  subst hN
  exact wp_build1 48 26 x ho (arr 32 (ub f)) Tryd.t26 (.agg z32) Tryd.underlying48 (by kernel_rfl) (by kernel_rfl) (by rw [arr_size]; kernel_rfl) (by rw [arr_size]; decide) (by rw [arr_size]; decide) hx h
theorem wp_appendH (s x : Operand) (ho : o.op = .call { callee := .builtin .append, args := #[s, x], argTypes := #[50, 50] })
    (base : Nat) (v : Value) (ds es : List Dg) (hs : a.eval s = v) (hown : w.ownsRow base 27 32 v ds.length (dl ds))
    (ad : Addr) (c : Nat) (hx : a.eval x = .slice (some ad) es.length c) (hsrc : ∀ j u, (dl es)[j]? = some u → w.cell? (ad.add j) = some u) (hlim : ds.length + es.length ≤ 4398046511104) (hbase : base ≤ w.heap.size)
    (h : ∀ v' w', w'.ownsRow base 27 32 v' (ds ++ es).length (dl (ds ++ es)) → Keeps (fun k => v.ownBlock = some k) w w' → (v'.ownBlock = v.ownBlock ∨ v'.ownBlock = some w.heap.size) → K (a.put o.dst v') w') :
    o.wp Tryd.prog a w K Q :=
  wp_append_dgs s x 50 ho base 27 Tryd.t27 (.agg z32) Tryd.underlying50 (by kernel_rfl) (by kernel_rfl) (by kernel_rfl) (by kernel_rfl) (by kernel_rfl) v ds es hs hown ad c hx hsrc hlim hbase h
theorem wp_appendB (s x : Operand) (ho : o.op = .call { callee := .builtin .append, args := #[s, x], argTypes := #[48, 48] })
    (base : Nat) (v : Value) (ds es : List Dg) (hs : a.eval s = v) (hown : w.ownsRow base 26 32 v ds.length (dl ds))
    (ad : Addr) (c : Nat) (hx : a.eval x = .slice (some ad) es.length c) (hsrc : ∀ j u, (dl es)[j]? = some u → w.cell? (ad.add j) = some u) (hlim : ds.length + es.length ≤ 4398046511104) (hbase : base ≤ w.heap.size)
    (h : ∀ v' w', w'.ownsRow base 26 32 v' (ds ++ es).length (dl (ds ++ es)) → Keeps (fun k => v.ownBlock = some k) w w' → (v'.ownBlock = v.ownBlock ∨ v'.ownBlock = some w.heap.size) → K (a.put o.dst v') w') :
    o.wp Tryd.prog a w K Q :=
  wp_append_dgs s x 48 ho base 26 Tryd.t26 (.agg z32) Tryd.underlying48 (by kernel_rfl) (by kernel_rfl) (by kernel_rfl) (by kernel_rfl) (by kernel_rfl) v ds es hs hown ad c hx hsrc hlim hbase h
section
variable {l : List Oper} {i : Nat} {r : List (Nat × MtOrd.Ent)}
theorem ord_build1H (hop : l[i]? = some o) (hw : Region.wanted o (yielded l.toArray a.tmps) = true) (x : Operand) (ho : o.op = .buildSlice 50 1 #[(0, x)]) (f : Nat → BitVec 8) (hx : a.eval x = .agg (arr 32 (ub f))) (N : Nat) (hN : w.heap.size = N)
    (hD : D (w.alloc (.cells (arr 32 (ub f)) 27))) (h : MtOrd.Ord Tryd.prog l.toArray D Q r (a.put o.dst (.slice (some ⟨N, 0, none⟩) 1 1)) (w.alloc (.cells (arr 32 (ub f)) 27))) : MtOrd.Ord Tryd.prog l.toArray D Q ((i, .loud) :: r) a w :=
  MtOrd.ord_loud hop hw fun _ hK => wp_build1H x ho f hx N hN (hK _ _ hD h)
theorem ord_build1B (hop : l[i]? = some o) (hw : Region.wanted o (yielded l.toArray a.tmps) = true) (x : Operand) (ho : o.op = .buildSlice 48 1 #[(0, x)]) (f : Nat → BitVec 8) (hx : a.eval x = .agg (arr 32 (ub f))) (N : Nat) (hN : w.heap.size = N)
    (hD : D (w.alloc (.cells (arr 32 (ub f)) 26))) (h : MtOrd.Ord Tryd.prog l.toArray D Q r (a.put o.dst (.slice (some ⟨N, 0, none⟩) 1 1)) (w.alloc (.cells (arr 32 (ub f)) 26))) : MtOrd.Ord Tryd.prog l.toArray D Q ((i, .loud) :: r) a w :=
  MtOrd.ord_loud hop hw fun _ hK => wp_build1B x ho f hx N hN (hK _ _ hD h)
theorem ord_appendH (hop : l[i]? = some o) (hw : Region.wanted o (yielded l.toArray a.tmps) = true) (s x : Operand) (ho : o.op = .call { callee := .builtin .append, args := #[s, x], argTypes := #[50, 50] })
    (base : Nat) (v : Value) (ds es : List Dg) (hs : a.eval s = v) (hown : w.ownsRow base 27 32 v ds.length (dl ds))
    (ad : Addr) (c : Nat) (hx : a.eval x = .slice (some ad) es.length c) (hsrc : ∀ j u, (dl es)[j]? = some u → w.cell? (ad.add j) = some u) (hlim : ds.length + es.length ≤ 4398046511104) (hbase : base ≤ w.heap.size)
    (h : ∀ v' w', w'.ownsRow base 27 32 v' (ds ++ es).length (dl (ds ++ es)) → Keeps (fun k => v.ownBlock = some k) w w' → (v'.ownBlock = v.ownBlock ∨ v'.ownBlock = some w.heap.size) → D w' ∧ MtOrd.Ord Tryd.prog l.toArray D Q r (a.put o.dst v') w') :
    MtOrd.Ord Tryd.prog l.toArray D Q ((i, .loud) :: r) a w :=
  MtOrd.ord_loud hop hw fun _ hK => wp_appendH s x ho base v ds es hs hown ad c hx hsrc hlim hbase fun v' w' h1 h2 h3 => hK _ _ (h v' w' h1 h2 h3).1 (h v' w' h1 h2 h3).2
theorem ord_appendB (hop : l[i]? = some o) (hw : Region.wanted o (yielded l.toArray a.tmps) = true) (s x : Operand) (ho : o.op = .call { callee := .builtin .append, args := #[s, x], argTypes := #[48, 48] })
    (base : Nat) (v : Value) (ds es : List Dg) (hs : a.eval s = v) (hown : w.ownsRow base 26 32 v ds.length (dl ds))
    (ad : Addr) (c : Nat) (hx : a.eval x = .slice (some ad) es.length c) (hsrc : ∀ j u, (dl es)[j]? = some u → w.cell? (ad.add j) = some u) (hlim : ds.length + es.length ≤ 4398046511104) (hbase : base ≤ w.heap.size)
    (h : ∀ v' w', w'.ownsRow base 26 32 v' (ds ++ es).length (dl (ds ++ es)) → Keeps (fun k => v.ownBlock = some k) w w' → (v'.ownBlock = v.ownBlock ∨ v'.ownBlock = some w.heap.size) → D w' ∧ MtOrd.Ord Tryd.prog l.toArray D Q r (a.put o.dst v') w') :
    MtOrd.Ord Tryd.prog l.toArray D Q ((i, .loud) :: r) a w :=
  MtOrd.ord_loud hop hw fun _ hK => wp_appendB s x ho base v ds es hs hown ad c hx hsrc hlim hbase fun v' w' h1 h2 h3 => hK _ _ (h v' w' h1 h2 h3).1 (h v' w' h1 h2 h3).2
end
end
section
variable {ops : Array Oper} {rest : List Oper} {o : Oper} {a : Act} {w : World} {Q : Exit → Act → World → Prop}
/-- Many digests at once. -/
theorem appendHs (hgd : o.guard = none) (s x : Operand) (ho : o.op = .call { callee := .builtin .append, args := #[s, x], argTypes := #[50, 50] })
    (base : Nat) (v : Value) (ds es : List Dg) (hs : a.eval s = v) (hown : w.ownsRow base 27 32 v ds.length (dl ds))
    (ad : Addr) (c : Nat) (hx : a.eval x = .slice (some ad) es.length c) (hsrc : ∀ j u, (dl es)[j]? = some u → w.cell? (ad.add j) = some u) (hlim : ds.length + es.length ≤ 4398046511104) (hbase : base ≤ w.heap.size)
    (h : ∀ v' w', w'.ownsRow base 27 32 v' (ds ++ es).length (dl (ds ++ es)) → Keeps (fun k => v.ownBlock = some k) w w' → (v'.ownBlock = v.ownBlock ∨ v'.ownBlock = some w.heap.size) → wpList Tryd.prog ops Q rest (a.put o.dst v') w') :
    wpList Tryd.prog ops Q (o :: rest) a w :=
  wpList_plain hgd fun _ hK => wp_appendH s x ho base v ds es hs hown ad c hx hsrc hlim hbase fun v' w' h1 h2 h3 => hK _ _ (h v' w' h1 h2 h3)
theorem appendBs (hgd : o.guard = none) (s x : Operand) (ho : o.op = .call { callee := .builtin .append, args := #[s, x], argTypes := #[48, 48] })
    (base : Nat) (v : Value) (ds es : List Dg) (hs : a.eval s = v) (hown : w.ownsRow base 26 32 v ds.length (dl ds))
    (ad : Addr) (c : Nat) (hx : a.eval x = .slice (some ad) es.length c) (hsrc : ∀ j u, (dl es)[j]? = some u → w.cell? (ad.add j) = some u) (hlim : ds.length + es.length ≤ 4398046511104) (hbase : base ≤ w.heap.size)
    (h : ∀ v' w', w'.ownsRow base 26 32 v' (ds ++ es).length (dl (ds ++ es)) → Keeps (fun k => v.ownBlock = some k) w w' → (v'.ownBlock = v.ownBlock ∨ v'.ownBlock = some w.heap.size) → wpList Tryd.prog ops Q rest (a.put o.dst v') w') :
    wpList Tryd.prog ops Q (o :: rest) a w :=
  wpList_plain hgd fun _ hK => wp_appendB s x ho base v ds es hs hown ad c hx hsrc hlim hbase fun v' w' h1 h2 h3 => hK _ _ (h v' w' h1 h2 h3)
end
end Go.Proofs.YtikkebjhnechdaaDoor
