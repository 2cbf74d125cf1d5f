/- General lemmas on regions that draw their order: ONE walk, in an order of the prover's own choice, serves every order. No program in sight. -/
import Derived.WalkKit
import Derived.Deep.QuietTactic
import Derived.BigQuiet
import Derived.OrdersHeld
import Derived.StillTail
import Derived.KernelRfl
namespace Go.MtOrd
open Go

/-- Operation 'j' waits, through whatever chain, for operation 'i'. -/
inductive Anc (ops : Array Oper) : Nat → Nat → Prop
  | edge {j i : Nat} {o : Oper} {e : Edge} : ops[j]? = some o → e ∈ o.after → Region.binds .any e = true → e.on = i → Anc ops j i
  | trans {j i : Nat} {o : Oper} {e : Edge} : ops[j]? = some o → e ∈ o.after → Region.binds .any e = true → Anc ops e.on i → Anc ops j i

def force {α : Type} (n : Nat) (k : Nat → α) : α := match n with | 0 => k 0 | m + 1 => k (m + 1)
theorem force_eq {α : Type} (n : Nat) (k : Nat → α) : force n k = k n := by cases n <;> rfl

def mask (acc : List Nat) (o : Oper) : Nat := o.after.toList.foldl (fun s e => if Region.binds .any e then s ||| 2 ^ e.on ||| acc.getD e.on 0 else s) 0
def ancL : List Oper → List Nat → List Nat
  | [], acc => acc
  | o :: r, acc => force (mask acc o) fun m => ancL r (acc ++ [m])

theorem mask_bit (acc : List Nat) (i : Nat) : ∀ (es : List Edge) (s : Nat), (es.foldl (fun s e => if Region.binds .any e then s ||| 2 ^ e.on ||| acc.getD e.on 0 else s) s).testBit i = true →
    s.testBit i = true ∨ ∃ e ∈ es, Region.binds .any e = true ∧ (e.on = i ∨ (acc.getD e.on 0).testBit i = true)
  | [], s, h => .inl h
  | e :: es, s, h => by
    rw [List.foldl_cons] at h
    rcases mask_bit acc i es _ h with h | ⟨e', he', hb, h⟩
    · by_cases hb : Region.binds .any e = true
      · rw [if_pos hb, Nat.testBit_or, Nat.testBit_or, Bool.or_eq_true, Bool.or_eq_true] at h
        rcases h with (h | h) | h
        · exact .inl h
        · rw [Nat.testBit_two_pow] at h
          exact .inr ⟨e, List.mem_cons_self .., hb, .inl (by simpa using h)⟩
        · exact .inr ⟨e, List.mem_cons_self .., hb, .inr h⟩
      · rw [if_neg hb] at h; exact .inl h
    · exact .inr ⟨e', List.mem_cons_of_mem _ he', hb, h⟩

theorem ancL_ok (ops : Array Oper) : ∀ (l : List Oper) (acc : List Nat), (∀ j, l[j]? = ops[acc.length + j]?) →
    (∀ j i, (acc.getD j 0).testBit i = true → Anc ops j i) → ∀ j i, ((ancL l acc).getD j 0).testBit i = true → Anc ops j i
  | [], acc, _, h => h
  | o :: r, acc, hl, h => by
    rw [ancL, force_eq]
    refine ancL_ok ops r (acc ++ [mask acc o]) (fun j => by have := hl (j + 1); simpa [Nat.add_assoc, Nat.add_comm 1 j] using this) ?_
    intro j i hb
    by_cases hj : j < acc.length
    · rw [List.getD_eq_getElem?_getD, List.getElem?_append_left hj, ← List.getD_eq_getElem?_getD] at hb; exact h j i hb
    · by_cases hj2 : j = acc.length
      · subst hj2
        have h0 : ops[acc.length]? = some o := by simpa using (hl 0).symm
        have e1 : (acc ++ [mask acc o]).getD acc.length 0 = mask acc o := by simp
        rw [e1] at hb
        rcases mask_bit acc i _ 0 hb with hb | ⟨e, he, hbn, hb | hb⟩
        · simp at hb
        · exact .edge h0 (by simpa using he) hbn hb
        · exact .trans h0 (by simpa using he) hbn (h _ _ hb)
      · have e1 : (acc ++ [mask acc o]).getD j 0 = 0 := by
          rw [List.getD_eq_getElem?_getD, List.getElem?_eq_none (by simp; omega)]; rfl
        rw [e1] at hb; simp at hb

/-- What has come up is closed under waiting. -/
def Closed (ops : Array Oper) (listed : Array Bool) : Prop :=
  ∀ j o, ops[j]? = some o → listed.getD j false = true → ∀ e ∈ o.after, Region.binds .any e = true → listed.getD e.on false = true

theorem anc_listed {ops : Array Oper} {listed : Array Bool} (hc : Closed ops listed) {j i : Nat} (h : Anc ops j i) :
    (listed.getD j false = true ∨ j ∈ Region.ready .any ops listed) → listed.getD i false = true := by
  induction h with
  | edge ho he hb hi =>
    rintro (h | h)
    · rw [← hi]; exact hc _ _ ho h _ he hb
    · obtain ⟨_, o', ho', hall⟩ := mem_ready.1 h
      rw [ho] at ho'; cases ho'
      rw [← hi]; exact hall _ he hb
  | trans ho he hb _ ih =>
    rintro (h | h)
    · exact ih (.inl (hc _ _ ho h _ he hb))
    · obtain ⟨_, o', ho', hall⟩ := mem_ready.1 h
      rw [ho] at ho'; cases ho'
      exact ih (.inl (hall _ he hb))

theorem Closed.set {ops : Array Oper} {listed : Array Bool} (hc : Closed ops listed) {i : Nat} (hi : i ∈ Region.ready .any ops listed) : Closed ops (listed.setIfInBounds i true) := by
  obtain ⟨_, oi, hoi, hall⟩ := mem_ready.1 hi
  intro j oj hj hl e he hb
  by_cases hij : i = j
  · subst hij
    rw [hoi] at hj; cases hj
    exact getD_set_true (hall e he hb)
  · rw [getD_set_ne false hij] at hl
    exact getD_set_true (hc j oj hj hl e he hb)

inductive Kind where | head | free | loud
  deriving DecidableEq

section
variable {P : Program} {ops : Array Oper} {D : World → Prop} {Q : Exit → Act → World → Prop} {kind : Nat → Kind}

/-- Whatever order is picked from here on; each operation is met as its kind says: 'loud': by its wp; 'head': it is quiet in the world at hand; 'free': it is quiet in every world of D. -/
def wpAnyK (P : Program) (ops : Array Oper) (D : World → Prop) (Q : Exit → Act → World → Prop) (kind : Nat → Kind) : Nat → Array Bool → Act → World → Prop
  | 0, listed, a, w => Region.ready .any ops listed = [] ∧ Q .normal a w
  | fuel + 1, listed, a, w =>
    (Region.ready .any ops listed = [] → Q .normal a w) ∧
    ∀ i ∈ Region.ready .any ops listed,
      match kind i with
      | .loud => wpOp P ops Q i (fun a' w' => D w' ∧ wpAnyK P ops D Q kind fuel (listed.setIfInBounds i true) a' w') a w
      | .head => qOp P ops (fun w' => w' = w) i (fun a' => wpAnyK P ops D Q kind fuel (listed.setIfInBounds i true) a' w) a
      | .free => D w ∧ qOp P ops D i (fun a' => wpAnyK P ops D Q kind fuel (listed.setIfInBounds i true) a' w) a


/-- The operations that may be 'free': none of them calls. -/
def calm : Op → Bool
  | .move _ | .assign _ | .build .. | .makeInterface .. | .load .. | .nilCheck _ | .binOp .. | .unOp .. | .convert .. | .sliceToArrayPointer .. | .slice .. | .fieldAddr .. | .field .. | .indexAddr .. | .index .. | .extract .. | .lookup .. => true
  | _ => false

theorem run_value_next {P : Program} {s : Sem Value} {w w' : World} {f : FuncId} {args : Array Value} : ((do pure (.value (← s)) : Sem Next).run P w) ≠ .ok (.enter f args) w' := by
  rw [Sem.run_bind]
  cases s.run P w <;> simp [Result.andThen]

theorem calm_noEnter {ρ : Operand → Value} {o : Oper} (h : calm o.op = true) {w w' : World} {f : FuncId} {args : Array Value} : (execOp ρ o).run P w ≠ .ok (.enter f args) w' := by
  unfold execOp
  cases ho : o.op <;> simp only [ho, calm] at h ⊢ <;> first | (cases h; done) | exact run_value_next | skip
  case move => simp
  case assign => simp
  case nilCheck x =>
    intro hc
    split at hc <;> (try simp [runtimePanic] at hc) <;> (try cases hc)
    split at hc
    · simp [goPanic] at hc
    · simp only [Sem.run_bind, run_program, Result.andThen_ok] at hc
      generalize Sem.run P (nilAhead _ _ _ _) w = r at hc
      cases r with
      | halt x w2 => simp [Result.andThen] at hc
      | ok b w2 =>
        simp only [Result.andThen_ok] at hc
        split at hc
        · simp at hc
        · simp [unsupported] at hc
    · simp at hc

/-- It is a wpAny. -/
theorem wpAny_of_K (hk : ∀ i o, ops[i]? = some o → kind i = .free → calm o.op = true) :
    ∀ (fuel : Nat) (listed : Array Bool) (a : Act) (w : World), wpAnyK P ops D Q kind fuel listed a w → wpAny P .any ops Q fuel listed a w
  | 0, _, _, _, h => h
  | fuel + 1, listed, a, w, h => ⟨h.1, fun i hi => by
      have h2 := h.2 i hi
      split at h2
      · exact wpOp_mono (fun a' w' h' => wpAny_of_K hk fuel _ a' w' h'.2) h2
      · exact wpOp_of_qOp (C := fun w' => w' = w) rfl (fun a' w' hw' h' => by subst hw'; exact wpAny_of_K hk fuel _ a' _ h') h2
      · obtain ⟨hDw, h2⟩ := h2
        rename_i hki
        refine wpOp_of_qOp (C := fun w' => w' = w) (K := fun a' => wpAnyK P ops D Q kind fuel (listed.setIfInBounds i true) a' w) rfl (fun a' w' hw' h' => by subst hw'; exact wpAny_of_K hk fuel _ a' _ h') ?_
        unfold qOp at *
        split
        · rename_i ho; simpa [ho] using h2
        · rename_i o ho
          simp only [ho] at h2
          split
          · rename_i hw
            simp only [hw, if_true] at h2
            obtain ⟨v, h3, h4⟩ := h2
            refine ⟨v, fun w' hw' => ?_, h4⟩
            subst hw'
            have h5 := h3 _ hDw
            unfold Oper.quietAt at *
            have hne := fun f args w'' => calm_noEnter (P := P) (ρ := a.eval) (hk i o ho hki) (w := w') (w' := w'') (f := f) (args := args)
            generalize (execOp a.eval o).run P w' = r at *
            cases r with
            | ok n w'' =>
              cases n <;> simp only [Oper.quietUpon] at h5 ⊢ <;> first | exact h5 | skip
              case enter f args => exact absurd rfl (hne f args w'')
            | halt x w'' => simp only [Oper.quietUpon] at h5
          · rename_i hw; simp only [hw] at h2; exact h2⟩

/-- One operation 'oj', apart from 'oi', met by its wp: whether 'oi''s value is already in its temporary makes no difference to it; 'Y', which hangs on what 'oi' looks at alone, is kept. -/
theorem wpOp_put3 {j : Nat} {oi oj : Oper} {v : Value} (hj : ops[j]? = some oj) (hap : oi.apart ops oj = true)
    (hsj : ∀ cs b, oj.op ≠ .select cs b) (hQ : ∀ c a w, Q (.panic c) (a.put oi.dst v) w → Q (.panic c) a w) {Y : Act → Prop}
    (keep : ∀ a, Y a → ∀ u, Y (a.put oj.dst u)) (keepD : ∀ a, Y a → ∀ d, Y { a with defers := d :: a.defers }) {K : Act → World → Prop} {a : Act} {w : World}
    (hy : Y a) (h : wpOp P ops Q j K (a.put oi.dst v) w) :
    wpOp P ops Q j (fun a' w' => Y a' ∧ K (a'.put oi.dst v) w') a w := by
  obtain ⟨h1, h2, h3⟩ := Oper.apart_spec hap
  unfold wpOp at *
  simp only [hj] at *
  rw [wanted_put oj a oi.dst v h1] at h
  split
  · rename_i hw
    simp only [hw, if_true] at h
    rcases h with h | ⟨hasks, hlets⟩
    case inr => exact .inr ⟨by unfold Oper.asks at *; rw [execOp_put oj hsj a oi.dst v h1] at hasks; exact hasks, hlets⟩
    refine .inl ?_
    unfold Oper.wp at *
    rw [execOp_put oj hsj a oi.dst v h1] at h
    generalize (execOp a.eval oj).run P w = r at *
    cases r with
    | ok n w' =>
      cases n <;> simp only [Oper.upon] at h ⊢
      case value u => exact ⟨keep a hy u, by rw [← Act.put_comm a v u h2]; exact h⟩
      case skip => exact ⟨keep a hy _, by rw [← Act.put_comm a v undef h2]; exact h⟩
      case defer d =>
        refine ⟨keep _ (keepD a hy d) _, ?_⟩
        rw [← Act.put_comm _ v undef h2, ← Act.put_defers]
        exact h
      case enter f args =>
        refine Calls.mono h fun e w'' he => ?_
        cases e with
        | returned u => exact ⟨keep a hy u, by rw [← Act.put_comm a v u h2]; exact he⟩
        | panicked c => exact hQ _ _ _ he
        | outgrown => exact he
      case row row args => exact Rows.mono h fun u w'' he => ⟨keep a hy u, by rw [← Act.put_comm a v u h2]; exact he⟩
    | halt x w' =>
      cases x <;> simp only [Oper.upon] at h ⊢
      case panic u => exact hQ _ _ _ h
  · rename_i hw
    simp only [hw] at h
    exact ⟨keep a hy _, by rw [← Act.put_comm a v undef h2]; exact h⟩

/-- The same of an operation met as quiet, in whatever class. -/
theorem qOp_put3 {C : World → Prop} {j : Nat} {oi oj : Oper} {v : Value} (hj : ops[j]? = some oj) (hap : oi.apart ops oj = true)
    (hsj : ∀ cs b, oj.op ≠ .select cs b) {Y : Act → Prop} (keep : ∀ a, Y a → ∀ u, Y (a.put oj.dst u)) {K : Act → Prop} {a : Act}
    (hy : Y a) (h : qOp P ops C j K (a.put oi.dst v)) : qOp P ops C j (fun a' => Y a' ∧ K (a'.put oi.dst v)) a := by
  obtain ⟨h1, h2, h3⟩ := Oper.apart_spec hap
  unfold qOp at *
  simp only [hj] at *
  rw [wanted_put oj a oi.dst v h1] at h
  split
  · rename_i hw
    simp only [hw, if_true] at h
    obtain ⟨u, hu, hn⟩ := h
    refine ⟨u, fun w hw' => ?_, keep a hy u, by rw [← Act.put_comm a v u h2]; exact hn⟩
    have := hu w hw'
    unfold Oper.quietAt at *
    rwa [execOp_put oj hsj a oi.dst v h1] at this
  · rename_i hw
    simp only [hw] at h
    exact ⟨keep a hy _, by rw [← Act.put_comm a v undef h2]; exact h⟩

theorem yieldsIn_keep {C : World → Prop} {oi oj : Oper} {v : Value} (hsi : ∀ cs b, oi.op ≠ .select cs b) (hap : oi.apart ops oj = true) (a : Act) (hy : YieldsIn P ops C oi v a) (u : Value) : YieldsIn P ops C oi v (a.put oj.dst u) := by
  obtain ⟨_, _, h3⟩ := Oper.apart_spec hap
  exact hy.of_same (execOp_put oi hsi a oj.dst u h3) (wanted_put oi a oj.dst u h3)

/-- Others that come up while 'i' has not: they are apart from it, or wait for it. -/
def FreeOf (ops : Array Oper) (listed : Array Bool) (i : Nat) (oi : Oper) : Prop :=
  ∀ j oj, ops[j]? = some oj → j ≠ i → listed.getD j true = false → (∀ e ∈ oj.after, Region.binds .any e = true → e.on ≠ i) → oi.apart ops oj = true

theorem FreeOf.set {listed : Array Bool} {i j : Nat} {oi : Oper} (h : FreeOf ops listed i oi) (hjun : listed.getD j true = false) : FreeOf ops (listed.setIfInBounds j true) i oi := fun k ok hk hki hun hno => by
  refine h k ok hk hki ?_ hno
  by_cases hjk : j = k
  · subst hjk; exact hjun
  · rw [getD_set_ne true hjk] at hun; exact hun

/-- 'head': an operation that may come up now, quiet in the world at hand, for which every loud operation that has not come up waits: it may be taken first. -/
theorem K_first_head {i : Nat} {oi : Oper} {v : Value} (hi : ops[i]? = some oi) (hk : kind i = .head) (hsel : ∀ (j : Nat) (o : Oper) cs b, ops[j]? = some o → o.op ≠ .select cs b) :
    ∀ (fuel : Nat) (listed : Array Bool) (a : Act) (w : World), Closed ops listed → FreeOf ops listed i oi →
      (∀ t, t < ops.size → kind t = .loud → listed.getD t true = false → Anc ops t i) →
      i ∈ Region.ready .any ops listed → YieldsIn P ops (fun w' => w' = w) oi v a →
      wpAnyK P ops D Q kind fuel (listed.setIfInBounds i true) (a.put oi.dst v) w → wpAnyK P ops D Q kind (fuel + 1) listed a w := by
  intro fuel
  induction fuel with
  | zero =>
    intro listed a w _ _ _ hr hy H
    refine ⟨fun h => (by rw [h] at hr; cases hr), fun j hj => ?_⟩
    by_cases hji : j = i
    · subst hji; rw [hk]; exact hy.qOp hi H
    · have := ready_mono hj hji
      rw [H.1] at this
      cases this
  | succ fuel ih =>
    intro listed a w hc hfree hloud hr hy H
    refine ⟨fun h => (by rw [h] at hr; cases hr), fun j hj => ?_⟩
    by_cases hji : j = i
    · subst hji; rw [hk]; exact hy.qOp hi H
    · have h1 := H.2 j (ready_mono hj hji)
      obtain ⟨hjun, oj, hoj, hall⟩ := mem_ready.1 hj
      have hiun := (mem_ready.1 hr).1
      have hif : listed.getD i false = false := getD_both hiun
      have hnot : ∀ e ∈ oj.after, Region.binds .any e = true → e.on ≠ i := fun e he hb heq => by
        have h1 := hall e he hb
        rw [heq, hif] at h1; cases h1
      have hap := hfree j oj hoj hji hjun hnot
      have hjl : kind j ≠ .loud := fun hl => by
        have hjs : j < ops.size := (Array.getElem?_eq_some_iff.1 hoj).1
        have := anc_listed hc (hloud j hjs hl hjun) (.inr hj)
        rw [hif] at this; cases this
      have hloud' : ∀ t, t < ops.size → kind t = .loud → (listed.setIfInBounds j true).getD t true = false → Anc ops t i := fun t ht hl hun => by
        refine hloud t ht hl ?_
        by_cases hjt : j = t
        · subst hjt; exact hjun
        · rw [getD_set_ne true hjt] at hun; exact hun
      have step : ∀ a', YieldsIn P ops (fun w' => w' = w) oi v a' → wpAnyK P ops D Q kind fuel ((listed.setIfInBounds i true).setIfInBounds j true) (a'.put oi.dst v) w →
          wpAnyK P ops D Q kind (fuel + 1) (listed.setIfInBounds j true) a' w := fun a' hy' h' => by
        refine ih (listed.setIfInBounds j true) a' w (hc.set hj) (hfree.set hjun) hloud' (ready_mono hr (Ne.symm hji)) hy' ?_
        rw [Array.setIfInBounds_comm _ _ hji]
        exact h'
      split at h1
      · rename_i hl; exact absurd hl hjl
      · exact qOp_mono (fun a' h3 => step a' h3.1 h3.2) (qOp_put3 hoj hap (fun cs b => hsel j oj cs b hoj) (fun a hy u => yieldsIn_keep (fun cs b => hsel i oi cs b hi) hap a hy u) hy h1)
      · obtain ⟨hDw, h1⟩ := h1
        exact ⟨hDw, qOp_mono (fun a' h3 => step a' h3.1 h3.2) (qOp_put3 hoj hap (fun cs b => hsel j oj cs b hoj) (fun a hy u => yieldsIn_keep (fun cs b => hsel i oi cs b hi) hap a hy u) hy h1)⟩

/-- 'free': an operation that may come up now, quiet in every world of D: it may be taken first. -/
theorem K_first_free {i : Nat} {oi : Oper} {v : Value} (hi : ops[i]? = some oi) (hk : kind i = .free) (hsel : ∀ (j : Nat) (o : Oper) cs b, ops[j]? = some o → o.op ≠ .select cs b)
    (hQ : ∀ c a w, Q (.panic c) (a.put oi.dst v) w → Q (.panic c) a w) :
    ∀ (fuel : Nat) (listed : Array Bool) (a : Act) (w : World), FreeOf ops listed i oi → D w →
      i ∈ Region.ready .any ops listed → YieldsIn P ops D oi v a →
      wpAnyK P ops D Q kind fuel (listed.setIfInBounds i true) (a.put oi.dst v) w → wpAnyK P ops D Q kind (fuel + 1) listed a w := by
  intro fuel
  induction fuel with
  | zero =>
    intro listed a w _ hD hr hy H
    refine ⟨fun h => (by rw [h] at hr; cases hr), fun j hj => ?_⟩
    by_cases hji : j = i
    · subst hji; rw [hk]; exact ⟨hD, hy.qOp hi H⟩
    · have := ready_mono hj hji
      rw [H.1] at this
      cases this
  | succ fuel ih =>
    intro listed a w hfree hD hr hy H
    refine ⟨fun h => (by rw [h] at hr; cases hr), fun j hj => ?_⟩
    by_cases hji : j = i
    · subst hji; rw [hk]; exact ⟨hD, hy.qOp hi H⟩
    · have h1 := H.2 j (ready_mono hj hji)
      obtain ⟨hjun, oj, hoj, hall⟩ := mem_ready.1 hj
      have hiun := (mem_ready.1 hr).1
      have hif : listed.getD i false = false := getD_both hiun
      have hnot : ∀ e ∈ oj.after, Region.binds .any e = true → e.on ≠ i := fun e he hb heq => by
        have h1 := hall e he hb
        rw [heq, hif] at h1; cases h1
      have hap := hfree j oj hoj hji hjun hnot
      have step : ∀ a' w', D w' → YieldsIn P ops D oi v a' → wpAnyK P ops D Q kind fuel ((listed.setIfInBounds i true).setIfInBounds j true) (a'.put oi.dst v) w' →
          wpAnyK P ops D Q kind (fuel + 1) (listed.setIfInBounds j true) a' w' := fun a' w' hD' hy' h' => by
        refine ih (listed.setIfInBounds j true) a' w' (hfree.set hjun) hD' (ready_mono hr (Ne.symm hji)) hy' ?_
        rw [Array.setIfInBounds_comm _ _ hji]
        exact h'
      have keep := fun a hy u => yieldsIn_keep (P := P) (C := D) (v := v) (fun cs b => hsel i oi cs b hi) hap a hy u
      split at h1
      · exact wpOp_mono (fun a' w' h3 => ⟨h3.2.1, step a' w' h3.2.1 h3.1 h3.2.2⟩) (wpOp_put3 hoj hap (fun cs b => hsel j oj cs b hoj) hQ keep (fun a hy d => hy.of_same rfl rfl) hy h1)
      · exact qOp_mono (fun a' h3 => step a' w hD h3.1 h3.2) (qOp_put3 hoj hap (fun cs b => hsel j oj cs b hoj) keep hy h1)
      · exact ⟨hD, qOp_mono (fun a' h3 => step a' w hD h3.1 h3.2) (qOp_put3 hoj hap (fun cs b => hsel j oj cs b hoj) keep hy h1.2)⟩

/-- How an operation is met: 'pair j': this one and j, both loud, in either order. -/
inductive Ent where | head | free | loud | pair (j : Nat)
  deriving DecidableEq
def kd : Ent → Kind
  | .head => .head
  | .free => .free
  | .loud => .loud
  | .pair _ => .loud
def kindOf (L : List (Nat × Ent)) (i : Nat) : Kind :=
  match L.find? (fun x => x.1 == i) with
  | some x => kd x.2
  | none => .loud
def wt : List (Nat × Ent) → Nat
  | [] => 0
  | (_, .pair _) :: r => wt r + 2
  | (_, .head) :: r => wt r + 1
  | (_, .free) :: r => wt r + 1
  | (_, .loud) :: r => wt r + 1

/-- What an order owes. -/
def OrdOk (ops : Array Oper) (kind : Nat → Kind) : List (Nat × Ent) → Array Bool → Prop
  | [], listed => Region.ready .any ops listed = []
  | (i, .pair j) :: r, listed => kind i = .loud ∧ i ∈ Region.ready .any ops listed ∧ kind j = .loud ∧ j ∈ Region.ready .any ops listed ∧ i ≠ j ∧
      (∀ q ∈ Region.ready .any ops listed, q = i ∨ q = j) ∧ (∀ q ∈ Region.ready .any ops (listed.setIfInBounds i true), q = j) ∧ (∀ q ∈ Region.ready .any ops (listed.setIfInBounds j true), q = i) ∧
      OrdOk ops kind r ((listed.setIfInBounds i true).setIfInBounds j true)
  | (i, .loud) :: r, listed => kind i = .loud ∧ i ∈ Region.ready .any ops listed ∧ (∀ j ∈ Region.ready .any ops listed, j = i) ∧ OrdOk ops kind r (listed.setIfInBounds i true)
  | (i, .head) :: r, listed => kind i = .head ∧ i ∈ Region.ready .any ops listed ∧ ((∀ oi, ops[i]? = some oi → FreeOf ops listed i oi) ∧ ∀ t, t < ops.size → kind t = .loud → listed.getD t true = false → Anc ops t i) ∧ OrdOk ops kind r (listed.setIfInBounds i true)
  | (i, .free) :: r, listed => kind i = .free ∧ i ∈ Region.ready .any ops listed ∧ (∀ oi, ops[i]? = some oi → FreeOf ops listed i oi) ∧ OrdOk ops kind r (listed.setIfInBounds i true)

/-! The check by masks: of each operation whom it waits for, what it looks at, what it writes. -/
def bitsOf (l : List Nat) : Nat := l.foldl (fun s i => s ||| 2 ^ i) 0
theorem bitsOf_fold (i : Nat) : ∀ (l : List Nat) (s : Nat), (l.foldl (fun s i => s ||| 2 ^ i) s).testBit i = true ↔ s.testBit i = true ∨ i ∈ l
  | [], s => by simp
  | a :: l, s => by
    rw [List.foldl_cons, bitsOf_fold i l, Nat.testBit_or, Bool.or_eq_true, Nat.testBit_two_pow, List.mem_cons, decide_eq_true_eq, or_assoc]
    constructor
    · rintro (h | h | h)
      · exact .inl h
      · exact .inr (.inl h.symm)
      · exact .inr (.inr h)
    · rintro (h | h | h)
      · exact .inl h
      · exact .inr (.inl h.symm)
      · exact .inr (.inr h)
theorem bitsOf_bit (i : Nat) (l : List Nat) : (bitsOf l).testBit i = true ↔ i ∈ l := by
  unfold bitsOf; rw [bitsOf_fold]; simp
theorem and_zero_bit {a b i : Nat} (h : a &&& b = 0) (ha : a.testBit i = true) : b.testBit i = false := by
  have := congrArg (fun n => n.testBit i) h
  simp only [Nat.testBit_and, ha, Bool.true_and, Nat.zero_testBit] at this
  exact this
theorem and_self_bit {a b i : Nat} (h : a &&& b = a) (ha : a.testBit i = true) : b.testBit i = true := by
  have := congrArg (fun n => n.testBit i) h
  simp only [Nat.testBit_and, ha, Bool.true_and] at this
  exact this

def depM (o : Oper) : Nat := bitsOf ((o.after.toList.filter (fun e => Region.binds .any e)).map (·.on))
def seeM (ops : Array Oper) (o : Oper) : Nat := bitsOf (o.looksAt ops)
def dstM (o : Oper) : Nat := match o.dst with | some d => 2 ^ d | none => 0
theorem depM_bit {o : Oper} {k : Nat} : (depM o).testBit k = true ↔ ∃ e ∈ o.after, Region.binds .any e = true ∧ e.on = k := by
  unfold depM
  rw [bitsOf_bit, List.mem_map]
  constructor
  · rintro ⟨e, he, hk⟩
    rw [List.mem_filter] at he
    exact ⟨e, by simpa using he.1, he.2, hk⟩
  · rintro ⟨e, he, hb, hk⟩
    exact ⟨e, List.mem_filter.2 ⟨by simpa using he, hb⟩, hk⟩

structure Row where
  dep : Nat
  see : Nat
  dst : Nat
def rowOf (ops : Array Oper) (o : Oper) : Row := force (depM o) fun a => force (seeM ops o) fun b => force (dstM o) fun c => ⟨a, b, c⟩
theorem rowOf_eq (ops : Array Oper) (o : Oper) : rowOf ops o = ⟨depM o, seeM ops o, dstM o⟩ := by simp only [rowOf, force_eq]
def forceRow {α : Type} (r : Row) (k : Row → α) : α := match r with | ⟨a, b, c⟩ => k ⟨a, b, c⟩
theorem forceRow_eq {α : Type} (r : Row) (k : Row → α) : forceRow r k = k r := rfl
def rowsOf (ops : Array Oper) {α : Type} : List Oper → List Row → (List Row → α) → α
  | [], acc, k => k acc.reverse
  | o :: l, acc, k => force (depM o) fun a => force (seeM ops o) fun b => force (dstM o) fun c => rowsOf ops l (⟨a, b, c⟩ :: acc) k
theorem rowsOf_eq (ops : Array Oper) {α : Type} : ∀ (l : List Oper) (acc : List Row) (k : List Row → α), rowsOf ops l acc k = k (acc.reverse ++ l.map fun o => ⟨depM o, seeM ops o, dstM o⟩)
  | [], acc, k => by simp [rowsOf]
  | o :: l, acc, k => by simp only [rowsOf, force_eq]; rw [rowsOf_eq ops l]; simp

def apartR (x y : Row) : Bool := (x.dst &&& (y.see ||| y.dst)) == 0 && (y.dst &&& x.see) == 0

theorem apartR_spec {ops : Array Oper} {x y : Oper} (h : apartR ⟨depM x, seeM ops x, dstM x⟩ ⟨depM y, seeM ops y, dstM y⟩ = true) : x.apart ops y = true := by
  simp only [apartR, Bool.and_eq_true, beq_iff_eq] at h
  obtain ⟨h1, h2⟩ := h
  unfold Oper.apart
  rw [Bool.and_eq_true]
  constructor
  · cases hx : x.dst with
    | none => rfl
    | some d =>
      have hb : (dstM x).testBit d = true := by unfold dstM; rw [hx]; exact Nat.testBit_two_pow_self
      have h3 := and_zero_bit h1 hb
      rw [Nat.testBit_or, Bool.or_eq_false_iff] at h3
      simp only [Bool.and_eq_true, Bool.not_eq_true', bne_iff_ne]
      refine ⟨?_, fun hy => ?_⟩
      · cases hc : (y.looksAt ops).contains d with
        | false => rfl
        | true =>
          have := (bitsOf_bit d (y.looksAt ops)).2 (by simpa using hc)
          unfold seeM at h3
          rw [this] at h3; cases h3.1
      · have : (dstM y).testBit d = true := by unfold dstM; rw [hy]; exact Nat.testBit_two_pow_self
        rw [this] at h3; cases h3.2
  · cases hy : y.dst with
    | none => rfl
    | some d =>
      have hb : (dstM y).testBit d = true := by unfold dstM; rw [hy]; exact Nat.testBit_two_pow_self
      have h3 := and_zero_bit h2 hb
      simp only [Bool.not_eq_true']
      cases hc : (x.looksAt ops).contains d with
      | false => rfl
      | true =>
        have := (bitsOf_bit d (x.looksAt ops)).2 (by simpa using hc)
        unfold seeM at h3
        rw [this] at h3; cases h3

/-- 'rows' with their places. -/
def freeR (m i : Nat) (x : Row) : List Row → Nat → Bool
  | [], _ => true
  | y :: l, j => (j == i || m.testBit j || y.dep.testBit i || apartR x y) && freeR m i x l (j + 1)
def loneR (m i : Nat) : List Row → Nat → Bool
  | [], _ => true
  | y :: l, j => (j == i || m.testBit j || !((y.dep &&& m) == y.dep)) && loneR m i l (j + 1)
theorem freeR_spec {m i : Nat} {x : Row} : ∀ (l : List Row) (j : Nat), freeR m i x l j = true → ∀ q y, l[q]? = some y → j + q ≠ i → m.testBit (j + q) = false → y.dep.testBit i = false → apartR x y = true
  | [], j, _, q, y, hy, _, _, _ => by simp at hy
  | z :: l, j, h, q, y, hy, h1, h2, h3 => by
    simp only [freeR, Bool.and_eq_true, Bool.or_eq_true, beq_iff_eq] at h
    cases q with
    | zero =>
      simp at hy; subst hy
      rcases h.1 with ((h | h) | h) | h
      · exact absurd h h1
      · rw [Nat.add_zero] at h2; rw [h2] at h; cases h
      · rw [h3] at h; cases h
      · exact h
    | succ q => exact freeR_spec l (j + 1) h.2 q y (by simpa using hy) (by omega) (by rw [show j + 1 + q = j + (q + 1) by omega]; exact h2) h3
theorem loneR_spec {m i : Nat} : ∀ (l : List Row) (j : Nat), loneR m i l j = true → ∀ q y, l[q]? = some y → j + q ≠ i → m.testBit (j + q) = false → ¬ (y.dep &&& m = y.dep)
  | [], j, _, q, y, hy, _, _ => by simp at hy
  | z :: l, j, h, q, y, hy, h1, h2 => by
    simp only [loneR, Bool.and_eq_true, Bool.or_eq_true, beq_iff_eq, Bool.not_eq_true', beq_eq_false_iff_ne] at h
    cases q with
    | zero =>
      simp at hy; subst hy
      rcases h.1 with (h | h) | h
      · exact absurd h h1
      · rw [Nat.add_zero] at h2; rw [h2] at h; cases h
      · exact h
    | succ q => exact loneR_spec l (j + 1) h.2 q y (by simpa using hy) (by omega) (by rw [show j + 1 + q = j + (q + 1) by omega]; exact h2)

def ordGo (L : List (Nat × Ent)) (T : List Row) (lds ms : List Nat) (n : Nat) : List (Nat × Ent) → Nat → Bool
  | [], m => m == 2 ^ n - 1
  | (i, k) :: r, m =>
    match T[i]? with
    | none => false
    | some x => decide (kindOf L i = kd k) && !m.testBit i && (x.dep &&& m) == x.dep && (match k with
      | .loud => loneR m i T 0 && force (m ||| 2 ^ i) fun m' => ordGo L T lds ms n r m'
      | .head => freeR m i x T 0 && lds.all (fun t => m.testBit t || (ms.getD t 0).testBit i) && force (m ||| 2 ^ i) fun m' => ordGo L T lds ms n r m'
      | .free => freeR m i x T 0 && force (m ||| 2 ^ i) fun m' => ordGo L T lds ms n r m'
      | .pair j => match T[j]? with
        | none => false
        | some y => decide (kindOf L j = .loud) && !m.testBit j && (y.dep &&& m) == y.dep && decide (i ≠ j) &&
          (force (m ||| 2 ^ i) fun m1 => loneR m1 j T 0) && (force (m ||| 2 ^ j) fun m2 => loneR m2 i T 0) && force ((m ||| 2 ^ i) ||| 2 ^ j) fun m' => ordGo L T lds ms n r m')

def ordB (ops : Array Oper) (L : List (Nat × Ent)) : Bool :=
  Region.noSelect ops && decide (wt L = ops.size) &&
  ((List.range ops.size).all fun i => match ops[i]? with | some o => !decide (kindOf L i = .free) || calm o.op | none => true) &&
  rowsOf ops ops.toList [] fun T => ordGo L T ((List.range ops.size).filter fun t => decide (kindOf L t = .loud)) (ancL ops.toList []) ops.size L 0

structure Inv (ops : Array Oper) (listed : Array Bool) (m : Nat) : Prop where
  size : listed.size = ops.size
  bit : ∀ j, listed.getD j false = m.testBit j

theorem Inv.both {ops : Array Oper} {listed : Array Bool} {m : Nat} (h : Inv ops listed m) {j : Nat} (hj : j < ops.size) : listed.getD j true = m.testBit j := by
  rw [← h.bit j]
  have : j < listed.size := by rw [h.size]; exact hj
  simp [this]

theorem Inv.ready {ops : Array Oper} {listed : Array Bool} {m : Nat} (h : Inv ops listed m) {j : Nat} {o : Oper} (ho : ops[j]? = some o) :
    j ∈ Region.ready .any ops listed ↔ m.testBit j = false ∧ depM o &&& m = depM o := by
  have hj : j < ops.size := (Array.getElem?_eq_some_iff.1 ho).1
  rw [mem_ready, h.both hj]
  constructor
  · rintro ⟨h1, o', ho', hall⟩
    rw [ho] at ho'; cases ho'
    refine ⟨h1, Nat.eq_of_testBit_eq fun k => ?_⟩
    rw [Nat.testBit_and]
    cases hk : (depM o).testBit k with
    | false => rfl
    | true =>
      obtain ⟨e, he, hb, hk'⟩ := depM_bit.1 hk
      have := hall e he hb
      rw [h.bit, hk'] at this
      rw [this]; rfl
  · rintro ⟨h1, h2⟩
    refine ⟨h1, o, ho, fun e he hb => ?_⟩
    rw [h.bit]
    exact and_self_bit h2 (depM_bit.2 ⟨e, he, hb, rfl⟩)

theorem Inv.set {ops : Array Oper} {listed : Array Bool} {m : Nat} (h : Inv ops listed m) {i : Nat} (hi : i < ops.size) : Inv ops (listed.setIfInBounds i true) (m ||| 2 ^ i) := by
  refine ⟨by simp [h.size], fun j => ?_⟩
  rw [Nat.testBit_or, Nat.testBit_two_pow, ← h.bit j]
  by_cases hij : i = j
  · subst hij
    have : i < listed.size := by rw [h.size]; exact hi
    simp [this]
  · rw [getD_set_ne false hij]; simp [hij]

theorem ordGo_ok {ops : Array Oper} {L : List (Nat × Ent)} {T : List Row} {lds ms : List Nat} (hT : T = ops.toList.map fun o => ⟨depM o, seeM ops o, dstM o⟩)
    (hlds : ∀ t, t < ops.size → kindOf L t = .loud → t ∈ lds) (hms : ∀ j i, (ms.getD j 0).testBit i = true → Anc ops j i) :
    ∀ (l : List (Nat × Ent)) (listed : Array Bool) (m : Nat), Inv ops listed m → ordGo L T lds ms ops.size l m = true → OrdOk ops (kindOf L) l listed
  | [], listed, m, inv, h => by
    simp only [ordGo, beq_iff_eq] at h
    show Region.ready .any ops listed = []
    refine List.eq_nil_iff_forall_not_mem.2 fun j hj => ?_
    obtain ⟨h1, o, ho, _⟩ := mem_ready.1 hj
    have hjs : j < ops.size := (Array.getElem?_eq_some_iff.1 ho).1
    rw [inv.both hjs, h, Nat.testBit_two_pow_sub_one] at h1
    simp [hjs] at h1
  | (i, k) :: r, listed, m, inv, h => by
    simp only [ordGo] at h
    cases hx : T[i]? with
    | none => simp [hx] at h
    | some x =>
      simp only [hx, Bool.and_eq_true, decide_eq_true_eq, Bool.not_eq_true', beq_iff_eq, force_eq] at h
      obtain ⟨⟨⟨hk, hm⟩, hd⟩, hc⟩ := h
      have hoi : ∃ oi, ops[i]? = some oi ∧ x = ⟨depM oi, seeM ops oi, dstM oi⟩ := by
        rw [hT, List.getElem?_map] at hx
        cases ho : ops.toList[i]? with
        | none => simp [ho] at hx
        | some oi => simp [ho] at hx; exact ⟨oi, by simpa using ho, hx.symm⟩
      obtain ⟨oi, hoi, hxe⟩ := hoi
      have his : i < ops.size := (Array.getElem?_eq_some_iff.1 hoi).1
      have hready : i ∈ Region.ready .any ops listed := (inv.ready hoi).2 ⟨hm, by rw [hxe] at hd; exact hd⟩
      have hrow : ∀ {j : Nat} {oj : Oper}, ops[j]? = some oj → T[j]? = some ⟨depM oj, seeM ops oj, dstM oj⟩ := fun {j oj} hj => by
        rw [hT, List.getElem?_map, show ops.toList[j]? = some oj by simpa using hj]; rfl
      have hfree : freeR m i x T 0 = true → ∀ oi, ops[i]? = some oi → FreeOf ops listed i oi := fun hf oi' hoi' j oj hj hne hun hno => by
        rw [hoi] at hoi'; cases hoi'
        have hjs : j < ops.size := (Array.getElem?_eq_some_iff.1 hj).1
        refine apartR_spec (ops := ops) ?_
        rw [← hxe]
        refine freeR_spec T 0 hf j _ (hrow hj) (by simpa using hne) (by rw [Nat.zero_add, ← inv.both hjs]; exact hun) ?_
        cases hb : (depM oj).testBit i with
        | false => rfl
        | true =>
          obtain ⟨e, he, hbn, hon⟩ := depM_bit.1 hb
          exact absurd hon (hno e he hbn)
      have hlone : ∀ {i m listed}, Inv ops listed m → loneR m i T 0 = true → ∀ j ∈ Region.ready .any ops listed, j = i := fun {i m listed} inv hc j hj => by
        obtain ⟨_, oj, hoj, _⟩ := mem_ready.1 hj
        have h2 := (inv.ready hoj).1 hj
        refine Classical.byContradiction fun hne => ?_
        exact loneR_spec T 0 hc j _ (hrow hoj) (by simpa using hne) (by rw [Nat.zero_add]; exact h2.1) h2.2
      cases k with
      | loud =>
        simp only [Bool.and_eq_true] at hc
        exact ⟨hk, hready, hlone inv hc.1, ordGo_ok hT hlds hms r _ _ (inv.set his) hc.2⟩
      | head =>
        simp only [Bool.and_eq_true] at hc
        refine ⟨hk, hready, ⟨hfree hc.1.1, fun t ht hkt hun => ?_⟩, ordGo_ok hT hlds hms r _ _ (inv.set his) hc.2⟩
        have h3 := List.all_eq_true.1 hc.1.2 t (hlds t ht hkt)
        rw [inv.both ht] at hun
        rw [hun, Bool.false_or] at h3
        exact hms _ _ h3
      | free =>
        simp only [Bool.and_eq_true] at hc
        exact ⟨hk, hready, hfree hc.1, ordGo_ok hT hlds hms r _ _ (inv.set his) hc.2⟩
      | pair j =>
        simp only at hc
        cases hy : T[j]? with
        | none => simp [hy] at hc
        | some y =>
          simp only [hy, Bool.and_eq_true, decide_eq_true_eq, Bool.not_eq_true', beq_iff_eq] at hc
          obtain ⟨⟨⟨⟨⟨⟨hkj, hmj⟩, hdj⟩, hij⟩, hl1⟩, hl2⟩, hr⟩ := hc
          have hoj : ∃ oj, ops[j]? = some oj ∧ y = ⟨depM oj, seeM ops oj, dstM oj⟩ := by
            rw [hT, List.getElem?_map] at hy
            cases ho : ops.toList[j]? with
            | none => simp [ho] at hy
            | some oj => simp [ho] at hy; exact ⟨oj, by simpa using ho, hy.symm⟩
          obtain ⟨oj, hoj, hye⟩ := hoj
          have hjs : j < ops.size := (Array.getElem?_eq_some_iff.1 hoj).1
          have hreadyj : j ∈ Region.ready .any ops listed := (inv.ready hoj).2 ⟨hmj, by rw [hye] at hdj; exact hdj⟩
          have q1 := hlone (inv.set his) hl1
          have q2 := hlone (inv.set hjs) hl2
          refine ⟨hk, hready, hkj, hreadyj, hij, fun q hq => ?_, q1, q2, ordGo_ok hT hlds hms r _ _ ((inv.set his).set hjs) hr⟩
          by_cases hqi : q = i
          · exact .inl hqi
          · exact .inr (q1 q (ready_mono hq (fun h => hqi h)))

/-- THE WALK, in the order of the list. -/
def wpOrd (P : Program) (ops : Array Oper) (D : World → Prop) (Q : Exit → Act → World → Prop) : List (Nat × Ent) → Act → World → Prop
  | [], a, w => Q .normal a w
  | (i, .head) :: r, a, w =>
    match ops[i]? with
    | none => False
    | some o => if Region.wanted o (yielded ops a.tmps) then o.quiet P a (fun w' => w' = w) (fun a' => wpOrd P ops D Q r a' w) else wpOrd P ops D Q r (a.put o.dst undef) w
  | (i, .free) :: r, a, w =>
    match ops[i]? with
    | none => False
    | some o => if Region.wanted o (yielded ops a.tmps) then o.quiet P a D (fun a' => wpOrd P ops D Q r a' w) else wpOrd P ops D Q r (a.put o.dst undef) w
  | (i, .loud) :: r, a, w =>
    match ops[i]? with
    | none => False
    | some o => if Region.wanted o (yielded ops a.tmps) then o.wp P a w (fun a' w' => D w' ∧ wpOrd P ops D Q r a' w') Q ∨ (o.asks P a w ∧ LetsOut Q) else wpOrd P ops D Q r (a.put o.dst undef) w
  | (i, .pair j) :: r, a, w =>
    wpOp P ops Q i (fun a' w' => D w' ∧ wpOp P ops Q j (fun a' w' => D w' ∧ wpOrd P ops D Q r a' w') a' w') a w ∧
    wpOp P ops Q j (fun a' w' => D w' ∧ wpOp P ops Q i (fun a' w' => D w' ∧ wpOrd P ops D Q r a' w') a' w') a w

theorem wpOrd_any (hsel : Region.noSelect ops = true)
    (hQ : ∀ c a d v w, Q (.panic c) (a.put d v) w → Q (.panic c) a w) :
    ∀ (l : List (Nat × Ent)) (listed : Array Bool) (a : Act) (w : World), Closed ops listed → D w → OrdOk ops kind l listed →
      wpOrd P ops D Q l a w → wpAnyK P ops D Q kind (wt l) listed a w
  | [], listed, a, w, _, _, hB, h => ⟨hB, h⟩
  | (i, .loud) :: r, listed, a, w, hc, hD, hB, h => by
    obtain ⟨hki', hir, hB1, hB2⟩ := hB
    simp only [wpOrd] at h
    cases ho : ops[i]? with
    | none => simp only [ho] at h
    | some o =>
      simp only [ho] at h
      refine ⟨fun h0 => (by rw [h0] at hir; cases hir), fun j hj => ?_⟩
      have hji : j = i := hB1 j hj
      subst hji
      rw [hki']
      have ih := fun a' w' hD' => wpOrd_any hsel hQ r (listed.setIfInBounds j true) a' w' (hc.set hir) hD' hB2
      show wpOp P ops Q j _ a w
      unfold wpOp
      simp only [ho]
      split
      · rename_i hw
        simp only [hw, if_true] at h
        rcases h with h | h
        · exact .inl (Oper.wp_mono (fun a' w' h' => ⟨h'.1, ih a' w' h'.1 h'.2⟩) h)
        · exact .inr h
      · rename_i hw
        simp only [hw] at h
        exact ⟨hD, ih _ _ hD h⟩
  | (i, .head) :: r, listed, a, w, hc, hD, hB, h => by
    obtain ⟨hki', hir, hB1, hB2⟩ := hB
    simp only [wpOrd] at h
    cases ho : ops[i]? with
    | none => simp only [ho] at h
    | some o =>
      simp only [ho] at h
      have hs := Region.noSelect_spec hsel
      have hy : ∃ v, YieldsIn P ops (fun w' => w' = w) o v a ∧ wpOrd P ops D Q r (a.put o.dst v) w := by
        by_cases hw : Region.wanted o (yielded ops a.tmps) = true
        · simp only [hw, if_true] at h
          obtain ⟨v, h1, h2⟩ := h
          exact ⟨v, .inl ⟨hw, h1⟩, h2⟩
        · simp only [hw] at h
          exact ⟨undef, .inr ⟨by simpa using hw, rfl⟩, h⟩
      obtain ⟨v, hy, hK⟩ := hy
      exact K_first_head ho hki' hs (wt r) listed a w hc (hB1.1 o ho) hB1.2 hir hy (wpOrd_any hsel hQ r _ _ _ (hc.set hir) hD hB2 hK)
  | (i, .free) :: r, listed, a, w, hc, hD, hB, h => by
    obtain ⟨hki', hir, hB1, hB2⟩ := hB
    simp only [wpOrd] at h
    cases ho : ops[i]? with
    | none => simp only [ho] at h
    | some o =>
      simp only [ho] at h
      have hs := Region.noSelect_spec hsel
      have hy : ∃ v, YieldsIn P ops D o v a ∧ wpOrd P ops D Q r (a.put o.dst v) w := by
        by_cases hw : Region.wanted o (yielded ops a.tmps) = true
        · simp only [hw, if_true] at h
          obtain ⟨v, h1, h2⟩ := h
          exact ⟨v, .inl ⟨hw, h1⟩, h2⟩
        · simp only [hw] at h
          exact ⟨undef, .inr ⟨by simpa using hw, rfl⟩, h⟩
      obtain ⟨v, hy, hK⟩ := hy
      exact K_first_free ho hki' hs (fun c a w hh => hQ c a _ _ w hh) (wt r) listed a w (hB1 o ho) hD hir hy (wpOrd_any hsel hQ r _ _ _ (hc.set hir) hD hB2 hK)
  | (i, .pair j) :: r, listed, a, w, hc, hD, hB, h => by
    obtain ⟨hki, hir, hkj, hjr, hij, hboth, h1, h2, hB2⟩ := hB
    obtain ⟨hi, hj⟩ := h
    have hj1 : j ∈ Region.ready .any ops (listed.setIfInBounds i true) := ready_mono hjr (fun h => hij h.symm)
    have hi1 : i ∈ Region.ready .any ops (listed.setIfInBounds j true) := ready_mono hir hij
    have hcc : ((listed.setIfInBounds j true).setIfInBounds i true) = (listed.setIfInBounds i true).setIfInBounds j true := Array.setIfInBounds_comm _ _ (fun h => hij h.symm)
    refine ⟨fun h0 => (by rw [h0] at hir; cases hir), fun q hq => ?_⟩
    rcases hboth q hq with rfl | rfl
    · rw [hki]
      refine wpOp_mono (fun a' w' h' => ⟨h'.1, ?_⟩) hi
      refine ⟨fun h0 => (by rw [h0] at hj1; cases hj1), fun q' hq' => ?_⟩
      obtain rfl := h1 q' hq'
      rw [hkj]
      exact wpOp_mono (fun a'' w'' h'' => ⟨h''.1, wpOrd_any hsel hQ r _ a'' w'' ((hc.set hir).set hj1) h''.1 hB2 h''.2⟩) h'.2
    · rw [hkj]
      refine wpOp_mono (fun a' w' h' => ⟨h'.1, ?_⟩) hj
      refine ⟨fun h0 => (by rw [h0] at hi1; cases hi1), fun q' hq' => ?_⟩
      obtain rfl := h2 q' hq'
      rw [hki]
      exact wpOp_mono (fun a'' w'' h'' => ⟨h''.1, by rw [hcc]; exact wpOrd_any hsel hQ r _ a'' w'' ((hc.set hir).set hj1) h''.1 hB2 h''.2⟩) h'.2

/-- **ONE WALK, IN AN ORDER OF ONE's OWN CHOICE, SERVES EVERY ORDER.** -/
theorem wp_region_ord {id : Nat} {a : Act} {w : World} (L : List (Nat × Ent)) (hm : P.follows .mixedOrders = true) (hB : ordB ops L = true)
    (hQ : ∀ c a d v w, Q (.panic c) (a.put d v) w → Q (.panic c) a w) (hD : D { w with drawn := w.drawn + 1 })
    (h : wpOrd P ops D Q L a { w with drawn := w.drawn + 1 }) : (Code.region id ops true).wp P Q a w := by
  simp only [ordB, Bool.and_eq_true, decide_eq_true_eq] at hB
  obtain ⟨⟨⟨hsel, hlen⟩, hfree⟩, hgo⟩ := hB
  refine wp_region_any hm ?_
  refine wpAny_of_K (D := D) (kind := kindOf L) ?_ _ _ _ _ ?_
  · intro i o ho hk
    have hi : i < ops.size := (Array.getElem?_eq_some_iff.1 ho).1
    have := List.all_eq_true.1 hfree i (List.mem_range.2 hi)
    simp only [ho] at this
    simpa [hk] using this
  · rw [← hlen]
    refine wpOrd_any hsel hQ L _ a _ (fun j o _ hl => (by rw [getD_replicate_false] at hl; cases hl)) hD ?_ h
    rw [rowsOf_eq] at hgo
    refine ordGo_ok (by simp) (fun t ht hk => ?_) (fun j i hb => ?_) L _ 0 ⟨by simpa using hlen, fun j => by rw [getD_replicate_false, Nat.zero_testBit]⟩ hgo
    · exact List.mem_filter.2 ⟨List.mem_range.2 ht, by simpa using hk⟩
    · exact ancL_ok ops ops.toList [] (fun j => by simp) (fun j i hb => by simp at hb) j i hb

/-! ### The steps of the walk, for a region that is written out -/
/-- (A structure: so that nothing unfolds it.) -/
structure Ord (P : Program) (ops : Array Oper) (D : World → Prop) (Q : Exit → Act → World → Prop) (l : List (Nat × Ent)) (a : Act) (w : World) : Prop where
  out : wpOrd P ops D Q l a w
section
variable {l : List Oper} {o : Oper} {i : Nat} {r : List (Nat × Ent)} {a : Act} {w : World}
theorem ord_head (ho : l[i]? = some o) (hw : Region.wanted o (yielded l.toArray a.tmps) = true)
    (h : ∀ K : Act → Prop, (∀ a, Ord P l.toArray D Q r a w → K a) → o.quiet P a (fun w' => w' = w) K) : Ord P l.toArray D Q ((i, .head) :: r) a w := by
  have ho' : l.toArray[i]? = some o := by simpa using ho
  refine ⟨?_⟩
  simp only [wpOrd, ho', hw, if_true]
  exact h _ fun _ h => h.out
theorem ord_free (ho : l[i]? = some o) (hw : Region.wanted o (yielded l.toArray a.tmps) = true)
    (h : ∀ K : Act → Prop, (∀ a, Ord P l.toArray D Q r a w → K a) → o.quiet P a D K) : Ord P l.toArray D Q ((i, .free) :: r) a w := by
  have ho' : l.toArray[i]? = some o := by simpa using ho
  refine ⟨?_⟩
  simp only [wpOrd, ho', hw, if_true]
  exact h _ fun _ h => h.out
theorem ord_skip {k : Ent} (ho : l[i]? = some o) (hw : Region.wanted o (yielded l.toArray a.tmps) = false)
    (h : Ord P l.toArray D Q r (a.put o.dst undef) w) (hk : ∀ j, k ≠ .pair j := by intro j h; cases h) : Ord P l.toArray D Q ((i, k) :: r) a w := by
  have ho' : l.toArray[i]? = some o := by simpa using ho
  refine ⟨?_⟩
  cases k with
  | pair j => exact absurd rfl (hk j)
  | _ => simp only [wpOrd, ho', hw, Bool.false_eq_true, if_false]; exact h.out
theorem ord_loud (ho : l[i]? = some o) (hw : Region.wanted o (yielded l.toArray a.tmps) = true)
    (h : ∀ K : Act → World → Prop, (∀ a w, D w → Ord P l.toArray D Q r a w → K a w) → o.wp P a w K Q) : Ord P l.toArray D Q ((i, .loud) :: r) a w := by
  have ho' : l.toArray[i]? = some o := by simpa using ho
  refine ⟨?_⟩
  simp only [wpOrd, ho', hw, if_true]
  exact .inl (h _ fun _ _ hd h => ⟨hd, h.out⟩)
/-- D says nothing. -/
theorem ord_loud0 (ho : l[i]? = some o) (hw : Region.wanted o (yielded l.toArray a.tmps) = true)
    (h : ∀ K : Act → World → Prop, (∀ a w, Ord P l.toArray (fun _ => True) Q r a w → K a w) → o.wp P a w K Q) : Ord P l.toArray (fun _ => True) Q ((i, .loud) :: r) a w :=
  ord_loud ho hw fun _ hK => h _ fun a w hh => hK a w trivial hh
/-- Two loud operations in either order, each by what it leaves, that the other keeps. -/
theorem ord_pair {oi oj : Oper} {j : Nat} (hoi : l[i]? = some oi) (hoj : l[j]? = some oj) (hwi : ∀ a', a' = a ∨ (∃ u, a' = a.put oj.dst u) → Region.wanted oi (yielded l.toArray a'.tmps) = true) (hwj : ∀ a', a' = a ∨ (∃ u, a' = a.put oi.dst u) → Region.wanted oj (yielded l.toArray a'.tmps) = true)
    (Ai Aj : Value → World → Prop) (S : World → World → Prop) (hSi : ∀ v w w', S w w' → Ai v w → Ai v w') (hSj : ∀ v w w', S w w' → Aj v w → Aj v w')
    (hne : ∀ d, oj.dst = some d → oi.dst ≠ some d) (hd : D w)
    (hi : ∀ a', a' = a ∨ (∃ u, a' = a.put oj.dst u) → ∀ w, D w → ∀ K : Act → World → Prop, (∀ v w', D w' → S w w' → Ai v w' → K (a'.put oi.dst v) w') → oi.wp P a' w K Q)
    (hj : ∀ a', a' = a ∨ (∃ u, a' = a.put oi.dst u) → ∀ w, D w → ∀ K : Act → World → Prop, (∀ v w', D w' → S w w' → Aj v w' → K (a'.put oj.dst v) w') → oj.wp P a' w K Q)
    (h : ∀ v u w', D w' → Ai v w' → Aj u w' → Ord P l.toArray D Q r ((a.put oi.dst v).put oj.dst u) w') : Ord P l.toArray D Q ((i, .pair j) :: r) a w := by
  have hoi' : l.toArray[i]? = some oi := by simpa using hoi
  have hoj' : l.toArray[j]? = some oj := by simpa using hoj
  refine ⟨?_, ?_⟩
  · unfold wpOp
    simp only [hoi', hwi a (.inl rfl), if_true]
    refine .inl (hi a (.inl rfl) w hd _ fun v w1 hd1 hs1 h1 => ⟨hd1, ?_⟩)
    simp only [hoj', hwj _ (.inr ⟨v, rfl⟩), if_true]
    exact .inl (hj _ (.inr ⟨v, rfl⟩) w1 hd1 _ fun u w2 hd2 hs2 h2 => ⟨hd2, (h v u w2 hd2 (hSi v _ _ hs2 h1) h2).out⟩)
  · unfold wpOp
    simp only [hoj', hwj a (.inl rfl), if_true]
    refine .inl (hj a (.inl rfl) w hd _ fun u w1 hd1 hs1 h1 => ⟨hd1, ?_⟩)
    simp only [hoi', hwi _ (.inr ⟨u, rfl⟩), if_true]
    refine .inl (hi _ (.inr ⟨u, rfl⟩) w1 hd1 _ fun v w2 hd2 hs2 h2 => ⟨hd2, ?_⟩)
    rw [Act.put_comm a u v ?_]
    · exact (h v u w2 hd2 h2 (hSj u _ _ hs2 h1)).out
    · exact hne
theorem ord_nil (h : Q .normal a w) : Ord P l.toArray D Q [] a w := ⟨h⟩
theorem wp_region_ord_lit {id : Nat} (L : List (Nat × Ent)) (hm : P.follows .mixedOrders = true) (hB : ordB l.toArray L = true)
    (hQ : ∀ c a d v w, Q (.panic c) (a.put d v) w → Q (.panic c) a w) (h : Ord P l.toArray (fun _ => True) Q L a w.drew) : (Code.region id l.toArray true).wp P Q a w :=
  wp_region_ord (D := fun _ => True) L hm hB hQ trivial h.out
/-- The same, with a law D on the worlds that come up. -/
theorem wp_region_ord_in {id : Nat} (D : World → Prop) (L : List (Nat × Ent)) (hm : P.follows .mixedOrders = true) (hB : ordB l.toArray L = true)
    (hQ : ∀ c a d v w, Q (.panic c) (a.put d v) w → Q (.panic c) a w) (hD : D w.drew) (h : Ord P l.toArray D Q L a w.drew) : (Code.region id l.toArray true).wp P Q a w :=
  wp_region_ord (D := D) L hm hB hQ hD h.out
end
end
end Go.MtOrd
