/-
  The condition for a whole code, `vc`, and its soundness.
-/
import Derived.Test.YtdaookipaknoeaaGreatVd
namespace Go.Proofs.YtdaookipaknoeaaGreat
open Go

/-! ### Regions that draw their order -/

section
variable {P : Program} {ops : Array Oper} {Q : Exit → Act → World → Prop} {md : Region.Mode}

/-- whatever order is picked, and S holds behind every operation -/
def wpAnyX (P : Program) (md : Region.Mode) (ops : Array Oper) (Q : Exit → Act → World → Prop) (S : Array Bool → World → Prop) : Nat → Array Bool → Act → World → Prop
  | 0, l, a, w => Region.ready md ops l = [] ∧ Q .normal a w
  | n + 1, l, a, w => (Region.ready md ops l = [] → Q .normal a w) ∧
    ∀ i ∈ Region.ready md ops l, wpOp P ops Q i (fun a' w' => S (l.setIfInBounds i true) w' ∧ wpAnyX P md ops Q S n (l.setIfInBounds i true) a' w') a w

theorem wpAny_of_X {S : Array Bool → World → Prop} : ∀ (n : Nat) (l : Array Bool) (a : Act) (w : World), wpAnyX P md ops Q S n l a w → wpAny P md ops Q n l a w
  | 0, _, _, _, h => h
  | n + 1, _, _, _, h => ⟨h.1, fun i hi => wpOp_mono (fun a' w' h' => wpAny_of_X n _ a' w' h'.2) (h.2 i hi)⟩

theorem wpAnyX_mono {S S' : Array Bool → World → Prop} (hS : ∀ l w, S l w → S' l w) : ∀ (n : Nat) (l : Array Bool) (a : Act) (w : World), wpAnyX P md ops Q S n l a w → wpAnyX P md ops Q S' n l a w
  | 0, _, _, _, h => h
  | n + 1, _, _, _, h => ⟨h.1, fun i hi => wpOp_mono (fun a' w' h' => ⟨hS _ _ h'.1, wpAnyX_mono hS n _ a' w' h'.2⟩) (h.2 i hi)⟩

/-- what has come up waited for nothing that hasn't -/
def ClosedL (md : Region.Mode) (ops : Array Oper) (l : Array Bool) : Prop :=
  ∀ d o, ops[d]? = some o → l.getD d false = true → ∀ e ∈ o.after, Region.binds md e = true → l.getD e.on false = true

theorem getD_set_same {l : Array Bool} {i : Nat} {d : Bool} (h : i < l.size) : (l.setIfInBounds i true).getD i d = true := by
  simp [h]

theorem getD_set_ne' {l : Array Bool} {i j : Nat} {d : Bool} (h : i ≠ j) : (l.setIfInBounds i true).getD j d = l.getD j d := by
  simp [h]

theorem ready_lt {l : Array Bool} {i : Nat} (h : i ∈ Region.ready md ops l) : i < l.size ∧ l.getD i false = false := by
  obtain ⟨h1, _⟩ := mem_ready.1 h
  by_cases hi : i < l.size
  · exact ⟨hi, by simp [hi] at h1 ⊢; exact h1⟩
  · simp [Array.getElem?_eq_none (Nat.le_of_not_lt hi)] at h1

theorem ClosedL.set {l : Array Bool} {i : Nat} (h : ClosedL md ops l) (hi : i ∈ Region.ready md ops l) : ClosedL md ops (l.setIfInBounds i true) := by
  obtain ⟨hlt, _⟩ := ready_lt hi
  intro d o ho hd e he hb
  by_cases hdi : i = d
  · subst hdi
    obtain ⟨_, o', ho', hall⟩ := mem_ready.1 hi
    rw [ho] at ho'
    obtain rfl := Option.some.inj ho'
    by_cases hie : i = e.on
    · rw [← hie]; exact getD_set_same hlt
    · rw [getD_set_ne' hie]; exact hall e he hb
  · rw [getD_set_ne' hdi] at hd
    by_cases hie : i = e.on
    · rw [← hie]; exact getD_set_same hlt
    · rw [getD_set_ne' hie]; exact h d o ho hd e he hb

/-- an operation that may come up now may be taken first -/
theorem wpAnyX_first {i : Nat} {oi : Oper} {v : Value} (hi : ops[i]? = some oi) (hsel : ∀ (j : Nat) (o : Oper) cs b, ops[j]? = some o → o.op ≠ .select cs b)
    (hQ : ∀ c a w, ¬ Q (.panic c) a w) {S : Array Bool → World → Prop} (hins : ∀ l w, S (l.setIfInBounds i true) w ↔ S l w) :
    ∀ (n : Nat) (l : Array Bool) (a : Act) (w : World), ClosedL md ops l →
      (∀ j oj, ops[j]? = some oj → j ≠ i → l.getD j true = false → (∀ e ∈ oj.after, Region.binds md e = true → e.on ≠ i) → oi.apart ops oj = true) →
      i ∈ Region.ready md ops l → YieldsIf P ops (fun w => ∃ l, ClosedL md ops l ∧ l.getD i false = false ∧ S l w) oi v a → S l w →
      wpAnyX P md ops Q S n (l.setIfInBounds i true) (a.put oi.dst v) w → wpAnyX P md ops Q S (n + 1) l a w := by
  intro n
  induction n with
  | zero =>
    intro l a w hc _ hr hy hS H
    refine ⟨fun h => (by rw [h] at hr; cases hr), fun j hj => ?_⟩
    by_cases hji : j = i
    · subst hji; exact hy.wpOp hi ⟨l, hc, (ready_lt hr).2, hS⟩ ⟨(hins _ _).2 hS, H⟩
    · have := ready_mono hj hji
      rw [H.1] at this
      cases this
  | succ n ih =>
    intro l a w hc hfree hr hy hS H
    refine ⟨fun h => (by rw [h] at hr; cases hr), fun j hj => ?_⟩
    by_cases hji : j = i
    · subst hji; exact hy.wpOp hi ⟨l, hc, (ready_lt hr).2, hS⟩ ⟨(hins _ _).2 hS, H⟩
    · have h1 := H.2 j (ready_mono hj hji)
      obtain ⟨hjun, oj, hoj, hall⟩ := mem_ready.1 hj
      have hnot : ∀ e ∈ oj.after, Region.binds md e = true → e.on ≠ i := fun e he hb heq => by
        have h1 := hall e he hb
        rw [heq, (ready_lt hr).2] at h1
        cases h1
      have h2 := wpOp_putIf hoj (hfree j oj hoj hji hjun hnot) (fun cs b => hsel i oi cs b hi) (fun cs b => hsel j oj cs b hoj) (fun c a w h => absurd h (hQ c _ w)) hy h1
      have hfree' : ∀ k ok, ops[k]? = some ok → k ≠ i → (l.setIfInBounds j true).getD k true = false →
          (∀ e ∈ ok.after, Region.binds md e = true → e.on ≠ i) → oi.apart ops ok = true := fun k ok hk hki hun hno => by
        refine hfree k ok hk hki ?_ hno
        by_cases hjk : j = k
        · subst hjk; exact hjun
        · rw [getD_set_ne' hjk] at hun; exact hun
      refine wpOp_mono (fun a' w' h3 => ?_) h2
      obtain ⟨hy', hS', H'⟩ := h3
      rw [Array.setIfInBounds_comm _ _ (Ne.symm hji)] at hS' H'
      have hS'' := (hins _ _).1 hS'
      exact ⟨hS'', ih (l.setIfInBounds j true) a' w' (hc.set hj) hfree' (ready_mono hr (Ne.symm hji)) hy' hS'' H'⟩
end

/-- In which order the operations of a region are taken: `val` looks at no memory, `ld` only looks at it (its effects that wait for it, each by a path of edges), `eff` changes it: the only one that may come up then; `eff2`: one of two. -/
inductive Plan where
  | done
  | val (i : Nat) (p : Plan)
  | ld (i : Nat) (d : List (List Nat)) (p : Plan)
  | eff (i : Nat) (p : Plan)
  | eff2 (i : Nat) (p : Plan) (j : Nat) (q : Plan)

abbrev Held := List (List Nat × (World → Prop))

def heldOk (i : Nat) (w : World) : Held → Prop → Prop
  | [], R => R
  | (d, F) :: hs, R => if d.contains i then heldOk i w hs R else F w ∧ heldOk i w hs R

def heldRest (i : Nat) (hs : Held) : Held := hs.filter fun h => !h.1.contains i

theorem heldOk_out {i : Nat} {w : World} {R : Prop} : ∀ {hs : Held}, heldOk i w hs R → R ∧ ∀ h ∈ heldRest i hs, h.2 w := by
  intro hs
  induction hs with
  | nil => intro h; exact ⟨h, by simp [heldRest]⟩
  | cons x hs ih =>
    obtain ⟨d, F⟩ := x
    intro h
    unfold heldOk at h
    split at h
    · rename_i hd
      obtain ⟨h1, h2⟩ := ih h
      refine ⟨h1, fun y hy => h2 y ?_⟩
      simp only [heldRest, List.filter_cons, hd, Bool.not_true, Bool.false_eq_true, if_false] at hy
      exact hy
    · rename_i hd
      obtain ⟨h1, h2⟩ := ih h.2
      refine ⟨h1, fun y hy => ?_⟩
      simp only [heldRest, List.filter_cons] at hy
      split at hy
      · rcases List.mem_cons.1 hy with rfl | hy
        · exact h.1
        · exact h2 y hy
      · exact h2 y hy

def guardQ (ops : Array Oper) (o : Oper) (a : Act) (C : Bool → Act → Prop) : Prop :=
  match o.guard with
  | none => C true a
  | some (j, want) =>
    match (ops[j]?).bind (·.dst) with
    | some d =>
      match a.tmps[d]? with
      | some (.bool b) => CondQ b (C (true == want) (a.put (some d) (.bool true))) (C (false == want) (a.put (some d) (.bool false)))
      | _ => C false a
    | none => C false a

theorem put_same {a : Act} {d : Nat} {v : Value} (h : a.tmps[d]? = some v) : a.put (some d) v = a := by
  obtain ⟨t, ds⟩ := a
  simp only [Act.put, Act.mk.injEq, and_true]
  apply Array.ext_getElem?
  intro k
  simp only [Array.getElem?_setIfInBounds]
  split
  · rename_i hk; subst hk
    simp only at h
    rw [h]; simp [(Array.getElem?_eq_some_iff.1 h).1]
  · rfl

theorem guardQ_out {ops : Array Oper} {o : Oper} {a : Act} {C : Bool → Act → Prop} (h : guardQ ops o a C) : C (Region.wanted o (yielded ops a.tmps)) a := by
  unfold guardQ at h
  unfold Region.wanted
  split at h
  · rename_i hg; simpa [hg] using h
  · rename_i j want hg
    simp only [hg]
    unfold yielded
    split at h
    · rename_i d hd
      simp only [hd, Option.bind_some]
      split at h
      · rename_i b hb
        cases b
        · have h : C (false == want) (a.put (some d) (.bool false)) := h
          rw [put_same hb] at h
          simpa [hb] using h
        · have h : C (true == want) (a.put (some d) (.bool true)) := h
          rw [put_same hb] at h
          simpa [hb] using h
      · rename_i n1
        cases hv : a.tmps[d]? with
        | none => simpa using h
        | some v => cases v <;> first | exact absurd hv (n1 _) | simpa using h
    · rename_i hd
      simp only [hd, Option.bind_none]
      simpa using h

/-- one operation that is carried out -/
def opQ (P : Program) (B : List FuncId) (o : Oper) (a : Act) (w : World) (C : Act → World → Prop) : Prop :=
  match clsOf P o.op with
  | .val => valQ P o a.eval fun v => C (a.put o.dst v) w
  | .ld => ldQ P o a.eval fun F v => F w ∧ C (a.put o.dst v) w
  | .eff => effQ P B o a.eval w fun v w1 => C (a.put o.dst v) w1

/-- a region in the order of its text -/
def seqQ (P : Program) (B : List FuncId) (ops : Array Oper) (Q : Exit → Act → World → Prop) : List Oper → Act → World → Prop
  | [], a, w => Q .normal a w
  | o :: rest, a, w => guardQ ops o a fun wanted a =>
    match wanted with
    | true => opQ P B o a w (seqQ P B ops Q rest)
    | false => seqQ P B ops Q rest (a.put o.dst undef) w

/-- a region along a plan -/
def planQ (P : Program) (B : List FuncId) (ops : Array Oper) (Q : Exit → Act → World → Prop) : Plan → Held → Act → World → Prop
  | .done, _, a, w => Q .normal a w
  | .val i p, hs, a, w =>
    match ops[i]? with
    | none => False
    | some o => guardQ ops o a fun wanted a =>
      match wanted with
      | true => valQ P o a.eval fun v => planQ P B ops Q p hs (a.put o.dst v) w
      | false => planQ P B ops Q p hs (a.put o.dst undef) w
  | .ld i d p, hs, a, w =>
    match ops[i]? with
    | none => False
    | some o => guardQ ops o a fun wanted a =>
      match wanted with
      | true => ldQ P o a.eval fun F v => F w ∧ planQ P B ops Q p ((d.map (·.getLast?.getD 0), F) :: hs) (a.put o.dst v) w
      | false => planQ P B ops Q p hs (a.put o.dst undef) w
  | .eff i p, hs, a, w =>
    match ops[i]? with
    | none => False
    | some o => guardQ ops o a fun wanted a =>
      match wanted with
      | true => effQ P B o a.eval w fun v w1 => heldOk i w1 hs (planQ P B ops Q p (heldRest i hs) (a.put o.dst v) w1)
      | false => planQ P B ops Q p hs (a.put o.dst undef) w
  | .eff2 i p j q, hs, a, w =>
    (match ops[i]? with
    | none => False
    | some o => guardQ ops o a fun wanted a =>
      match wanted with
      | true => effQ P B o a.eval w fun v w1 => heldOk i w1 hs (planQ P B ops Q p (heldRest i hs) (a.put o.dst v) w1)
      | false => planQ P B ops Q p hs (a.put o.dst undef) w) ∧
    (match ops[j]? with
    | none => False
    | some o => guardQ ops o a fun wanted a =>
      match wanted with
      | true => effQ P B o a.eval w fun v w1 => heldOk j w1 hs (planQ P B ops Q q (heldRest j hs) (a.put o.dst v) w1)
      | false => planQ P B ops Q q hs (a.put o.dst undef) w)

/-- is there an edge from i to k? -/
def edge (ops : Array Oper) (i k : Nat) : Bool := ((ops[k]?).map fun o => o.after.any fun e => Region.binds .any e && e.on == i).getD false

def pathOk (ops : Array Oper) : Nat → List Nat → Bool
  | _, [] => true
  | i, k :: ks => edge ops i k && pathOk ops k ks

def Plan.len : Plan → Nat
  | .done => 0
  | .val _ p | .ld _ _ p | .eff _ p => p.len + 1
  | .eff2 _ p _ _ => p.len + 1

/-- E: the operations that change memory -/
def Plan.ok (ops : Array Oper) (E : List Nat) : Plan → Array Bool → Bool
  | .done, l => (Region.ready .any ops l).isEmpty
  | .val i p, l => (Region.ready .any ops l).contains i && Region.free .any ops l i && !E.contains i && p.ok ops E (l.setIfInBounds i true)
  | .ld i d p, l => (Region.ready .any ops l).contains i && Region.free .any ops l i && !E.contains i && (d.all fun ks => !ks.isEmpty && pathOk ops i ks && E.contains (ks.getLast?.getD 0)) && p.ok ops E (l.setIfInBounds i true)
  | .eff i p, l => (Region.ready .any ops l == [i]) && p.ok ops E (l.setIfInBounds i true)
  | .eff2 i p j q, l => (Region.ready .any ops l == [i, j]) && (q.len == p.len) && p.ok ops E (l.setIfInBounds i true) && q.ok ops E (l.setIfInBounds j true)

section
variable {P : Program} {B : List FuncId} (hB : ∀ f, B.contains f = true → okF P f = true) {Q : Exit → Act → World → Prop}

theorem Oper.wp_of_gives {o : Oper} {a : Act} {w : World} {v : Value} {K : Act → World → Prop} (h : Gives P o a.eval v) (hk : K (a.put o.dst v) w) : o.wp P a w K Q := by
  unfold Oper.wp; rw [h w]; exact hk

include hB in
theorem opQ_sound {o : Oper} {a : Act} {w : World} {C : Act → World → Prop} (h : opQ P B o a w C) : o.wp P a w C Q := by
  unfold opQ at h
  split at h
  · obtain ⟨v, h1, h2⟩ := valQ_sound h
    exact Oper.wp_of_gives h1 h2
  · obtain ⟨F, v, h1, h2, h3⟩ := ldQ_sound h
    unfold Oper.wp; rw [h1 w h2]; exact h3
  · exact Oper.wp_mono (fun a' w' ⟨v, e, h⟩ => e ▸ h) (effQ_sound hB h)

include hB in
theorem seqQ_sound {ops : Array Oper} : ∀ {l : List Oper} {a : Act} {w : World}, seqQ P B ops Q l a w → wpList P ops Q l a w := by
  intro l
  induction l with
  | nil => intro a w h; exact h
  | cons o l ih =>
    intro a w h
    have h := guardQ_out h
    unfold wpList
    split
    · rename_i hw
      rw [hw] at h
      exact .inl (Oper.wp_mono (fun a' w' h => ih h) (opQ_sound hB h))
    · rename_i hw
      rw [Bool.not_eq_true] at hw
      rw [hw] at h
      exact ih h

theorem wp_of_seqQ {id : Nat} {ops : Array Oper} {a : Act} {w : World} (hB : ∀ f, B.contains f = true → okF P f = true) (h : seqQ P B ops Q ops.toList a w) : (Code.region id ops false).wp P Q a w :=
  wp_region_list (seqQ_sound hB h)

theorem path_listed {ops : Array Oper} {l : Array Bool} (hc : ClosedL .any ops l) : ∀ (ks : List Nat) (i : Nat), pathOk ops i ks = true → ks ≠ [] → l.getD (ks.getLast?.getD 0) false = true → l.getD i false = true := by
  have one : ∀ i k, edge ops i k = true → l.getD k false = true → l.getD i false = true := by
    intro i k he hk
    unfold edge at he
    cases ho : ops[k]? with
    | none => simp [ho] at he
    | some o =>
      simp only [ho, Option.map_some, Option.getD_some, Array.any_eq_true] at he
      obtain ⟨x, hx, he⟩ := he
      simp only [Bool.and_eq_true, beq_iff_eq] at he
      rw [← he.2]
      exact hc k o ho hk _ (Array.getElem_mem hx) he.1
  intro ks
  induction ks with
  | nil => intro i _ h; exact absurd rfl h
  | cons k ks ih =>
    intro i hp _ hl
    simp only [pathOk, Bool.and_eq_true] at hp
    cases ks with
    | nil => exact one i k hp.1 (by simpa using hl)
    | cons k2 ks => exact one i k hp.1 (ih k hp.2 (by simp) (by simpa using hl))
end

theorem getD_set_mono {l : Array Bool} {i k : Nat} (h : l.getD k false = true) : (l.setIfInBounds i true).getD k false = true := by
  by_cases hik : i = k
  · subst hik
    by_cases hlt : i < l.size
    · exact getD_set_same hlt
    · simp [Array.getElem?_eq_none (Nat.le_of_not_lt hlt)] at h
  · rw [getD_set_ne' hik]; exact h

section
variable {P : Program} {B : List FuncId} {Q : Exit → Act → World → Prop} {ops : Array Oper} {E : List Nat}

theorem planQ_sound (hB : ∀ f, B.contains f = true → okF P f = true) (hsel : Region.noSelect ops = true) (hQ : ∀ c a w, ¬ Q (.panic c) a w) :
    ∀ (p : Plan) (hs : Held) (l : Array Bool) (a : Act) (w : World) (S : Array Bool → World → Prop),
      p.ok ops E l = true → ClosedL .any ops l → (∀ h ∈ hs, ∀ e ∈ h.1, E.contains e = true) →
      (∀ k, E.contains k = false → ∀ l w, S (l.setIfInBounds k true) w ↔ S l w) →
      (∀ l' w, (∀ k, l.getD k false = true → l'.getD k false = true) → (∀ h ∈ hs, (∀ e ∈ h.1, l'.getD e false = false) → h.2 w) → S l' w) →
      (∀ h ∈ hs, h.2 w) → planQ P B ops Q p hs a w → wpAnyX P .any ops Q S p.len l a w := by
  have key : ∀ (i : Nat) (l : Array Bool) (a : Act) (w : World) (o : Oper) (v : Value) (n : Nat) (S : Array Bool → World → Prop), ops[i]? = some o → (Region.ready .any ops l).contains i = true → Region.free .any ops l i = true →
      ClosedL .any ops l → (∀ l w, S (l.setIfInBounds i true) w ↔ S l w) → S l w → YieldsIf P ops (fun w => ∃ l, ClosedL .any ops l ∧ l.getD i false = false ∧ S l w) o v a →
      wpAnyX P .any ops Q S n (l.setIfInBounds i true) (a.put o.dst v) w → wpAnyX P .any ops Q S (n + 1) l a w := fun i l a w o v n S ho hr hf hc hi hS hy H =>
    wpAnyX_first ho (Region.noSelect_spec hsel) hQ hi n l a w hc (Region.free_spec ho hf) (by simpa using hr) hy hS H
  have effKey : ∀ (i : Nat) (p : Plan) (hs : Held) (l : Array Bool) (a : Act) (w : World) (S : Array Bool → World → Prop),
      (∀ (hs : Held) (l : Array Bool) (a : Act) (w : World) (S : Array Bool → World → Prop),
        p.ok ops E l = true → ClosedL .any ops l → (∀ h ∈ hs, ∀ e ∈ h.1, E.contains e = true) →
        (∀ k, E.contains k = false → ∀ l w, S (l.setIfInBounds k true) w ↔ S l w) →
        (∀ l' w, (∀ k, l.getD k false = true → l'.getD k false = true) → (∀ h ∈ hs, (∀ e ∈ h.1, l'.getD e false = false) → h.2 w) → S l' w) →
        (∀ h ∈ hs, h.2 w) → planQ P B ops Q p hs a w → wpAnyX P .any ops Q S p.len l a w) →
      i ∈ Region.ready .any ops l → p.ok ops E (l.setIfInBounds i true) = true → ClosedL .any ops l → (∀ h ∈ hs, ∀ e ∈ h.1, E.contains e = true) →
      (∀ k, E.contains k = false → ∀ l w, S (l.setIfInBounds k true) w ↔ S l w) →
      (∀ l' w, (∀ k, l.getD k false = true → l'.getD k false = true) → (∀ h ∈ hs, (∀ e ∈ h.1, l'.getD e false = false) → h.2 w) → S l' w) →
      (∀ h ∈ hs, h.2 w) →
      (match ops[i]? with
        | none => False
        | some o => guardQ ops o a fun wanted a =>
          match wanted with
          | true => effQ P B o a.eval w fun v w1 => heldOk i w1 hs (planQ P B ops Q p (heldRest i hs) (a.put o.dst v) w1)
          | false => planQ P B ops Q p hs (a.put o.dst undef) w) →
      wpOp P ops Q i (fun a' w' => S (l.setIfInBounds i true) w' ∧ wpAnyX P .any ops Q S p.len (l.setIfInBounds i true) a' w') a w := by
    intro i p hs l a w S ih hr hok hc hdE hins hS hcur H
    obtain ⟨hlt, _⟩ := ready_lt hr
    have up : ∀ l' : Array Bool, (∀ k, (l.setIfInBounds i true).getD k false = true → l'.getD k false = true) → (∀ k, l.getD k false = true → l'.getD k false = true) := fun (l' : Array Bool) h k hk => h k (getD_set_mono hk)
    have on : ∀ l' : Array Bool, (∀ k, (l.setIfInBounds i true).getD k false = true → l'.getD k false = true) → l'.getD i false = true := fun (l' : Array Bool) h => h i (getD_set_same hlt)
    unfold wpOp
    split at H
    · exact H.elim
    · rename_i o ho
      simp only [ho]
      have H := guardQ_out H
      split
      · rename_i hw
        rw [hw] at H
        refine .inl (Oper.wp_mono (fun a' w' h => ?_) (effQ_sound hB H))
        obtain ⟨v, rfl, h⟩ := h
        obtain ⟨h1, h2⟩ := heldOk_out h
        have hS' : ∀ l' w, (∀ k, (l.setIfInBounds i true).getD k false = true → l'.getD k false = true) → (∀ h ∈ heldRest i hs, (∀ e ∈ h.1, l'.getD e false = false) → h.2 w) → S l' w := by
          intro l' w hl hf
          refine hS l' w (up l' hl) fun x hx hn => ?_
          by_cases hi : x.1.contains i = true
          · have := hn i (by simpa using hi)
            rw [on l' hl] at this
            cases this
          · exact hf x (by simp only [heldRest, List.mem_filter]; exact ⟨hx, by simpa using hi⟩) hn
        exact ⟨hS' _ _ (fun k hk => hk) (fun x hx _ => h2 x hx), ih (heldRest i hs) _ _ _ S hok (hc.set hr) (fun x hx => hdE x (List.mem_filter.1 hx).1) hins hS' h2 h1⟩
      · rename_i hw
        rw [Bool.not_eq_true] at hw
        rw [hw] at H
        have hS' : ∀ l' w, (∀ k, (l.setIfInBounds i true).getD k false = true → l'.getD k false = true) → (∀ h ∈ hs, (∀ e ∈ h.1, l'.getD e false = false) → h.2 w) → S l' w := fun l' w hl hf => hS l' w (up l' hl) hf
        exact ⟨hS' _ _ (fun k hk => hk) (fun x hx _ => hcur x hx), ih hs _ _ _ S hok (hc.set hr) hdE hins hS' hcur H⟩
  intro p
  induction p with
  | done =>
    intro hs l a w S hok _ _ _ _ _ H
    exact ⟨by simpa [Plan.ok] using hok, H⟩
  | val i p ih =>
    intro hs l a w S hok hc hdE hins hS hcur H
    simp only [Plan.ok, Bool.and_eq_true, Bool.not_eq_true'] at hok
    obtain ⟨⟨⟨h1, h2⟩, h3⟩, h4⟩ := hok
    have hr : i ∈ Region.ready .any ops l := by simpa using h1
    have hS' : ∀ l' w, (∀ k, (l.setIfInBounds i true).getD k false = true → l'.getD k false = true) → (∀ h ∈ hs, (∀ e ∈ h.1, l'.getD e false = false) → h.2 w) → S l' w := fun l' w hl hf => hS l' w (fun k hk => hl k (getD_set_mono hk)) hf
    have hnow : S l w := hS l w (fun k hk => hk) (fun x hx _ => hcur x hx)
    unfold planQ at H
    split at H
    · exact H.elim
    · rename_i o ho
      have H := guardQ_out H
      split at H
      · rename_i hw
        obtain ⟨v, hg, H⟩ := valQ_sound H
        exact key i l a w o v p.len S ho h1 h2 hc (hins i h3) hnow (.inl ⟨hw, fun w _ => hg w⟩) (ih hs _ _ _ S h4 (hc.set hr) hdE hins hS' hcur H)
      · rename_i hw
        exact key i l a w o undef p.len S ho h1 h2 hc (hins i h3) hnow (.inr ⟨hw, rfl⟩) (ih hs _ _ _ S h4 (hc.set hr) hdE hins hS' hcur H)
  | ld i d p ih =>
    intro hs l a w S hok hc hdE hins hS hcur H
    simp only [Plan.ok, Bool.and_eq_true, Bool.not_eq_true'] at hok
    obtain ⟨⟨⟨⟨h1, h2⟩, h3⟩, hd⟩, h4⟩ := hok
    have hr : i ∈ Region.ready .any ops l := by simpa using h1
    have hS' : ∀ l' w, (∀ k, (l.setIfInBounds i true).getD k false = true → l'.getD k false = true) → (∀ h ∈ hs, (∀ e ∈ h.1, l'.getD e false = false) → h.2 w) → S l' w := fun l' w hl hf => hS l' w (fun k hk => hl k (getD_set_mono hk)) hf
    have hnow : S l w := hS l w (fun k hk => hk) (fun x hx _ => hcur x hx)
    unfold planQ at H
    split at H
    · exact H.elim
    · rename_i o ho
      have H := guardQ_out H
      split at H
      · rename_i hw
        obtain ⟨F, v, hg, hF, H⟩ := ldQ_sound H
        have hdl : ∀ e ∈ d.map (·.getLast?.getD 0), E.contains e = true := by
          intro e he
          obtain ⟨ks, hks, rfl⟩ := List.mem_map.1 he
          have := List.all_eq_true.1 hd ks hks
          simp only [Bool.and_eq_true] at this
          exact this.2
        let S' : Array Bool → World → Prop := fun l' w' => S l' w' ∧ ((∀ e ∈ d.map (·.getLast?.getD 0), l'.getD e false = false) → F w')
        have hins' : ∀ k, E.contains k = false → ∀ l w, S' (l.setIfInBounds k true) w ↔ S' l w := by
          intro k hk l w
          have hne : ∀ e ∈ d.map (·.getLast?.getD 0), k ≠ e := fun e he hke => by
            have h5 := hdl e he
            rw [← hke, hk] at h5
            cases h5
          have he : (∀ e ∈ d.map (·.getLast?.getD 0), (l.setIfInBounds k true).getD e false = false) ↔ (∀ e ∈ d.map (·.getLast?.getD 0), l.getD e false = false) :=
            ⟨fun h e he => by rw [← getD_set_ne' (hne e he)]; exact h e he, fun h e he => by rw [getD_set_ne' (hne e he)]; exact h e he⟩
          show (S _ w ∧ (_ → F w)) ↔ (S l w ∧ (_ → F w))
          rw [hins k hk l w, he]
        have hy : YieldsIf P ops (fun w => ∃ l, ClosedL .any ops l ∧ l.getD i false = false ∧ S' l w) o v a := by
          refine .inl ⟨hw, fun w' hw' => ?_⟩
          obtain ⟨l', hc', hi', hS''⟩ := hw'
          refine hg w' (hS''.2 fun e he => ?_)
          obtain ⟨ks, hks, rfl⟩ := List.mem_map.1 he
          have h5 := List.all_eq_true.1 hd ks hks
          simp only [Bool.and_eq_true, Bool.not_eq_true', List.isEmpty_eq_false_iff] at h5
          cases hq : l'.getD (ks.getLast?.getD 0) false with
          | false => rfl
          | true =>
            rw [path_listed hc' ks i h5.1.2 h5.1.1 hq] at hi'
            cases hi'
        have H' := ih ((d.map (·.getLast?.getD 0), F) :: hs) (l.setIfInBounds i true) (a.put o.dst v) w S' h4 (hc.set hr)
          (fun x hx => by rcases List.mem_cons.1 hx with rfl | hx; exact hdl; exact hdE x hx) hins'
          (fun l' w' hl hf => ⟨hS' l' w' hl (fun x hx => hf x (List.mem_cons_of_mem _ hx)), hf _ (List.mem_cons_self)⟩)
          (fun x hx => by rcases List.mem_cons.1 hx with rfl | hx; exact hF; exact hcur x hx) H
        exact wpAnyX_mono (fun _ _ h => h.1) _ _ _ _ (key i l a w o v p.len S' ho h1 h2 hc (hins' i h3) ⟨hnow, fun _ => hF⟩ hy H')
      · rename_i hw
        exact key i l a w o undef p.len S ho h1 h2 hc (hins i h3) hnow (.inr ⟨hw, rfl⟩) (ih hs _ _ _ S h4 (hc.set hr) hdE hins hS' hcur H)
  | eff i p ih =>
    intro hs l a w S hok hc hdE hins hS hcur H
    simp only [Plan.ok, Bool.and_eq_true, beq_iff_eq] at hok
    refine ⟨fun h => (by rw [h] at hok; cases hok.1), fun j hj => ?_⟩
    have hr := hj
    rw [hok.1] at hj
    obtain rfl : j = i := by simpa using hj
    exact effKey j p hs l a w S ih hr hok.2 hc hdE hins hS hcur H
  | eff2 i p j q ihp ihq =>
    intro hs l a w S hok hc hdE hins hS hcur H
    simp only [Plan.ok, Bool.and_eq_true, beq_iff_eq] at hok
    obtain ⟨⟨⟨h0, hlen⟩, h1⟩, h2⟩ := hok
    refine ⟨fun h => (by rw [h] at h0; cases h0), fun k hk => ?_⟩
    have hr := hk
    rw [h0] at hk
    rcases List.mem_cons.1 hk with rfl | hk
    · exact effKey k p hs l a w S ihp hr h1 hc hdE hins hS hcur H.1
    · obtain rfl : k = j := by simpa using hk
      have := effKey k q hs l a w S ihq hr h2 hc hdE hins hS hcur H.2
      rw [hlen] at this
      exact this

/-- the whole region -/
theorem wp_of_planQ {id : Nat} {p : Plan} {a : Act} {w : World} (hm : P.follows .mixedOrders = true) (hB : ∀ f, B.contains f = true → okF P f = true) (hQ : ∀ c a w, ¬ Q (.panic c) a w)
    (hsel : Region.noSelect ops = true) (hp : p.ok ops E (Array.replicate ops.size false) = true) (hl : p.len = ops.size) (h : planQ P B ops Q p [] a { w with drawn := w.drawn + 1 }) : (Code.region id ops true).wp P Q a w := by
  refine wp_region_any hm ?_
  have hfalse : ∀ d, (Array.replicate ops.size false).getD d false = false := fun d => by
    simp only [Array.getD_eq_getD_getElem?, Array.getElem?_replicate]
    split <;> rfl
  have H := planQ_sound (E := E) hB hsel hQ p [] (Array.replicate ops.size false) a _ (fun _ _ => True) hp (fun d o _ hd => by rw [hfalse d] at hd; cases hd) (by simp) (by simp) (by simp) (by simp) h
  rw [hl] at H
  exact wpAny_of_X _ _ _ _ H
end

/-! ### The whole code -/

/-- What is known at the points where a code is cut: for the loop in the block with a number, what holds at each round's head, what holds where it is left, and what each round lowers; what holds behind a region, and ahead of one. The list: what the loops around have to lower, the innermost first. -/
structure Ann where
  inv : List Nat → Nat → Act → World → Prop := fun _ _ _ _ => False
  out : List Nat → Nat → Exit → Act → World → Prop := fun _ _ _ _ _ => False
  var : List Nat → Nat → Act → World → Nat := fun _ _ _ _ => 0
  after : Nat → Option (List Nat → Act → World → Prop) := fun _ => none
  before : Nat → Option (List Nat → Act → World → Prop) := fun _ => none

/-- plans of the regions that draw, by their numbers -/
abbrev Plans := Nat → Plan × List Nat

def headReg : Code → Option Nat
  | .region id _ _ => some id
  | .seq x _ => headReg x
  | _ => none

def cutOf (K : Ann) (x y : Code) : Option (List Nat → Act → World → Prop) :=
  match x with
  | .region id _ _ => K.after id
  | _ =>
    match headReg y with
    | some id => K.before id
    | none => none

def vc (P : Program) (B : List FuncId) (pl : Plans) (K : Ann) : List Nat → Nat → Code → (Exit → Act → World → Prop) → Act → World → Prop
  | _, _, .skip, Q, a, w => Q .normal a w
  | _, _, .label _, Q, a, w => Q .normal a w
  | _, _, .region _ ops false, Q, a, w => seqQ P B ops Q ops.toList a w
  | _, _, .region id ops true, Q, a, w => planQ P B ops Q (pl id).1 [] a w.drew
  | g, b, .seq x y, Q, a, w =>
    match cutOf K x y with
    | some M => vc P B pl K g b x (Exit.then (M g) Q) a w
    | none => vc P B pl K g b x (Exit.then (vc P B pl K g b y Q) Q) a w
  | g, b, .cond c x y, Q, a, w =>
    match a.eval c with
    | .bool t => CondQ t (vc P B pl K g b x Q a w) (vc P B pl K g b y Q a w)
    | _ => False
  | g, _, .block id c, Q, a, w => vc P B pl K g id c (Exit.inBlock id Q) a w
  | g, b, .loop _, _, a, w => K.inv g b a w
  | _, _, .exit id, Q, a, w => Q (.exit id) a w
  | _, _, .ret, Q, a, w => Q .ret a w
  | _, _, _, _, _, _ => False

/-- is the code cut anywhere? -/
def hasCut (K : Ann) : Code → Bool
  | .seq x y => (cutOf K x y).isSome || hasCut K x || hasCut K y
  | .cond _ x y => hasCut K x || hasCut K y
  | .block _ c => hasCut K c
  | .loop _ => true
  | _ => false

/-- what is owed at the cuts -/
def owed (P : Program) (B : List FuncId) (pl : Plans) (K : Ann) : List Nat → Nat → Code → (Exit → Act → World → Prop) → Prop
  | g, b, .seq x y, Q =>
    match cutOf K x y with
    | some M => (∀ a w, M g a w → vc P B pl K g b y Q a w) ∧ (match hasCut K x with | true => owed P B pl K g b x (Exit.then (M g) Q) | false => True) ∧ (match hasCut K y with | true => owed P B pl K g b y Q | false => True)
    | none => (match hasCut K x with | true => owed P B pl K g b x (Exit.then (vc P B pl K g b y Q) Q) | false => True) ∧ (match hasCut K y with | true => owed P B pl K g b y Q | false => True)
  | g, b, .cond _ x y, Q => (match hasCut K x with | true => owed P B pl K g b x Q | false => True) ∧ (match hasCut K y with | true => owed P B pl K g b y Q | false => True)
  | g, _, .block id c, Q => (match hasCut K c with | true => owed P B pl K g id c (Exit.inBlock id Q) | false => True)
  | g, b, .loop c, Q =>
    (∀ e a w, K.out g b e a w → Q e a w) ∧ (∀ ch a w, ¬ K.out g b (.panic ch) a w) ∧
    (∀ m a w, K.inv g b a w → K.var g b a w = m → vc P B pl K (m :: g) b c (Exit.then (fun a' w' => K.inv g b a' w' ∧ K.var g b a' w' < m) (K.out g b)) a w) ∧
    (match hasCut K c with | true => ∀ m, owed P B pl K (m :: g) b c (Exit.then (fun a' w' => K.inv g b a' w' ∧ K.var g b a' w' < m) (K.out g b)) | false => True)
  | _, _, _, _ => True

/-- the plans fit -/
def plansOk (pl : Plans) : Code → Bool
  | .region id ops true => Region.noSelect ops && (pl id).1.ok ops (pl id).2 (Array.replicate ops.size false) && (pl id).1.len == ops.size
  | .seq x y => plansOk pl x && plansOk pl y
  | .cond _ x y => plansOk pl x && plansOk pl y
  | .block _ c => plansOk pl c
  | .loop c => plansOk pl c
  | _ => true

theorem owed_of {P : Program} {B : List FuncId} {pl : Plans} {K : Ann} {g : List Nat} {b : Nat} {c : Code} {Q : Exit → Act → World → Prop}
    (h : match hasCut K c with | true => owed P B pl K g b c Q | false => True) (hc : hasCut K c = true) : owed P B pl K g b c Q := by
  rw [hc] at h; exact h

theorem vc_sound {P : Program} {B : List FuncId} {pl : Plans} {K : Ann} (hm : P.follows .mixedOrders = true) (hB : ∀ f, B.contains f = true → okF P f = true) :
    ∀ (c : Code) (g : List Nat) (b : Nat) (Q : Exit → Act → World → Prop) (a : Act) (w : World), plansOk pl c = true → (∀ c a w, ¬ Q (.panic c) a w) → (match hasCut K c with | true => owed P B pl K g b c Q | false => True) → vc P B pl K g b c Q a w → c.wp P Q a w := by
  intro c
  induction c with
  | skip => intro g b Q a w _ _ _ h; exact wp_skip h
  | label l => intro g b Q a w _ _ _ h; exact wp_label h
  | region id ops draw =>
    intro g b Q a w hok hQ _ h
    cases draw with
    | false => exact wp_of_seqQ hB h
    | true =>
      simp only [plansOk, Bool.and_eq_true, beq_iff_eq] at hok
      exact wp_of_planQ hm hB hQ hok.1.1 hok.1.2 hok.2 h
  | seq x y ihx ihy =>
    intro g b Q a w hok hQ ho h
    simp only [plansOk, Bool.and_eq_true] at hok
    refine wp_seq ?_
    unfold vc at h
    unfold hasCut at ho
    cases hcut : cutOf K x y with
    | some M =>
      rw [hcut] at h ho
      simp only [Option.isSome_some, Bool.true_or] at ho
      unfold owed at ho
      rw [hcut] at ho
      have h' := ihx g b (Exit.then (M g) Q) a w hok.1 (fun c a w hp => hQ c a w hp) ho.2.1 h
      refine wp_mono h' fun e a w q => ?_
      cases e with
      | normal => exact ihy g b Q a w hok.2 hQ ho.2.2 (ho.1 a w q)
      | _ => exact q
    | none =>
      rw [hcut] at h ho
      simp only [Option.isSome_none, Bool.false_or] at ho
      have hx : match hasCut K x with | true => owed P B pl K g b x (Exit.then (vc P B pl K g b y Q) Q) | false => True := by
        cases hcx : hasCut K x with
        | false => trivial
        | true =>
          rw [hcx] at ho
          simp only [Bool.true_or] at ho
          unfold owed at ho
          rw [hcut] at ho
          simp only at ho
          exact owed_of ho.1 hcx
      have hy : match hasCut K y with | true => owed P B pl K g b y Q | false => True := by
        cases hcy : hasCut K y with
        | false => trivial
        | true =>
          rw [hcy] at ho
          simp only [Bool.or_true] at ho
          unfold owed at ho
          rw [hcut] at ho
          simp only at ho
          exact owed_of ho.2 hcy
      have h' := ihx g b (Exit.then (vc P B pl K g b y Q) Q) a w hok.1 (fun c a w hp => hQ c a w hp) hx h
      refine wp_mono h' fun e a w q => ?_
      cases e with
      | normal => exact ihy g b Q a w hok.2 hQ hy q
      | _ => exact q
  | cond c x y ihx ihy =>
    intro g b Q a w hok hQ ho h
    simp only [plansOk, Bool.and_eq_true] at hok
    have hx : match hasCut K x with | true => owed P B pl K g b x Q | false => True := by
      cases hcx : hasCut K x with
      | false => trivial
      | true =>
        simp only [hasCut, hcx, Bool.true_or] at ho
        unfold owed at ho
        exact owed_of ho.1 hcx
    have hy : match hasCut K y with | true => owed P B pl K g b y Q | false => True := by
      cases hcy : hasCut K y with
      | false => trivial
      | true =>
        simp only [hasCut, hcy, Bool.or_true] at ho
        unfold owed at ho
        exact owed_of ho.2 hcy
    unfold vc at h
    split at h
    · rename_i t hb
      refine wp_cond hb ?_
      cases t with
      | true => exact ihx g b Q a w hok.1 hQ hx h
      | false => exact ihy g b Q a w hok.2 hQ hy h
    · exact h.elim
  | block id c ih =>
    intro g b Q a w hok hQ ho h
    refine wp_block (ih g id _ a w hok (fun c a w hp => hQ c a w hp) ?_ h)
    cases hcc : hasCut K c with
    | false => trivial
    | true =>
      simp only [hasCut, hcc] at ho
      unfold owed at ho
      exact owed_of ho hcc
  | loop c ih =>
    intro g b Q a w hok hQ ho h
    simp only [hasCut] at ho
    unfold owed at ho
    obtain ⟨h1, h2, h3, h4⟩ := ho
    refine wp_mono (wp_loop (Q := K.out g b) (K.inv g b) (K.var g b) h fun a w hI => ?_) h1
    refine ih (K.var g b a w :: g) b _ a w hok (fun c a w hp => h2 c a w hp) ?_ (h3 _ a w hI rfl)
    cases hcc : hasCut K c with
    | false => trivial
    | true => rw [hcc] at h4; exact h4 _
  | exit id => intro g b Q a w _ _ _ h; exact wp_exit h
  | ret => intro g b Q a w _ _ _ h; exact wp_ret h
  | _ => intro g b Q a w _ _ _ h; exact h.elim

/-! ### A function -/

def resQ (P : Program) : List ResultVar → Act → World → (List Value → Prop) → Prop
  | [], _, _, C => C []
  | .tmp t :: rs, a, w, C => resQ P rs a w fun vs => C (a.tmps.getD t undef :: vs)
  | .cell t ty :: rs, a, w, C =>
    ldQ P { dst := none, op := .load ty (.tmp t), type := ty, pos := "", after := #[], guard := none } a.eval fun F v => F w ∧ resQ P rs a w fun vs => C (v :: vs)

def oneOf : List Value → Value
  | [v] => v
  | vs => .tuple vs.toArray

def RetQ (P : Program) (fn : Func) (R : Ending → World → Prop) : Exit → Act → World → Prop
  | .normal, a, w | .ret, a, w =>
    match a.defers with
    | [] => resQ P fn.results.toList a w fun vs => R (.returned (oneOf vs)) w
    | _ => False
  | _, _, _ => False

/-- how a result is read -/
def resRead (tmps : Array Value) : ResultVar → Sem Value
  | .tmp t => pure (tmps.getD t undef)
  | .cell x t => do loadVar t (← asAddr (tmps.getD x undef))

theorem results_eq (fn : Func) (tmps : Array Value) : results fn tmps = (do let vs ← fn.results.mapM (resRead tmps); pure (if h : vs.size = 1 then vs[0] else .tuple vs)) := by
  unfold results
  congr 1

theorem resQ_out {P : Program} {a : Act} {w : World} : ∀ {rs : List ResultVar} {C : List Value → Prop}, resQ P rs a w C →
    ∃ vs, (rs.mapM (resRead a.tmps)).run P w = Result.ok vs w ∧ C vs := by
  intro rs
  induction rs with
  | nil => intro C h; exact ⟨[], rfl, h⟩
  | cons r rs ih =>
    intro C h
    cases r with
    | tmp t =>
      obtain ⟨vs, h1, h2⟩ := ih h
      exact ⟨_, by simp only [List.mapM_cons, resRead, Sem.run_bind, Sem.run_pure, Result.andThen_ok, h1], h2⟩
    | cell t ty =>
      obtain ⟨F, v, hg, hF, h⟩ := ldQ_sound h
      obtain ⟨vs, h1, h2⟩ := ih h
      refine ⟨_, ?_, h2⟩
      have hl := hg w hF
      simp only [execOp, Instr.loadAt, Instr.sureAddr, Act.eval] at hl
      cases hv : a.tmps.getD t undef <;> simp only [hv] at hl <;> try (simp [stuck] at hl; done)
      rename_i p
      cases p with
      | none => simp [stuck] at hl
      | some ad =>
        simp only [Sem.run_bind, Sem.run_pure, Result.andThen_ok] at hl
        cases hr : (loadVar ty ad).run P w with
        | ok u w1 =>
          rw [hr] at hl
          simp only [Result.andThen_ok, Result.ok.injEq, Next.value.injEq] at hl
          obtain ⟨rfl, rfl⟩ := hl
          have ha : (asAddr (a.tmps.getD t undef)).run P w1 = .ok ad w1 := by rw [hv]; rfl
          simp only [List.mapM_cons, resRead, Sem.run_bind, Sem.run_pure, Result.andThen_ok, ha, hr, h1]
        | halt x w1 => rw [hr] at hl; simp at hl

end Go.Proofs.YtdaookipaknoeaaGreat
