/-
  The same condition on environments (a frame, and what was put into it, the newest first), which the kernel reckons faster; and the function as a whole.
-/
import Derived.Test.YtdaookipaknoeaaGreatVe
namespace Go.Proofs.YtdaookipaknoeaaGreat
open Go

structure Env where
  base : Act
  l : List (Nat × Value)

def lookE : List (Nat × Value) → Nat → Option Value
  | [], _ => none
  | (d, v) :: l, i => match Nat.beq d i with | true => some v | false => lookE l i

def Env.get (e : Env) (i : Nat) : Value :=
  match lookE e.l i with
  | some v => match Nat.blt i e.base.tmps.size with | true => v | false => undef
  | none => e.base.tmps.getD i undef

def Env.putE (e : Env) : Option Tmp → Value → Env
  | some d, v => ⟨e.base, (d, v) :: e.l⟩
  | none, _ => e

def Env.act (e : Env) : Act := e.l.foldr (fun p a => a.put (some p.1) p.2) e.base

def Env.eval (e : Env) : Operand → Value
  | .tmp t => e.get t
  | .const v => v
  | .global g => .pointer (some ⟨g, 0, none⟩)
  | .func f => .func (.func f) #[] #[]

def Env.listE (e : Env) : Nat → Nat → List Value
  | 0, _ => []
  | n + 1, i => e.get i :: e.listE n (i + 1)

/-- the frame, slot by slot -/
def Env.norm (e : Env) : Act := ⟨⟨e.listE e.base.tmps.size 0⟩, e.base.defers⟩

theorem put_size (a : Act) (d : Nat) (v : Value) : (a.put (some d) v).tmps.size = a.tmps.size := by simp [Act.put]

theorem Env.act_size (e : Env) : e.act.tmps.size = e.base.tmps.size := by
  obtain ⟨b, l⟩ := e
  induction l with
  | nil => rfl
  | cons p l ih => unfold Env.act at *; simp only [List.foldr_cons, put_size]; exact ih

theorem Env.act_defers (e : Env) : e.act.defers = e.base.defers := by
  obtain ⟨b, l⟩ := e
  induction l with
  | nil => rfl
  | cons p l ih => unfold Env.act at *; simp only [List.foldr_cons]; exact ih

theorem Env.get_eq (e : Env) (i : Nat) : e.act.tmps.getD i undef = e.get i := by
  obtain ⟨b, l⟩ := e
  induction l with
  | nil => rfl
  | cons p l ih =>
    obtain ⟨d, v⟩ := p
    have hsz := Env.act_size ⟨b, l⟩
    simp only at hsz
    have hact : (⟨b, (d, v) :: l⟩ : Env).act = (⟨b, l⟩ : Env).act.put (some d) v := rfl
    rw [hact]
    simp only [Env.get, lookE, Act.put]
    rw [Array.getD_eq_getD_getElem?, Array.getElem?_setIfInBounds]
    by_cases hdi : d = i
    · subst hdi
      simp only [show Nat.beq d d = true from Nat.beq_refl d, if_true]
      cases hb : Nat.blt d b.tmps.size with
      | true => simp [hsz, Nat.blt_eq ▸ hb]
      | false =>
        have hlt : ¬ d < b.tmps.size := fun h => by rw [← Nat.blt_eq, hb] at h; cases h
        simp [hsz, hlt]
    · have : Nat.beq d i = false := by
        cases h : Nat.beq d i with
        | true => exact absurd (Nat.eq_of_beq_eq_true h) hdi
        | false => rfl
      simp only [this, if_neg hdi]
      rw [← Array.getD_eq_getD_getElem?]
      exact ih

theorem Env.get?_eq (e : Env) (i : Nat) : e.act.tmps[i]? = if i < e.base.tmps.size then some (e.get i) else none := by
  rw [← Env.get_eq, ← Env.act_size]
  split
  · rename_i h; simp [h]
  · rename_i h; simp [Nat.le_of_not_lt h]

theorem Env.eval_eq (e : Env) : e.act.eval = e.eval := by
  funext x
  cases x <;> first | rfl | exact e.get_eq _

theorem Env.putE_eq (e : Env) (d : Option Tmp) (v : Value) : (e.putE d v).act = e.act.put d v := by cases d <;> rfl

theorem Env.listE_get (e : Env) : ∀ (n i k : Nat), (e.listE n i)[k]? = if k < n then some (e.get (i + k)) else none := by
  intro n
  induction n with
  | zero => intro i k; simp [Env.listE]
  | succ n ih =>
    intro i k
    cases k with
    | zero => simp [Env.listE]
    | succ k => simp only [Env.listE, List.getElem?_cons_succ, ih, Nat.add_lt_add_iff_right]; rw [show i + 1 + k = i + (k + 1) by omega]

theorem Env.norm_eq (e : Env) : e.norm = e.act := by
  have h1 : e.norm.tmps = e.act.tmps := by
    apply Array.ext_getElem?
    intro i
    rw [Env.get?_eq]
    show (⟨e.listE e.base.tmps.size 0⟩ : Array Value)[i]? = _
    rw [List.getElem?_toArray, Env.listE_get]
    simp
  have h2 : e.norm.defers = e.act.defers := by rw [Env.act_defers]; rfl
  cases h : e.norm; cases h' : e.act
  simp_all

/-! ### The condition -/

def guardE (ops : Array Oper) (o : Oper) (e : Env) (C : Bool → Env → Prop) : Prop :=
  match o.guard with
  | none => C true e
  | some (j, want) =>
    match (ops[j]?).bind (·.dst) with
    | some d =>
      match e.get d with
      | .bool b => CondQ b (C (true == want) (e.putE (some d) (.bool true))) (C (false == want) (e.putE (some d) (.bool false)))
      | _ => C false e
    | none => C false e

def opE (P : Program) (B : List FuncId) (o : Oper) (e : Env) (w : World) (C : Env → World → Prop) : Prop :=
  match clsOf P o.op with
  | .val => valQ P o e.eval fun v => C (e.putE o.dst v) w
  | .ld => ldQ P o e.eval fun F v => F w ∧ C (e.putE o.dst v) w
  | .eff => effQ P B o e.eval w fun v w1 => C (e.putE o.dst v) w1

def seqE (P : Program) (B : List FuncId) (ops : Array Oper) (Q : Exit → Env → World → Prop) : List Oper → Env → World → Prop
  | [], e, w => Q .normal e w
  | o :: rest, e, w => guardE ops o e fun wanted e =>
    match wanted with
    | true => opE P B o e w (seqE P B ops Q rest)
    | false => seqE P B ops Q rest (e.putE o.dst undef) w

def planE (P : Program) (B : List FuncId) (ops : Array Oper) (Q : Exit → Env → World → Prop) : Plan → Held → Env → World → Prop
  | .done, _, e, w => Q .normal e w
  | .val i p, hs, e, w =>
    match ops[i]? with
    | none => False
    | some o => guardE ops o e fun wanted e =>
      match wanted with
      | true => valQ P o e.eval fun v => planE P B ops Q p hs (e.putE o.dst v) w
      | false => planE P B ops Q p hs (e.putE o.dst undef) w
  | .ld i d p, hs, e, w =>
    match ops[i]? with
    | none => False
    | some o => guardE ops o e fun wanted e =>
      match wanted with
      | true => ldQ P o e.eval fun F v => F w ∧ planE P B ops Q p ((d.map (·.getLast?.getD 0), F) :: hs) (e.putE o.dst v) w
      | false => planE P B ops Q p hs (e.putE o.dst undef) w
  | .eff i p, hs, e, w =>
    match ops[i]? with
    | none => False
    | some o => guardE ops o e fun wanted e =>
      match wanted with
      | true => effQ P B o e.eval w fun v w1 => heldOk i w1 hs (planE P B ops Q p (heldRest i hs) (e.putE o.dst v) w1)
      | false => planE P B ops Q p hs (e.putE o.dst undef) w
  | .eff2 i p j q, hs, e, w =>
    (match ops[i]? with
    | none => False
    | some o => guardE ops o e fun wanted e =>
      match wanted with
      | true => effQ P B o e.eval w fun v w1 => heldOk i w1 hs (planE P B ops Q p (heldRest i hs) (e.putE o.dst v) w1)
      | false => planE P B ops Q p hs (e.putE o.dst undef) w) ∧
    (match ops[j]? with
    | none => False
    | some o => guardE ops o e fun wanted e =>
      match wanted with
      | true => effQ P B o e.eval w fun v w1 => heldOk j w1 hs (planE P B ops Q q (heldRest j hs) (e.putE o.dst v) w1)
      | false => planE P B ops Q q hs (e.putE o.dst undef) w)

def thenE (M : Env → World → Prop) (Q : Exit → Env → World → Prop) : Exit → Env → World → Prop
  | .normal => M
  | x => Q x

def inBlockE (id : Nat) (Q : Exit → Env → World → Prop) (x : Exit) (e : Env) (w : World) : Prop :=
  match x with
  | .exit i => match Nat.beq i id with | true => Q .normal e w | false => Q (.exit i) e w
  | x => Q x e w

def vcE (P : Program) (B : List FuncId) (pl : Plans) (K : Ann) : List Nat → Nat → Code → (Exit → Env → World → Prop) → Env → World → Prop
  | _, _, .skip, Q, e, w => Q .normal e w
  | _, _, .label _, Q, e, w => Q .normal e w
  | _, _, .region _ ops false, Q, e, w => seqE P B ops Q ops.toList e w
  | _, _, .region id ops true, Q, e, w => planE P B ops Q (pl id).1 [] e w.drew
  | g, b, .seq x y, Q, e, w =>
    match cutOf K x y with
    | some M => vcE P B pl K g b x (thenE (fun e w => M g e.norm w) Q) e w
    | none => vcE P B pl K g b x (thenE (vcE P B pl K g b y Q) Q) e w
  | g, b, .cond c x y, Q, e, w =>
    match e.eval c with
    | .bool t => CondQ t (vcE P B pl K g b x Q e w) (vcE P B pl K g b y Q e w)
    | _ => False
  | g, _, .block id c, Q, e, w => vcE P B pl K g id c (inBlockE id Q) e w
  | g, b, .loop _, _, e, w => K.inv g b e.norm w
  | _, _, .exit id, Q, e, w => Q (.exit id) e w
  | _, _, .ret, Q, e, w => Q .ret e w
  | _, _, _, _, _, _ => False

section
variable {P : Program} {B : List FuncId}

theorem guardE_eq {ops : Array Oper} {o : Oper} {e : Env} {C : Bool → Env → Prop} {C' : Bool → Act → Prop} (hC : ∀ u e, C u e = C' u e.act) : guardE ops o e C = guardQ ops o e.act C' := by
  unfold guardE guardQ
  cases o.guard with
  | none => exact hC _ _
  | some p =>
    obtain ⟨j, want⟩ := p
    simp only
    cases (ops[j]?).bind (·.dst) with
    | none => exact hC _ _
    | some d =>
      simp only
      rw [Env.get?_eq]
      by_cases hd : d < e.base.tmps.size
      · simp only [hd, if_true]
        cases hv : e.get d with
        | bool b => simp only [hC, Env.putE_eq]
        | _ => simp only [hC]
      · simp only [hd, if_false]
        have hu : e.get d = undef := by
          rw [← Env.get_eq, Array.getD_eq_getD_getElem?, Env.get?_eq, if_neg hd]; rfl
        rw [hu]
        exact hC _ _

theorem opE_eq {o : Oper} {e : Env} {w : World} {C : Env → World → Prop} {C' : Act → World → Prop} (hC : ∀ e w, C e w = C' e.act w) : opE P B o e w C = opQ P B o e.act w C' := by
  unfold opE opQ
  simp only [hC, Env.putE_eq, Env.eval_eq]
  cases clsOf P o.op <;> rfl

theorem seqE_eq {ops : Array Oper} {Q : Exit → Env → World → Prop} {Q' : Exit → Act → World → Prop} (hQ : ∀ x e w, Q x e w = Q' x e.act w) : ∀ (l : List Oper) (e : Env) (w : World), seqE P B ops Q l e w = seqQ P B ops Q' l e.act w := by
  intro l
  induction l with
  | nil => intro e w; exact hQ _ _ _
  | cons o l ih =>
    intro e w
    unfold seqE seqQ
    refine guardE_eq fun u e => ?_
    cases u
    · simp only [ih, Env.putE_eq]
    · exact opE_eq ih

theorem planE_eq {ops : Array Oper} {Q : Exit → Env → World → Prop} {Q' : Exit → Act → World → Prop} (hQ : ∀ x e w, Q x e w = Q' x e.act w) : ∀ (p : Plan) (hs : Held) (e : Env) (w : World), planE P B ops Q p hs e w = planQ P B ops Q' p hs e.act w := by
  intro p
  induction p with
  | done => intro hs e w; exact hQ _ _ _
  | val i p ih =>
    intro hs e w
    unfold planE planQ
    cases ops[i]? with
    | none => rfl
    | some o =>
      refine guardE_eq fun u e => ?_
      cases u <;> simp only [ih, Env.putE_eq, Env.eval_eq]
  | ld i d p ih =>
    intro hs e w
    unfold planE planQ
    cases ops[i]? with
    | none => rfl
    | some o =>
      refine guardE_eq fun u e => ?_
      cases u <;> simp only [ih, Env.putE_eq, Env.eval_eq]
  | eff i p ih =>
    intro hs e w
    unfold planE planQ
    cases ops[i]? with
    | none => rfl
    | some o =>
      refine guardE_eq fun u e => ?_
      cases u <;> simp only [ih, Env.putE_eq, Env.eval_eq]
  | eff2 i p j q ihp ihq =>
    intro hs e w
    unfold planE planQ
    congr 1
    · cases ops[i]? with
      | none => rfl
      | some o =>
        refine guardE_eq fun u e => ?_
        cases u <;> simp only [ihp, Env.putE_eq, Env.eval_eq]
    · cases ops[j]? with
      | none => rfl
      | some o =>
        refine guardE_eq fun u e => ?_
        cases u <;> simp only [ihq, Env.putE_eq, Env.eval_eq]

theorem thenE_eq {M : Env → World → Prop} {M' : Act → World → Prop} {Q : Exit → Env → World → Prop} {Q' : Exit → Act → World → Prop} (hM : ∀ e w, M e w = M' e.act w) (hQ : ∀ x e w, Q x e w = Q' x e.act w) :
    ∀ x e w, thenE M Q x e w = Exit.then M' Q' x e.act w := by
  intro x e w
  cases x <;> first | exact hM _ _ | exact hQ _ _ _

theorem inBlockE_eq {id : Nat} {Q : Exit → Env → World → Prop} {Q' : Exit → Act → World → Prop} (hQ : ∀ x e w, Q x e w = Q' x e.act w) :
    ∀ x e w, inBlockE id Q x e w = Exit.inBlock id Q' x e.act w := by
  intro x e w
  unfold inBlockE Exit.inBlock
  cases x with
  | exit i =>
    simp only
    by_cases h : i = id
    · subst h
      simp [hQ]
    · have : Nat.beq i id = false := by
        cases h' : Nat.beq i id with
        | true => exact absurd (Nat.eq_of_beq_eq_true h') h
        | false => rfl
      simp [this, h, hQ]
  | _ => exact hQ _ _ _

theorem vcE_eq {pl : Plans} {K : Ann} : ∀ (c : Code) (g : List Nat) (b : Nat) {Q : Exit → Env → World → Prop} {Q' : Exit → Act → World → Prop} (_ : ∀ x e w, Q x e w = Q' x e.act w) (e : Env) (w : World),
    vcE P B pl K g b c Q e w = vc P B pl K g b c Q' e.act w := by
  intro c
  induction c with
  | skip => intro g b Q Q' hQ e w; exact hQ _ _ _
  | label l => intro g b Q Q' hQ e w; exact hQ _ _ _
  | region id ops draw =>
    intro g b Q Q' hQ e w
    cases draw
    · exact seqE_eq hQ _ _ _
    · exact planE_eq hQ _ _ _ _
  | seq x y ihx ihy =>
    intro g b Q Q' hQ e w
    unfold vcE vc
    cases cutOf K x y with
    | some M => exact ihx _ _ (thenE_eq (fun e w => by rw [Env.norm_eq]) hQ) _ _
    | none => exact ihx _ _ (thenE_eq (fun e w => ihy _ _ hQ _ _) hQ) _ _
  | cond c x y ihx ihy =>
    intro g b Q Q' hQ e w
    unfold vcE vc
    rw [Env.eval_eq]
    cases e.eval c <;> first | rfl | (simp only; rw [ihx _ _ hQ, ihy _ _ hQ])
  | block id c ih =>
    intro g b Q Q' hQ e w
    unfold vcE vc
    exact ih _ _ (inBlockE_eq hQ) _ _
  | loop c ih =>
    intro g b Q Q' hQ e w
    unfold vcE vc
    rw [Env.norm_eq]
  | exit id => intro g b Q Q' hQ e w; exact hQ _ _ _
  | ret => intro g b Q Q' hQ e w; exact hQ _ _ _
  | _ => intro g b Q Q' hQ e w; rfl
end

theorem cast_of {p q : Prop} (h : p = q) (x : p) : q := h ▸ x

/-- the exits of a round -/
def outE (K : Ann) (Re : Env → World → Prop) (g : List Nat) (b : Nat) (x : Exit) (e : Env) (w : World) : Prop :=
  match x with
  | .ret => Re e w
  | x => K.out g b x e.norm w

/-- what is owed at the cuts -/
def owedE (P : Program) (B : List FuncId) (pl : Plans) (K : Ann) (Re : Env → World → Prop) : List Nat → Nat → Code → (Exit → Env → World → Prop) → Prop
  | g, b, .seq x y, Q =>
    match cutOf K x y with
    | some M => (∀ a w, M g a w → vcE P B pl K g b y Q ⟨a, []⟩ w) ∧ (match hasCut K x with | true => owedE P B pl K Re g b x (thenE (fun e w => M g e.norm w) Q) | false => True) ∧ (match hasCut K y with | true => owedE P B pl K Re g b y Q | false => True)
    | none => (match hasCut K x with | true => owedE P B pl K Re g b x (thenE (vcE P B pl K g b y Q) Q) | false => True) ∧ (match hasCut K y with | true => owedE P B pl K Re g b y Q | false => True)
  | g, b, .cond _ x y, Q => (match hasCut K x with | true => owedE P B pl K Re g b x Q | false => True) ∧ (match hasCut K y with | true => owedE P B pl K Re g b y Q | false => True)
  | g, _, .block id c, Q => (match hasCut K c with | true => owedE P B pl K Re g id c (inBlockE id Q) | false => True)
  | g, b, .loop c, Q =>
    (∀ x a w, x ≠ .ret → K.out g b x a w → Q x ⟨a, []⟩ w) ∧ (∀ e w, Re e w → Q .ret e w) ∧ (∀ ch a w, ¬ K.out g b (.panic ch) a w) ∧
    (∀ m a w, K.inv g b a w → K.var g b a w = m → vcE P B pl K (m :: g) b c (thenE (fun e w => K.inv g b e.norm w ∧ K.var g b e.norm w < m) (outE K Re g b)) ⟨a, []⟩ w) ∧
    (match hasCut K c with | true => ∀ m, owedE P B pl K Re (m :: g) b c (thenE (fun e w => K.inv g b e.norm w ∧ K.var g b e.norm w < m) (outE K Re g b)) | false => True)
  | _, _, _, _ => True

theorem match_imp {b : Bool} {p q : Prop} (h : p → q) : (match b with | true => p | false => True) → (match b with | true => q | false => True) := by
  cases b
  · exact id
  · exact h

theorem owedE_out {P : Program} {B : List FuncId} {pl : Plans} {K : Ann} {Re : Env → World → Prop} (hR : ∀ g b e w, Re e w = K.out g b .ret e.act w) : ∀ (c : Code) (g : List Nat) (b : Nat) {Q : Exit → Env → World → Prop} {Q' : Exit → Act → World → Prop} (_ : ∀ x e w, Q x e w = Q' x e.act w),
    owedE P B pl K Re g b c Q → owed P B pl K g b c Q' := by
  intro c
  induction c with
  | seq x y ihx ihy =>
    intro g b Q Q' hQ h
    unfold owedE at h
    unfold owed
    cases hc : cutOf K x y with
    | some M =>
      rw [hc] at h
      exact ⟨fun a w hM => (vcE_eq y g b hQ ⟨a, []⟩ w) ▸ h.1 a w hM, match_imp (ihx g b (thenE_eq (fun e w => by rw [Env.norm_eq]) hQ)) h.2.1, match_imp (ihy g b hQ) h.2.2⟩
    | none =>
      rw [hc] at h
      exact ⟨match_imp (ihx g b (thenE_eq (fun e w => vcE_eq y g b hQ e w) hQ)) h.1, match_imp (ihy g b hQ) h.2⟩
  | cond c x y ihx ihy =>
    intro g b Q Q' hQ h
    unfold owedE at h
    unfold owed
    exact ⟨match_imp (ihx g b hQ) h.1, match_imp (ihy g b hQ) h.2⟩
  | block id c ih =>
    intro g b Q Q' hQ h
    unfold owedE at h
    unfold owed
    exact match_imp (ih g id (inBlockE_eq hQ)) h
  | loop c ih =>
    intro g b Q Q' hQ h
    unfold owedE at h
    unfold owed
    obtain ⟨h1, hret, h2, h3, h4⟩ := h
    have hq : ∀ m x e w, thenE (fun e w => K.inv g b e.norm w ∧ K.var g b e.norm w < m) (outE K Re g b) x e w = Exit.then (fun a' w' => K.inv g b a' w' ∧ K.var g b a' w' < m) (K.out g b) x e.act w := fun m =>
      thenE_eq (fun e w => by rw [Env.norm_eq]) (fun x e w => by unfold outE; cases x <;> first | exact hR g b e w | (simp only; rw [Env.norm_eq]))
    refine ⟨fun x a w ho => ?_, h2, fun m a w hi hv => (vcE_eq c (m :: g) b (hq m) ⟨a, []⟩ w) ▸ h3 m a w hi hv, ?_⟩
    · by_cases hx : x = .ret
      · subst hx
        exact (hQ .ret ⟨a, []⟩ w) ▸ hret ⟨a, []⟩ w (cast_of (hR g b ⟨a, []⟩ w).symm ho)
      · exact (hQ x ⟨a, []⟩ w) ▸ h1 x a w hx ho
    ·     exact match_imp (fun h m => ih (m :: g) b (hq m) (h m)) h4
  | _ => intro g b Q Q' hQ h; trivial

/-! ### The function -/

def resE (P : Program) : List ResultVar → Env → World → (List Value → Prop) → Prop
  | [], _, _, C => C []
  | .tmp t :: rs, e, w, C => resE P rs e w fun vs => C (e.get t :: vs)
  | .cell t ty :: rs, e, w, C =>
    ldQ P { dst := none, op := .load ty (.tmp t), type := ty, pos := "", after := #[], guard := none } e.eval fun F v => F w ∧ resE P rs e w fun vs => C (v :: vs)

def RetE (P : Program) (fn : Func) (R : Ending → World → Prop) : Exit → Env → World → Prop
  | .normal, e, w | .ret, e, w =>
    match e.base.defers with
    | [] => resE P fn.results.toList e w fun vs => R (.returned (oneOf vs)) w
    | _ => False
  | _, _, _ => False

theorem resE_eq {P : Program} {e : Env} {w : World} : ∀ {rs : List ResultVar} {C : List Value → Prop}, resE P rs e w C = resQ P rs e.act w C := by
  intro rs
  induction rs with
  | nil => intro C; rfl
  | cons r rs ih =>
    intro C
    cases r with
    | tmp t => simp only [resE, resQ, Env.get_eq, ih]
    | cell t ty => simp only [resE, resQ, Env.eval_eq, ih]

theorem RetE_eq {P : Program} {fn : Func} {R : Ending → World → Prop} : ∀ x e w, RetE P fn R x e w = RetQ P fn R x e.act w := by
  intro x e w
  unfold RetE RetQ
  cases x <;> simp only [Env.act_defers, resE_eq] <;> cases e.base.defers <;> rfl

def owedC (P : Program) (B : List FuncId) (pl : Plans) (K : Ann) (Re : Env → World → Prop) (g : List Nat) (b : Nat) (c : Code) (Q : Exit → Env → World → Prop) : Prop :=
  match hasCut K c with
  | true => owedE P B pl K Re g b c Q
  | false => True

theorem owedE_of {P : Program} {B : List FuncId} {pl : Plans} {K : Ann} {Re : Env → World → Prop} {g : List Nat} {b : Nat} {c : Code} {Q : Exit → Env → World → Prop}
    (h : owedC P B pl K Re g b c Q) (hc : hasCut K c = true) : owedE P B pl K Re g b c Q := by
  unfold owedC at h; rw [hc] at h; exact h

/-- the first part of a code, and the second -/
def pa : Code → Code
  | .seq x _ | .cond _ x _ | .block _ x | .loop x => x
  | c => c
def pb : Code → Code
  | .seq _ y | .cond _ _ y => y
  | c => c

section
variable {P : Program} {B : List FuncId} {pl : Plans} {K : Ann} {Re : Env → World → Prop} {g : List Nat} {b : Nat} {c : Code} {Q : Exit → Env → World → Prop}

theorem owedC.none (h : hasCut K c = false) : owedC P B pl K Re g b c Q := by unfold owedC; rw [h]; trivial

theorem owedC.of (h : owedE P B pl K Re g b c Q) : owedC P B pl K Re g b c Q := by
  unfold owedC
  split
  · exact h
  · trivial

theorem owedC.seq (h : c = .seq (pa c) (pb c)) (hc : cutOf K (pa c) (pb c) = Option.none) (hx : owedC P B pl K Re g b (pa c) (thenE (vcE P B pl K g b (pb c) Q) Q)) (hy : owedC P B pl K Re g b (pb c) Q) : owedC P B pl K Re g b c Q := by
  generalize pa c = x at *
  generalize pb c = y at *
  subst h
  refine .of ?_
  unfold owedE
  rw [hc]
  exact ⟨hx, hy⟩

theorem owedC.cut (M : List Nat → Act → World → Prop) (h : c = .seq (pa c) (pb c)) (hc : cutOf K (pa c) (pb c) = some M) (hM : ∀ a w, M g a w → vcE P B pl K g b (pb c) Q ⟨a, []⟩ w) (hx : owedC P B pl K Re g b (pa c) (thenE (fun e w => M g e.norm w) Q)) (hy : owedC P B pl K Re g b (pb c) Q) : owedC P B pl K Re g b c Q := by
  generalize pa c = x at *
  generalize pb c = y at *
  subst h
  refine .of ?_
  unfold owedE
  rw [hc]
  exact ⟨hM, hx, hy⟩

theorem owedC.cond (t : Operand) (h : c = .cond t (pa c) (pb c)) (hx : owedC P B pl K Re g b (pa c) Q) (hy : owedC P B pl K Re g b (pb c) Q) : owedC P B pl K Re g b c Q := by
  generalize pa c = x at *
  generalize pb c = y at *
  subst h
  refine .of ?_
  unfold owedE
  exact ⟨hx, hy⟩

theorem owedC.block (id : Nat) (h : c = .block id (pa c)) (hx : owedC P B pl K Re g id (pa c) (inBlockE id Q)) : owedC P B pl K Re g b c Q := by
  generalize pa c = x at *
  subst h
  refine .of ?_
  unfold owedE
  exact hx

theorem owedC.loop (h : c = .loop (pa c)) (h1 : ∀ x a w, x ≠ .ret → K.out g b x a w → Q x ⟨a, []⟩ w) (hret : ∀ e w, Re e w → Q .ret e w) (h2 : ∀ ch a w, ¬ K.out g b (.panic ch) a w)
    (h3 : ∀ m a w, K.inv g b a w → K.var g b a w = m → vcE P B pl K (m :: g) b (pa c) (thenE (fun e w => K.inv g b e.norm w ∧ K.var g b e.norm w < m) (outE K Re g b)) ⟨a, []⟩ w)
    (h4 : ∀ m, owedC P B pl K Re (m :: g) b (pa c) (thenE (fun e w => K.inv g b e.norm w ∧ K.var g b e.norm w < m) (outE K Re g b))) : owedC P B pl K Re g b c Q := by
  generalize pa c = x at *
  subst h
  refine .of ?_
  unfold owedE
  refine ⟨h1, hret, h2, h3, ?_⟩
  cases hcc : hasCut K x with
  | false => trivial
  | true => exact fun m => owedE_of (h4 m) hcc
end


def codeOf (f : Func) : Code := match f.body with | some c => c | none => .skip

theorem calls_of_vc {P : Program} {B : List FuncId} {pl : Plans} {K : Ann} {f : FuncId} {fn : Func} {c : Code} {args : Array Value} {w : World} {R : Ending → World → Prop}
    (hm : P.follows .mixedOrders = true) (hB : ∀ f, B.contains f = true → okF P f = true) (hf : P.funcs[f]? = some fn) (hb : fn.body = some c) (hok : plansOk pl c = true)
    (hR : ∀ g b a w, K.out g b .ret a w = RetQ P fn R .ret a w) (ho : owedC P B pl K (RetE P fn R .ret) [] 0 c (RetE P fn R))
    (h : vcE P B pl K [] 0 c (RetE P fn R) ⟨{ tmps := args ++ Array.replicate (fn.ntmps - args.size) undef, defers := [] }, []⟩ w) : Calls P f args w R := by
  refine calls_of_wp hf hb (wp_mono (vc_sound hm hB c [] 0 (RetQ P fn R) _ w hok (fun _ _ _ h => h) (match_imp (owedE_out (fun g b e w => (RetE_eq .ret e w).trans (hR g b e.act w).symm) c [] 0 RetE_eq) ho) (cast_of (vcE_eq (Q' := RetQ P fn R) c [] 0 RetE_eq ⟨_, []⟩ w) h)) fun e a w q => ?_)
  have key : (match a.defers with
      | [] => resQ P fn.results.toList a w fun vs => R (.returned (oneOf vs)) w
      | _ => False) → a.defers = [] ∧ ∃ v, (results fn a.tmps).run P w = .ok v w ∧ R (.returned v) w := by
    intro h
    split at h
    · rename_i hd
      obtain ⟨vs, h1, h2⟩ := resQ_out h
      refine ⟨hd, _, ?_, h2⟩
      rw [results_eq, Array.mapM_eq_mapM_toList]
      simp only [Sem.run_bind, Sem.run_map, h1, Result.andThen_ok, Sem.run_pure]
      congr 1
      match vs with
      | [] => rfl
      | [v] => rfl
      | v :: u :: vs => simp [oneOf]
    · exact h.elim
  cases e with
  | normal => exact key q
  | ret => exact key q
  | _ => exact q.elim

/-! ### What is known of a frame at a cut -/

def listD (f : Nat → Value) : Nat → Nat → List Value
  | 0, _ => []
  | n + 1, i => f i :: listD f n (i + 1)

def upd (f : Nat → Value) (l : List (Nat × Value)) (i : Nat) : Value :=
  match lookE l i with
  | some v => v
  | none => f i

/-- a frame: these slots are known -/
def frameD (f : Nat → Value) (n : Nat) (l : List (Nat × Value)) : Act := ⟨⟨listD (upd f l) n 0⟩, []⟩

def sizeS (n : Nat) (a : Act) (C : Prop) : Prop :=
  match Nat.beq a.tmps.size n, a.defers with
  | true, [] => C
  | _, _ => False
def intS (k : IntKind) (v : Value) (C : Int → Prop) : Prop :=
  match v with
  | .int k' n => match decide (k' = k) with
    | true => C n
    | false => False
  | _ => False
def boolS (v : Value) (C : Bool → Prop) : Prop := match v with | .bool b => C b | _ => False
def strS (v : Value) (C : ByteArray → Prop) : Prop := match v with | .string s => C s | _ => False
def ptrS (v : Value) (C : Option Addr → Prop) : Prop := match v with | .pointer p => C p | _ => False
def blkS (v : Value) (C : Nat → Prop) : Prop := match v with | .pointer (some ⟨b, 0, none⟩) => C b | _ => False
def sliceS (v : Value) (C : Option Addr → Nat → Nat → Prop) : Prop := match v with | .slice A n c => C A n c | _ => False
def mapS (v : Value) (C : Option Nat → Prop) : Prop := match v with | .map r => C r | _ => False
def aggS (v : Value) (C : Array Value → Prop) : Prop := match v with | .agg cs => C cs | _ => False

theorem sizeS.out {n : Nat} {a : Act} {C : Prop} (h : sizeS n a C) : (a.tmps.size = n ∧ a.defers = []) ∧ C := by
  unfold sizeS at h
  split at h
  · rename_i h1 h2; exact ⟨⟨Nat.eq_of_beq_eq_true h1, h2⟩, h⟩
  · exact h.elim
theorem intS.out {k : IntKind} {v : Value} {C : Int → Prop} (h : intS k v C) : ∃ n, v = .int k n ∧ C n := by
  unfold intS at h
  split at h
  · split at h
    · rename_i hk; obtain rfl := of_decide_eq_true hk; exact ⟨_, rfl, h⟩
    · exact h.elim
  · exact h.elim
theorem boolS.out {v : Value} {C : Bool → Prop} (h : boolS v C) : ∃ b, v = .bool b ∧ C b := by
  unfold boolS at h; split at h
  · exact ⟨_, rfl, h⟩
  · exact h.elim
theorem strS.out {v : Value} {C : ByteArray → Prop} (h : strS v C) : ∃ b, v = .string b ∧ C b := by
  unfold strS at h; split at h
  · exact ⟨_, rfl, h⟩
  · exact h.elim
theorem ptrS.out {v : Value} {C : Option Addr → Prop} (h : ptrS v C) : ∃ b, v = .pointer b ∧ C b := by
  unfold ptrS at h; split at h
  · exact ⟨_, rfl, h⟩
  · exact h.elim
theorem blkS.out {v : Value} {C : Nat → Prop} (h : blkS v C) : ∃ b, v = .pointer (some ⟨b, 0, none⟩) ∧ C b := by
  unfold blkS at h; split at h
  · exact ⟨_, rfl, h⟩
  · exact h.elim
theorem sliceS.out {v : Value} {C : Option Addr → Nat → Nat → Prop} (h : sliceS v C) : ∃ A n c, v = .slice A n c ∧ C A n c := by
  unfold sliceS at h; split at h
  · exact ⟨_, _, _, rfl, h⟩
  · exact h.elim
theorem mapS.out {v : Value} {C : Option Nat → Prop} (h : mapS v C) : ∃ b, v = .map b ∧ C b := by
  unfold mapS at h; split at h
  · exact ⟨_, rfl, h⟩
  · exact h.elim
theorem aggS.out {v : Value} {C : Array Value → Prop} (h : aggS v C) : ∃ b, v = .agg b ∧ C b := by
  unfold aggS at h; split at h
  · exact ⟨_, rfl, h⟩
  · exact h.elim

def AllEq (f : Nat → Value) : List (Nat × Value) → Prop
  | [] => True
  | (i, v) :: l => f i = v ∧ AllEq f l

theorem AllEq.upd {f : Nat → Value} {l : List (Nat × Value)} (h : AllEq f l) : upd f l = f := by
  funext i
  unfold Proofs.YtdaookipaknoeaaGreat.upd
  split
  · rename_i v hv
    induction l with
    | nil => cases hv
    | cons p l ih =>
      obtain ⟨d, u⟩ := p
      unfold lookE at hv
      split at hv
      · rename_i hb
        obtain rfl := Nat.eq_of_beq_eq_true hb
        obtain rfl := Option.some.inj hv
        exact h.1.symm
      · exact ih h.2 hv
  · rfl

theorem listD_get (f : Nat → Value) : ∀ (n i k : Nat), (listD f n i)[k]? = if k < n then some (f (i + k)) else none := by
  intro n
  induction n with
  | zero => intro i k; simp [listD]
  | succ n ih =>
    intro i k
    cases k with
    | zero => simp [listD]
    | succ k => simp only [listD, List.getElem?_cons_succ, ih, Nat.add_lt_add_iff_right]; rw [show i + 1 + k = i + (k + 1) by omega]

theorem frameD_eq {n : Nat} {a : Act} {l : List (Nat × Value)} (h : a.tmps.size = n ∧ a.defers = []) (hl : AllEq (fun i => a.tmps.getD i undef) l) : frameD (fun i => a.tmps.getD i undef) n l = a := by
  obtain ⟨t, d⟩ := a
  obtain ⟨h1, h2⟩ := h
  unfold frameD
  rw [hl.upd]
  simp only at h1 h2 ⊢
  rw [h2]
  congr 1
  apply Array.ext_getElem?
  intro i
  rw [List.getElem?_toArray, listD_get]
  simp only [Nat.zero_add]
  split
  · rename_i hi; rw [← h1] at hi; simp [hi]
  · rename_i hi; rw [← h1] at hi; simp [Nat.le_of_not_lt hi]

/-- into a cut -/
theorem el_of {n : Nat} {a : Act} {w : World} {l : List (Nat × Value)} {C : Act → World → Prop} (h : a.tmps.size = n ∧ a.defers = []) (hl : AllEq (fun i => a.tmps.getD i undef) l) (H : C (frameD (fun i => a.tmps.getD i undef) n l) w) : C a w :=
  frameD_eq h hl ▸ H

attribute [irreducible] vcE owedE seqE planE opE codeOf RetE guardE

end Go.Proofs.YtdaookipaknoeaaGreat
