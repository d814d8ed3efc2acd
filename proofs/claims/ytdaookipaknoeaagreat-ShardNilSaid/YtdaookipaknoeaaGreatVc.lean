/-
  A verification condition for the model's code: `vc` is a Prop by recursion on the code, and `vc_sound` says that it suffices for the kit's `Code.wp`.
  Regions that draw their order are taken along a plan (quiet operations first), see `planQ`.
-/
import Derived.Calls
import Derived.Laws.StructEq
import Derived.OrdersHeld
import Derived.Tactics
import Derived.KernelRfl
namespace Go.Proofs.YtdaookipaknoeaaGreat
open Go

/-! ### Typed values -/

inductive Sh where
  | int (k : IntKind) | bool | str | ptr | slice | map | agg | raw

def Sh.of : Option TypeDesc → Sh
  | some (.int k) => .int k
  | some .bool => .bool
  | some .string => .str
  | some (.pointer _) => .ptr
  | some (.slice _) => .slice
  | some (.map _ _) => .map
  | some (.struct _) => .agg
  | some (.array _ _) => .agg
  | _ => .raw

/-- there is a value of this shape with C -/
def Sh.ex : Sh → (Value → Prop) → Prop
  | .int k, C => ∃ n : Int, C (.int k n)
  | .bool, C => ∃ b : Bool, C (.bool b)
  | .str, C => ∃ s : ByteArray, C (.string s)
  | .ptr, C => ∃ p : Option Addr, C (.pointer p)
  | .slice, C => ∃ (A : Option Addr) (n c : Nat), C (.slice A n c)
  | .map, C => ∃ r : Option Nat, C (.map r)
  | .agg, C => ∃ cs : Array Value, C (.agg cs)
  | .raw, C => ∃ v : Value, C v

theorem Sh.ex_out {s : Sh} {C : Value → Prop} (h : s.ex C) : ∃ v, C v := by
  cases s <;> simp only [Sh.ex] at h
  case slice => obtain ⟨A, n, c, h⟩ := h; exact ⟨_, h⟩
  all_goals (obtain ⟨x, h⟩ := h; exact ⟨_, h⟩)

def exL (P : Program) : List TypeId → (List Value → Prop) → Prop
  | [], C => C []
  | t :: ts, C => (Sh.of (P.underlying t)).ex fun v => exL P ts fun vs => C (v :: vs)

theorem exL_out {P : Program} {ts : List TypeId} {C : List Value → Prop} (h : exL P ts C) : ∃ vs, C vs := by
  induction ts generalizing C with
  | nil => exact ⟨_, h⟩
  | cons t ts ih =>
    obtain ⟨v, h⟩ := Sh.ex_out h
    obtain ⟨vs, h⟩ := ih h
    exact ⟨_, h⟩

/-- there is a value of this type (a tuple: value by value) with C -/
def tyQ (P : Program) (t : TypeId) (C : Value → Prop) : Prop :=
  match P.underlying t with
  | some (.tuple ts) => exL P ts.toList fun vs => C (.tuple vs.toArray)
  | d => (Sh.of d).ex C

theorem tyQ_out {P : Program} {t : TypeId} {C : Value → Prop} (h : tyQ P t C) : ∃ v, C v := by
  unfold tyQ at h
  split at h
  · obtain ⟨vs, h⟩ := exL_out h; exact ⟨_, h⟩
  · exact Sh.ex_out h

def optQ (p : Option Addr) (C : Addr → Prop) : Prop :=
  match p with
  | some a => C a
  | none => False

/-- a branch on b -/
def CondQ (b : Bool) (A B : Prop) : Prop :=
  match b with
  | true => A
  | false => B

theorem CondQ.mk {b : Bool} {A B : Prop} (ht : b = true → A) (hf : b = false → B) : CondQ b A B := by
  cases b
  · exact hf rfl
  · exact ht rfl
theorem CondQ.yes {b : Bool} {A B : Prop} (hb : b = true) (h : A) : CondQ b A B := by subst hb; exact h
theorem CondQ.no {b : Bool} {A B : Prop} (hb : b = false) (h : B) : CondQ b A B := by subst hb; exact h
/-- a branch on a decided proposition -/
theorem CondQ.dec {p : Prop} [Decidable p] {A B : Prop} (ht : p → A) (hf : ¬ p → B) : CondQ (decide p) A B :=
  .mk (fun h => ht (of_decide_eq_true h)) (fun h => hf (of_decide_eq_false h))
theorem CondQ.decT {p : Prop} [Decidable p] {A B : Prop} (hp : p) (h : A) : CondQ (decide p) A B := .yes (decide_eq_true hp) h
theorem CondQ.decF {p : Prop} [Decidable p] {A B : Prop} (hp : ¬ p) (h : B) : CondQ (decide p) A B := .no (decide_eq_false hp) h
theorem CondQ.beq {x y : Int} {A B : Prop} (ht : x = y → A) (hf : x ≠ y → B) : CondQ (x == y) A B :=
  .mk (fun h => ht (by simpa using h)) (fun h => hf (by simpa using h))
theorem CondQ.bne {x y : Int} {A B : Prop} (ht : x ≠ y → A) (hf : x = y → B) : CondQ (x != y) A B :=
  .mk (fun h => ht (by simpa using h)) (fun h => hf (by simpa using h))
/-- two branches that come to one thing -/
theorem CondQ.or {b c : Bool} {A B : Prop} (h : CondQ (b || c) A B) : CondQ b A (CondQ c A B) := by cases b <;> exact h
theorem CondQ.and {b c : Bool} {A B : Prop} (h : CondQ (b && c) A B) : CondQ b (CondQ c A B) B := by cases b <;> exact h

/-! ### Operations -/

/-- the n cells from a on are cs -/
def LoadsA (w : World) (a : Addr) (n : Nat) (cs : Array Value) : Prop :=
  cs.size = n ∧ ∀ j, j < n → w.cell? (a.add j) = cs[j]?


/-- what is asked of a binary operation, and what it gives; D: what else serves -/
def binQ (op : BinOp) (C : Value → Prop) (D : Prop) : Value → Value → Prop
  | .int k x, .int k' y =>
    if k = k' then
      match op with
      | .add => C (.int k (k.wrap (x + y)))
      | .sub => C (.int k (k.wrap (x - y)))
      | .mul => C (.int k (k.wrap (x * y)))
      | .quo => y ≠ 0 ∧ C (.int k (k.wrap (x.tdiv y)))
      | .rem => y ≠ 0 ∧ C (.int k (x.tmod y))
      | .eql => C (.bool (x == y))
      | .neq => C (.bool (x != y))
      | .lss => C (.bool (decide (x < y)))
      | .leq => C (.bool (decide (x ≤ y)))
      | .gtr => C (.bool (decide (x > y)))
      | .geq => C (.bool (decide (x ≥ y)))
      | .and => C (.int k (k.wrap (BitVec.ofInt k.bits x &&& BitVec.ofInt k.bits y).toNat))
      | .or => C (.int k (k.wrap (BitVec.ofInt k.bits x ||| BitVec.ofInt k.bits y).toNat))
      | .xor => C (.int k (k.wrap (BitVec.ofInt k.bits x ^^^ BitVec.ofInt k.bits y).toNat))
      | .andNot => C (.int k (k.wrap (BitVec.ofInt k.bits x &&& ~~~ BitVec.ofInt k.bits y).toNat))
      | _ => D
    else D
  | .string x, .string y =>
    match op with
    | .eql => C (.bool (x.toList == y.toList))
    | .neq => C (.bool !(x.toList == y.toList))
    | .lss => C (.bool (Op.bytesLess x.toList y.toList))
    | .leq => C (.bool (Op.bytesLess x.toList y.toList || x.toList == y.toList))
    | .add => ¬ ((x.size + y.size : Nat) : Int) > IntKind.i64.max ∧ C (.string (x ++ y))
    | _ => D
  | _, _ => D

/-- shifts: the counts may be of another kind -/
def shQ (op : BinOp) (C : Value → Prop) (D : Prop) : Value → Value → Prop
  | .int k x, .int _ y =>
    match op with
    | .shl => ¬ y < 0 ∧ C (.int k (k.wrap (x * 2 ^ min y.toNat k.bits)))
    | .shr => ¬ y < 0 ∧ C (.int k (x.fdiv (2 ^ min y.toNat k.bits)))
    | _ => D
  | _, _ => D

/-- == and != of bools, and of pointers, slices and maps against nil -/
def eqQ (d : Option TypeDesc) (C : Bool → Prop) (D : Prop) : Value → Value → Prop
  | .bool a, .bool b => match d with | some .bool => C (a == b) | _ => D
  | .pointer p, .pointer none => match d with | some (.pointer _) => C p.isNone | _ => D
  | .slice A _ _, .slice none _ _ => match d with | some (.slice _) => C A.isNone | _ => D
  | .map r, .map none => match d with | some (.map _ _) => C r.isNone | _ => D
  | _, _ => D

/-- == of two structs comes to b -/
def EqQ (P : Program) (t : TypeId) (xs ys : Array Value) (b : Bool) : Prop :=
  ∀ w, (Op.equalIn 10000 t (.agg xs) (.agg ys)).run P w = .ok b w

/-- == and != of structs -/
def aggQ (P : Program) (t : TypeId) (x y : Value) (C : Bool → Prop) (E : Prop) : Prop :=
  match x, y with
  | .agg xs, .agg ys => match P.eqGuardType P.depth t with | false => ∃ b, EqQ P t xs ys b ∧ C b | true => E
  | _, _ => E

def binOpQ (P : Program) (op : BinOp) (t : TypeId) (x y : Value) (C : Value → Prop) (D : Prop) : Prop :=
  match op with
  | .shl | .shr => shQ op C D x y
  | .eql => aggQ P t x y (fun b => C (.bool b)) (binQ op C (eqQ (P.underlying t) (fun b => C (.bool b)) D x y) x y)
  | .neq => aggQ P t x y (fun b => C (.bool !b)) (binQ op C (eqQ (P.underlying t) (fun b => C (.bool !b)) D x y) x y)
  | _ => binQ op C D x y

def byteAt (s : ByteArray) (i : Int) : Int := ((s.data.toList.getD i.toNat 0).toNat : Int)

/-- an operation that gives v in every world -/
def Gives (P : Program) (o : Oper) (ρ : Operand → Value) (v : Value) : Prop :=
  ∀ w, (execOp ρ o).run P w = .ok (.value v) w

def sliceAddr (A : Option Addr) (l m size : Nat) : Option Addr :=
  match l with
  | 0 => A
  | l + 1 => if m = l + 1 then A else A.map (·.add ((l + 1) * size))

theorem sliceAddr_eq (A : Option Addr) (l m size : Nat) : sliceAddr A l m size = if m = l then A else A.map (·.add (l * size)) := by
  unfold sliceAddr
  split
  · split
    · rfl
    · cases A <;> simp [Addr.add]
  · rfl

/-- the bounds of a slice expression, where given -/
def hiQ (y : Option Value) (cap dflt : Nat) (C : Nat → Prop) (D : Prop) : Prop :=
  match y with
  | none => C dflt
  | some (.int _ i) => (0 ≤ i ∧ i ≤ (cap : Int)) ∧ C i.toNat
  | _ => D

def sizeQ (P : Program) (t : TypeId) (C : Nat → Prop) : Prop :=
  match P.info? t with
  | some i => C i.size
  | none => False

def setL (cs : Array Value) (off : Nat) : List Value → Array Value
  | [] => cs
  | v :: vs => setL (cs.setIfInBounds off v) (off + 1) vs

/-- the cells of a value that is to fill n cells -/
def cellsQ (v : Value) (n : Nat) (C : Array Value → Prop) : Prop :=
  match v with
  | .agg cs => cs.size = n ∧ C cs
  | .tuple _ => False
  | v => match n with
    | 1 => C #[v]
    | _ => False

theorem cellsQ_one {v : Value} {n : Nat} {C : Array Value → Prop} (hv : v.cells = #[v]) (h : match n with | 1 => C #[v] | _ => False) : v.cells.size = n ∧ C v.cells := by
  rw [hv]
  match n, h with
  | 1, h => exact ⟨rfl, h⟩
  | 0, h => exact h.elim
  | n + 2, h => exact h.elim

theorem cellsQ_out {v : Value} {n : Nat} {C : Array Value → Prop} (h : cellsQ v n C) : v.cells.size = n ∧ C v.cells := by
  cases v with
  | agg cs => exact h
  | tuple _ => exact h.elim
  | _ => exact cellsQ_one rfl h

/-- where the fields of a struct lie, and how many cells they have -/
def placesOf (P : Program) : List Field → Option (List (Nat × Nat))
  | [] => some []
  | f :: fs =>
    match P.info? f.type, placesOf P fs with
    | some i, some l => some ((f.offset, i.size) :: l)
    | _, _ => none

/-- the parts of a literal are laid over the cells -/
def fillQ (pl : List (Nat × Nat)) (z : Nat) : List (Nat × Value) → Array Value → (Array Value → Prop) → Prop
  | [], acc, C => C acc
  | (i, v) :: ps, acc, C =>
    match pl[i]? with
    | some (off, n) => match Nat.ble (off + n) z with
      | true => cellsQ v n fun cs => fillQ pl z ps (setL acc off cs.toList) C
      | false => False
    | none => False

def buildQ (P : Program) (t : TypeId) (ps : List (Nat × Value)) (C : Value → Prop) (D : Prop) : Prop :=
  match P.info? t, P.underlying t with
  | some i, some (.struct fs) =>
    match i.zero, placesOf P fs.toList with
    | some z, some pl => fillQ pl z.cells.size ps z.cells fun cs => C (.agg cs)
    | _, _ => D
  | _, _ => D

/-- the least, or the greatest, of integers -/
def mostQ (op : Int → Int → Int) (k : IntKind) (C : Value → Prop) (D : Prop) : Int → List Value → Prop
  | x, [] => C (.int k x)
  | x, .int _ y :: r => mostQ op k C D (op x y) r
  | _, _ => D
def minI (x y : Int) : Int := if y < x then y else x
def maxI (x y : Int) : Int := if x < y then y else x

def fieldQ (P : Program) (s : TypeId) (f : Nat) (C : Field → Prop) (D : Prop) : Prop :=
  match P.underlying s with
  | some (.struct fs) =>
    match fs[f]? with
    | some fd => C fd
    | none => D
  | _ => D

/-- Operations that look at no memory: what is asked, and the value. -/
def valQ (P : Program) (o : Oper) (ρ : Operand → Value) (C : Value → Prop) : Prop :=
  let D := ∃ v, Gives P o ρ v ∧ C v
  match o.op with
  | .move x | .assign x => C (ρ x)
  | .pick c a b =>
    match ρ c, ρ a, ρ b with
    | .bool u, .bool x, .bool y => C (.bool (bif u then x else y))
    | .bool true, x, _ => C x
    | .bool false, _, y => C y
    | _, _, _ => D
  | .nilCheck x =>
    match ρ x with
    | .pointer p => optQ p fun a => C (.pointer (some a))
    | .func (.func f) first cap => C (.func (.func f) first cap)
    | .iface t v => C (.iface t v)
    | _ => D
  | .binOp op t x y _ => binOpQ P op t (ρ x) (ρ y) C D
  | .unOp op _ x =>
    match op, ρ x with
    | .not, .bool b => C (.bool !b)
    | .neg, .int k n => C (.int k (k.wrap (0 - n)))
    | _, _ => D
  | .convert s d x =>
    match P.underlying s, P.underlying d, ρ x with
    | some _, some (.int k), .int _ n => C (.int k (k.wrap n))
    | some _, some .string, .string s => C (.string s)
    | _, _, _ => D
  | .fieldAddr s x f =>
    match ρ x with
    | .pointer p => optQ p fun a => fieldQ P s f (fun fd => sizeQ P fd.type fun n => match n with | 0 => D | _ + 1 => C (.pointer (some (a.add fd.offset)))) D
    | _ => D
  | .field s x f =>
    match ρ x with
    | .agg cs => fieldQ P s f (fun fd =>
        match P.underlying fd.type with
        | some (.struct _) | some (.array _ _) => sizeQ P fd.type fun n => C (.agg (cs.extract fd.offset (fd.offset + n)))
        | none => D
        | some d => (Sh.of (some d)).ex fun v => cs[fd.offset]? = some v ∧ C v) D
    | _ => D
  | .indexAddr t x ix =>
    match P.underlying t, ρ x, ρ ix with
    | some (.slice e), .slice A n _, .int _ i => (0 ≤ i ∧ i < (n : Int)) ∧ optQ A fun a => sizeQ P e fun z => C (.pointer (some (a.add (i.toNat * z))))
    | some (.array n e), .pointer p, .int _ i => (0 ≤ i ∧ i < (n : Int)) ∧ optQ p fun a => sizeQ P e fun z => C (.pointer (some (a.add (i.toNat * z))))
    | _, _, _ => D
  | .index t x ix =>
    match P.underlying t, ρ x, ρ ix with
    | some .string, .string s, .int _ i => (0 ≤ i ∧ i < (s.size : Int)) ∧ C (.int .u8 (byteAt s i))
    | _, _, _ => D
  | .slice t x lo hi mx =>
    match mx with
    | some mx =>
      match hi, P.underlying t, ρ x with
      | some hi, some (.slice e), .slice A _ c => hiQ (some (ρ mx)) c c (fun m => hiQ (some (ρ hi)) m m (fun h => hiQ (lo.map ρ) h 0 (fun l => sizeQ P e fun z => C (.slice (sliceAddr A l m z) (h - l) (m - l))) D) D) D
      | _, _, _ => D
    | none =>
      match P.underlying t, ρ x with
      | some .string, .string s => hiQ (hi.map ρ) s.size s.size (fun h => hiQ (lo.map ρ) h 0 (fun l => C (.string (s.extract l h))) D) D
      | some (.slice e), .slice A n c => hiQ (hi.map ρ) c n (fun h => hiQ (lo.map ρ) h 0 (fun l => sizeQ P e fun z => C (.slice (sliceAddr A l c z) (h - l) (c - l))) D) D
      | some (.array m e), .pointer p => optQ p fun a => hiQ (hi.map ρ) m m (fun h => hiQ (lo.map ρ) h 0 (fun l => sizeQ P e fun z => C (.slice (sliceAddr (some a) l m z) (h - l) (m - l))) D) D
      | _, _ => D
  | .extract x i =>
    match ρ x with
    | .tuple vs => match vs[i]? with | some v => C v | none => D
    | _ => D
  | .makeInterface t x =>
    match P.underlying t with
    | some (.interface _) | none => D
    | some _ => C (.iface t (ρ x))
  | .makeFunc fn first cap => C (.func fn (first.map ρ) (cap.map ρ))
  | .call { callee := .builtin .len, args := args, argTypes := ts } =>
    match (ts[0]?).bind P.underlying, (args[0]?).map ρ with
    | some (.slice _), some (.slice _ n _) => C (.int .i64 n)
    | some .string, some (.string s) => C (.int .i64 s.size)
    | _, _ => D
  | .call { callee := .builtin .min, args := args, argTypes := _ } =>
    match args.toList.map ρ with
    | .int k x :: r => mostQ minI k C D x r
    | _ => D
  | .call { callee := .builtin .max, args := args, argTypes := _ } =>
    match args.toList.map ρ with
    | .int k x :: r => mostQ maxI k C D x r
    | _ => D
  | .call { callee := .builtin .cap, args := args, argTypes := ts } =>
    match (ts[0]?).bind P.underlying, (args[0]?).map ρ with
    | some (.slice _), some (.slice _ _ c) => C (.int .i64 c)
    | _, _ => D
  | .build t parts => buildQ P t (parts.toList.map fun p => (p.1, ρ p.2)) C D
  | _ => D

/-! ### Soundness of valQ -/
section
variable {P : Program} {o : Oper} {ρ : Operand → Value}

theorem gives_of {v : Value} (s : Sem Value) (hs : execOp ρ o = (do pure (.value (← s)))) (h : ∀ w, s.run P w = .ok v w) : Gives P o ρ v := by
  intro w
  rw [hs, Sem.run_bind, h w]
  rfl

theorem bin_guard {op : BinOp} {t : TypeId} {x y : Operand} {a b v : Value} {w : World}
    (hg : (eqGuard op t x y a b).run P w = .ok () w) (h : (binOp op t a b).run P w = .ok v w) :
    (do eqGuard op t x y a b; binOp op t a b : Sem Value).run P w = .ok v w := by
  rw [Sem.run_bind, hg]; exact h

theorem bin_key {op : BinOp} {t : TypeId} {x y : Operand} {u : TypeId} (ho : o.op = .binOp op t x y u) {a b v : Value} (ha : ρ x = a) (hb : ρ y = b)
    (hg : ∀ w, (eqGuard op t x y a b).run P w = .ok () w) (h : ∀ w, (binOp op t a b).run P w = .ok v w) : Gives P o ρ v :=
  gives_of (do eqGuard op t x y a b; binOp op t a b) (by unfold execOp; rw [ho]; simp only [ha, hb]) fun w => bin_guard (hg w) (h w)

theorem binQ_sound {op : BinOp} {t : TypeId} {x y : Operand} {u : TypeId} {C : Value → Prop} {D : Prop} {a b : Value} (ho : o.op = .binOp op t x y u) (ha : ρ x = a) (hb : ρ y = b)
    (h : binQ op C D a b) (h1 : op ≠ .shl) (h2 : op ≠ .shr) : (∃ v, Gives P o ρ v ∧ C v) ∨ D := by
  unfold binQ at h
  split at h
  · split at h
    · rename_i hk
      subst hk
      split at h
      case h_4 => exact .inl ⟨_, bin_key ho ha hb (fun w => by rfl) (fun w => by simp [binOp, Op.intDiv, h.1]), h.2⟩
      case h_5 => exact .inl ⟨_, bin_key ho ha hb (fun w => by rfl) (fun w => by simp [binOp, Op.intDiv, h.1]), h.2⟩
      case h_16 => exact .inr h
      all_goals exact .inl ⟨_, bin_key ho ha hb (fun w => by rfl) (fun w => by simp [binOp, Op.intArith, Op.intCmp, Op.intBits]), h⟩
    · exact .inr h
  · split at h
    case h_5 =>
      have h' := h.1
      exact .inl ⟨_, bin_key ho ha hb (fun w => by rfl) (fun w => by simp only [binOp, Op.stringOp]; rw [if_neg h']; rfl), h.2⟩
    case h_6 => exact .inr h
    all_goals exact .inl ⟨_, bin_key ho ha hb (fun w => by rfl) (fun w => by simp [binOp, Op.stringOp]), h⟩
  · exact .inr h

theorem shQ_sound {op : BinOp} {t : TypeId} {x y : Operand} {u : TypeId} {C : Value → Prop} {D : Prop} {a b : Value} (ho : o.op = .binOp op t x y u) (ha : ρ x = a) (hb : ρ y = b)
    (h : shQ op C D a b) : (∃ v, Gives P o ρ v ∧ C v) ∨ D := by
  unfold shQ at h
  split at h
  · split at h
    case h_3 => exact .inr h
    all_goals exact .inl ⟨_, bin_key ho ha hb (fun w => by rfl) (fun w => by simp only [binOp, Op.shift, if_neg h.1]; rfl), h.2⟩
  · exact .inr h

theorem equal_bool {t : TypeId} {a b : Bool} (hd : P.underlying t = some .bool) (w : World) : (Op.equal t (.bool a) (.bool b)).run P w = .ok (a == b) w := by
  unfold Op.equal Op.maxDepth
  rw [show (10000 : Nat) = 9999 + 1 from rfl, Op.equalIn, Sem.run_bind, run_underlying hd]
  rfl

theorem equal_ptr {t e : TypeId} {p : Option Addr} (hd : P.underlying t = some (.pointer e)) (w : World) : (Op.equal t (.pointer p) (.pointer none)).run P w = .ok p.isNone w := by
  unfold Op.equal Op.maxDepth
  rw [show (10000 : Nat) = 9999 + 1 from rfl, Op.equalIn, Sem.run_bind, run_underlying hd]
  cases p <;> rfl

theorem equal_slice {t e : TypeId} {A : Option Addr} {n c m k : Nat} (hd : P.underlying t = some (.slice e)) (w : World) : (Op.equal t (.slice A n c) (.slice none m k)).run P w = .ok A.isNone w := by
  unfold Op.equal Op.maxDepth
  rw [show (10000 : Nat) = 9999 + 1 from rfl, Op.equalIn, Sem.run_bind, run_underlying hd]
  cases A <;> rfl

theorem equal_map {t e f : TypeId} {r : Option Nat} (hd : P.underlying t = some (.map e f)) (w : World) : (Op.equal t (.map r) (.map none)).run P w = .ok r.isNone w := by
  unfold Op.equal Op.maxDepth
  rw [show (10000 : Nat) = 9999 + 1 from rfl, Op.equalIn, Sem.run_bind, run_underlying hd]
  cases r <;> rfl

theorem eqQ_sound {op : BinOp} {t : TypeId} {x y : Operand} {u : TypeId} {C : Bool → Prop} {D : Prop} {a b : Value} (_ho : o.op = .binOp op t x y u) (_ha : ρ x = a) (_hb : ρ y = b)
    (h : eqQ (P.underlying t) C D a b) : (∃ r, (∀ w, (Op.equal t a b).run P w = .ok r w) ∧ (∀ w, (eqGuard op t x y a b).run P w = .ok () w) ∧
      (∀ k m k' n, ¬ (a = .int k m ∧ b = .int k' n)) ∧ (∀ m n, ¬ (a = .string m ∧ b = .string n)) ∧ C r) ∨ D := by
  unfold eqQ at h
  split at h
  · split at h
    · rename_i hd
      exact .inl ⟨_, equal_bool hd, fun w => by unfold eqGuard; cases op <;> rfl, by simp, by simp, h⟩
    · exact .inr h
  · split at h
    · rename_i hd
      exact .inl ⟨_, equal_ptr hd, fun w => by unfold eqGuard; cases op <;> rfl, by simp, by simp, h⟩
    · exact .inr h
  · split at h
    · rename_i hd
      exact .inl ⟨_, equal_slice hd, fun w => by unfold eqGuard; cases op <;> rfl, by simp, by simp, h⟩
    · exact .inr h
  · split at h
    · rename_i hd
      exact .inl ⟨_, equal_map hd, fun w => by unfold eqGuard; cases op <;> rfl, by simp, by simp, h⟩
    · exact .inr h
  · exact .inr h

theorem binOp_eql {t : TypeId} {a b : Value} {r : Bool} {w : World} (h : (Op.equal t a b).run P w = .ok r w)
    (h1 : ∀ k m k' n, ¬ (a = .int k m ∧ b = .int k' n)) (h2 : ∀ m n, ¬ (a = .string m ∧ b = .string n)) (ha : (∃ x, a = .bool x) ∨ (∃ x, a = .pointer x) ∨ (∃ x y z, a = .slice x y z) ∨ (∃ x, a = .map x)) :
    (binOp .eql t a b).run P w = .ok (.bool r) w ∧ (binOp .neq t a b).run P w = .ok (.bool !r) w := by
  rcases ha with ⟨x, rfl⟩ | ⟨x, rfl⟩ | ⟨x, y, z, rfl⟩ | ⟨x, rfl⟩ <;> constructor <;> simp [binOp, h]

theorem eqQ_form {d : Option TypeDesc} {C : Bool → Prop} {D : Prop} {a b : Value} (h : eqQ d C D a b) :
    ((∃ x, a = .bool x) ∨ (∃ x, a = .pointer x) ∨ (∃ x y z, a = .slice x y z) ∨ (∃ x, a = .map x)) ∨ D := by
  unfold eqQ at h
  split at h
  · exact .inl (.inl ⟨_, rfl⟩)
  · exact .inl (.inr (.inl ⟨_, rfl⟩))
  · exact .inl (.inr (.inr (.inl ⟨_, _, _, rfl⟩)))
  · exact .inl (.inr (.inr (.inr ⟨_, rfl⟩)))
  · exact .inr h

theorem aggQ_sound {op : BinOp} {t : TypeId} {x y : Operand} {u : TypeId} {C : Bool → Prop} {E : Prop} {a b : Value} (ho : o.op = .binOp op t x y u) (ha : ρ x = a) (hb : ρ y = b)
    (h : aggQ P t a b C E) : (∃ r, (op = .eql → Gives P o ρ (.bool r)) ∧ (op = .neq → Gives P o ρ (.bool !r)) ∧ C r) ∨ E := by
  unfold aggQ at h
  split at h
  · split at h
    · rename_i hg
      obtain ⟨r, h1, h2⟩ := h
      refine .inl ⟨r, fun e => ?_, fun e => ?_, h2⟩
      · subst e
        exact bin_key ho ha hb (fun w => run_eqGuard_agg w _ _ _ _ _ _ hg) (fun w => by rw [run_eql_struct, h1 w]; rfl)
      · subst e
        exact bin_key ho ha hb (fun w => run_eqGuard_agg w _ _ _ _ _ _ hg) (fun w => by rw [run_neq_struct, h1 w]; rfl)
    · exact .inr h
  · exact .inr h

theorem binOpQ_sound {op : BinOp} {t : TypeId} {x y : Operand} {u : TypeId} {C : Value → Prop} {D : Prop} {a b : Value} (ho : o.op = .binOp op t x y u) (ha : ρ x = a) (hb : ρ y = b)
    (h : binOpQ P op t a b C D) : (∃ v, Gives P o ρ v ∧ C v) ∨ D := by
  unfold binOpQ at h
  split at h
  · exact shQ_sound ho ha hb h
  · exact shQ_sound ho ha hb h
  · rcases aggQ_sound ho ha hb h with ⟨r, h1, -, h3⟩ | h
    · exact .inl ⟨_, h1 rfl, h3⟩
    rcases binQ_sound ho ha hb h (by simp) (by simp) with h | h
    · exact .inl h
    · rcases eqQ_form h with hf | hD
      · rcases eqQ_sound ho ha hb h with ⟨r, h1, h2, h3, h4, h5⟩ | h
        · exact .inl ⟨_, bin_key ho ha hb h2 (fun w => (binOp_eql (h1 w) h3 h4 hf).1), h5⟩
        · exact .inr h
      · exact .inr hD
  · rcases aggQ_sound ho ha hb h with ⟨r, -, h2, h3⟩ | h
    · exact .inl ⟨_, h2 rfl, h3⟩
    rcases binQ_sound ho ha hb h (by simp) (by simp) with h | h
    · exact .inl h
    · rcases eqQ_form h with hf | hD
      · rcases eqQ_sound ho ha hb h with ⟨r, h1, h2, h3, h4, h5⟩ | h
        · exact .inl ⟨_, bin_key ho ha hb h2 (fun w => (binOp_eql (h1 w) h3 h4 hf).2), h5⟩
        · exact .inr h
      · exact .inr hD
  · rename_i n1 n2 _ _
    exact binQ_sound ho ha hb h n1 n2

theorem optQ_some {p : Option Addr} {C : Addr → Prop} (h : optQ p C) : ∃ a, p = some a ∧ C a := by
  cases p with
  | none => exact h.elim
  | some a => exact ⟨a, rfl, h⟩

theorem fieldQ_sound {s : TypeId} {f : Nat} {C : Field → Prop} {D : Prop} (h : fieldQ P s f C D) : (∃ fs fd, P.underlying s = some (.struct fs) ∧ fs[f]? = some fd ∧ C fd) ∨ D := by
  unfold fieldQ at h
  split at h
  · split at h
    · exact .inl ⟨_, _, by assumption, by assumption, h⟩
    · exact .inr h
  · exact .inr h

theorem sizeQ_sound {t : TypeId} {C : Nat → Prop} (h : sizeQ P t C) : ∃ n, C n ∧ ∀ w, (sizeOf t).run P w = .ok n w := by
  unfold sizeQ at h
  split at h
  · rename_i i hi
    exact ⟨_, h, fun w => by simp [sizeOf, typeInfo, program, Sem.run, hi]⟩
  · exact h.elim

theorem part_one {t : TypeId} {cs : Array Value} {off : Nat} {v : Value} {d : TypeDesc} (hd : P.underlying t = some d) (h1 : ∀ fs, d ≠ .struct fs) (h2 : ∀ n e, d ≠ .array n e) (hv : cs[off]? = some v) (w : World) :
    (part t cs off).run P w = .ok v w := by
  unfold part isAgg
  simp only [Sem.run_bind, run_underlying hd, Result.andThen_ok]
  cases d <;> simp_all

theorem part_agg {t : TypeId} {cs : Array Value} {off n : Nat} {d : TypeDesc} (hd : P.underlying t = some d) (h1 : (∃ fs, d = .struct fs) ∨ (∃ n e, d = .array n e)) (hs : ∀ w, (sizeOf t).run P w = .ok n w) (w : World) :
    (part t cs off).run P w = .ok (.agg (cs.extract off (off + n))) w := by
  unfold part isAgg
  simp only [Sem.run_bind, run_underlying hd, Result.andThen_ok]
  rcases h1 with ⟨fs, rfl⟩ | ⟨n, e, rfl⟩ <;> simp [hs]

theorem byteAt_eq {s : ByteArray} {i : Int} (h0 : 0 ≤ i) (h1 : i < (s.size : Int)) : ∃ b : UInt8, s[i.toNat]? = some b ∧ byteAt s i = (b.toNat : Int) := by
  have hlt : i.toNat < s.size := by omega
  have hlt' : i.toNat < s.data.toList.length := by rw [Array.length_toList]; exact hlt
  refine ⟨s[i.toNat], by simp [getElem?_pos, hlt], ?_⟩
  unfold byteAt
  rw [List.getD_eq_getElem?_getD, List.getElem?_eq_getElem hlt']
  rfl

theorem hiQ_bound {y : Option Value} {cap dflt : Nat} {C : Nat → Prop} {D : Prop} (h : hiQ y cap dflt C D) :
    (∃ n, C n ∧ ((y = none ∧ n = dflt) ∨ ∃ k i, y = some (.int k i) ∧ 0 ≤ i ∧ i ≤ (cap : Int) ∧ n = i.toNat)) ∨ D := by
  unfold hiQ at h
  split at h
  · exact .inl ⟨_, h, .inl ⟨rfl, rfl⟩⟩
  · exact .inl ⟨_, h.2, .inr ⟨_, _, rfl, h.1.1, h.1.2, rfl⟩⟩
  · exact .inr h

theorem run_sliceBound {k : IntKind} {i : Int} {y : Nat} {c : BoundsCode} (h0 : 0 ≤ i) (h1 : i ≤ (y : Int)) (w : World) : (Instr.sliceBound (.int k i) y c).run P w = .ok i.toNat w := by
  unfold Instr.sliceBound
  simp [asIntOf, h0, h1]

theorem run_sliceBounds {b : Bool} {len cap h l : Nat} {lo hi : Option Value}
    (hh : (hi = none ∧ h = len) ∨ ∃ k i, hi = some (.int k i) ∧ 0 ≤ i ∧ i ≤ (cap : Int) ∧ h = i.toNat)
    (hl : (lo = none ∧ l = 0) ∨ ∃ k i, lo = some (.int k i) ∧ 0 ≤ i ∧ i ≤ (h : Int) ∧ l = i.toNat) (w : World) :
    (Instr.sliceBounds b len cap lo hi none).run P w = .ok (l, h, cap) w := by
  unfold Instr.sliceBounds
  rcases hh with ⟨rfl, rfl⟩ | ⟨k, i, rfl, h0, h1, rfl⟩ <;> rcases hl with ⟨rfl, rfl⟩ | ⟨k', j, rfl, h2, h3, rfl⟩ <;>
    simp only [Sem.run_bind, Sem.run_pure, Result.andThen_ok, run_sliceBound, Option.isSome, *] <;> first | rfl | simp [run_sliceBound h0 h1, run_sliceBound h2 h3]

theorem setL_foldl (vs : List Value) : ∀ (cs : Array Value) (off k : Nat), (vs.zipIdx k).foldl (fun cs (c, j) => cs.setIfInBounds (off + j) c) cs = setL cs (off + k) vs := by
  induction vs with
  | nil => intro cs off k; rfl
  | cons v vs ih =>
    intro cs off k
    simp only [List.zipIdx_cons, List.foldl_cons, setL]
    rw [ih _ off (k + 1)]
    congr 1

theorem size_setL (vs : List Value) : ∀ (cs : Array Value) (off : Nat), (setL cs off vs).size = cs.size := by
  induction vs with
  | nil => intro cs off; rfl
  | cons v vs ih => intro cs off; simp only [setL]; rw [ih]; simp

theorem fillQ_out {pl : List (Nat × Nat)} {z : Nat} {C : Array Value → Prop} : ∀ {ps : List (Nat × Value)} {acc : Array Value}, acc.size = z → fillQ pl z ps acc C →
    ∃ cs, Instr.fill (pl[·]?) acc ps = some cs ∧ C cs := by
  intro ps
  induction ps with
  | nil => intro acc _ h; exact ⟨_, rfl, h⟩
  | cons p ps ih =>
    intro acc hz h
    obtain ⟨i, v⟩ := p
    unfold fillQ at h
    split at h
    · rename_i off n hp
      split at h
      · rename_i hle
        obtain ⟨h1, h2⟩ := cellsQ_out h
        obtain ⟨cs, h3, h4⟩ := ih (by rw [size_setL]; exact hz) h2
        refine ⟨cs, ?_, h4⟩
        have hle := Nat.le_of_ble_eq_true hle
        simp only [Instr.fill, hp, h1, hz, ne_eq, not_true_eq_false, decide_false, Bool.false_or, decide_eq_true_eq]
        rw [if_neg (by omega)]
        have hz' : v.cells.zipIdx.foldl (fun cs (x : Value × Nat) => cs.setIfInBounds (off + x.2) x.1) acc = setL acc off v.cells.toList := by
          rw [← Array.foldl_toList, Array.toList_zipIdx]
          exact setL_foldl v.cells.toList acc off 0
        rw [← h3, ← hz']
      · exact h.elim
    · exact h.elim

theorem placesOf_run {fs : List Field} {l : List (Nat × Nat)} (h : placesOf P fs = some l) (w : World) :
    (fs.mapM (m := Sem) fun f => do pure (f.offset, ← sizeOf f.type)).run P w = .ok l w := by
  induction fs generalizing l with
  | nil => simp only [placesOf, Option.some.injEq] at h; subst h; rfl
  | cons f fs ih =>
    unfold placesOf at h
    split at h
    · rename_i i l' hi hl
      simp only [Option.some.injEq] at h
      subst h
      have hs : (sizeOf f.type).run P w = .ok i.size w := by simp [sizeOf, typeInfo, program, Sem.run, hi]
      simp only [List.mapM_cons, Sem.run_bind, hs, Result.andThen_ok, Sem.run_pure, ih hl]
    · cases h

theorem buildQ_sound {t : TypeId} {parts : Array (Nat × Operand)} {C : Value → Prop} {D : Prop} (ho : o.op = .build t parts)
    (h : buildQ P t (parts.toList.map fun p => (p.1, ρ p.2)) C D) : (∃ v, Gives P o ρ v ∧ C v) ∨ D := by
  unfold buildQ at h
  split at h
  · rename_i i fs hi hu
    split at h
    · rename_i z pl hz hpl
      obtain ⟨cs, h1, h2⟩ := fillQ_out rfl h
      refine .inl ⟨_, fun w => ?_, h2⟩
      have hzv : (zeroValue t).run P w = .ok z w := by simp [zeroValue, typeInfo, program, Sem.run, hi, hz]
      have hm : (fs.mapM (m := Sem) fun f => do pure (f.offset, ← sizeOf f.type)).run P w = .ok pl.toArray w := by
        rw [Array.mapM_eq_mapM_toList]
        simp only [Sem.run_map, placesOf_run hpl, Result.andThen_ok]
      have hl : (parts.map fun (i, x) => (i, ρ x)).toList = parts.toList.map fun p => (p.1, ρ p.2) := by rw [Array.toList_map]
      have hp : (fun x : Nat => pl.toArray[x]?) = fun x => pl[x]? := by funext x; simp
      simp only [execOp, ho, Instr.build, Sem.run_bind, hzv, Result.andThen_ok, run_underlying hu, hm, hl, hp, h1, Sem.run_pure]
    · exact .inr h
  · exact .inr h

theorem mostQ_min {k : IntKind} {C : Value → Prop} {D : Prop} : ∀ {l : List Value} {x : Int}, mostQ minI k C D x l → (∃ v, (∀ w, (l.foldlM Builtin.min2 (Value.int k x)).run P w = .ok v w) ∧ C v) ∨ D := by
  intro l
  induction l with
  | nil => intro x h; exact .inl ⟨_, fun w => rfl, h⟩
  | cons v l ih =>
    intro x h
    unfold mostQ at h
    split at h
    · rename_i e; cases e
    · rename_i k' y r e
      simp only [List.cons.injEq] at e
      obtain ⟨rfl, rfl⟩ := e
      rcases ih h with ⟨v, h1, h2⟩ | h
      · exact .inl ⟨v, fun w => by simp only [List.foldlM_cons, Builtin.min2, Sem.run_bind, Sem.run_pure, Result.andThen_ok]; exact h1 w, h2⟩
      · exact .inr h
    · exact .inr h

theorem mostQ_max {k : IntKind} {C : Value → Prop} {D : Prop} : ∀ {l : List Value} {x : Int}, mostQ maxI k C D x l → (∃ v, (∀ w, (l.foldlM Builtin.max2 (Value.int k x)).run P w = .ok v w) ∧ C v) ∨ D := by
  intro l
  induction l with
  | nil => intro x h; exact .inl ⟨_, fun w => rfl, h⟩
  | cons v l ih =>
    intro x h
    unfold mostQ at h
    split at h
    · rename_i e; cases e
    · rename_i k' y r e
      simp only [List.cons.injEq] at e
      obtain ⟨rfl, rfl⟩ := e
      rcases ih h with ⟨v, h1, h2⟩ | h
      · exact .inl ⟨v, fun w => by simp only [List.foldlM_cons, Builtin.max2, Sem.run_bind, Sem.run_pure, Result.andThen_ok]; exact h1 w, h2⟩
      · exact .inr h
    · exact .inr h

theorem run_sliceBounds3 {len cap m h l : Nat} {lo hi : Option Value} {k : IntKind} {i : Int} (h0 : 0 ≤ i) (h1 : i ≤ (cap : Int)) (hm : m = i.toNat)
    (hh : (hi = none ∧ h = m) ∨ ∃ k i, hi = some (.int k i) ∧ 0 ≤ i ∧ i ≤ (m : Int) ∧ h = i.toNat)
    (hl : (lo = none ∧ l = 0) ∨ ∃ k i, lo = some (.int k i) ∧ 0 ≤ i ∧ i ≤ (h : Int) ∧ l = i.toNat) (hn : hi ≠ none) (w : World) :
    (Instr.sliceBounds true len cap lo hi (some (.int k i))).run P w = .ok (l, h, m) w := by
  subst hm
  unfold Instr.sliceBounds
  rcases hh with ⟨rfl, rfl⟩ | ⟨k, i, rfl, h2, h3, rfl⟩
  · exact absurd rfl hn
  · rcases hl with ⟨rfl, rfl⟩ | ⟨k', j, rfl, h4, h5, rfl⟩ <;>
      simp only [Sem.run_bind, Sem.run_pure, Result.andThen_ok, run_sliceBound h0 h1, run_sliceBound h2 h3, Option.isSome, *] <;> first | rfl | simp [run_sliceBound h4 h5]

theorem valQ_sound {C : Value → Prop} (h : valQ P o ρ C) : ∃ v, Gives P o ρ v ∧ C v := by
  unfold valQ at h
  simp only at h
  split at h
  · rename_i x ho; exact ⟨_, fun w => by simp [execOp, ho], h⟩
  · rename_i x ho; exact ⟨_, fun w => by simp [execOp, ho], h⟩
  · -- pick
    rename_i c a b ho
    split at h
    · rename_i u x y hc ha hb
      exact ⟨_, fun w => by cases u <;> simp [execOp, ho, hc, ha, hb, asBool], h⟩
    · rename_i hc _; exact ⟨_, fun w => by simp [execOp, ho, hc, asBool], h⟩
    · rename_i hc _; exact ⟨_, fun w => by simp [execOp, ho, hc, asBool], h⟩
    · exact h
  · -- nilCheck
    rename_i x ho
    split at h
    · rename_i p hx
      obtain ⟨a, rfl, h⟩ := optQ_some h
      exact ⟨_, fun w => by simp [execOp, ho, hx], h⟩
    · rename_i f first cap hx; exact ⟨_, fun w => by simp [execOp, ho, hx], h⟩
    · rename_i t v hx; exact ⟨_, fun w => by simp [execOp, ho, hx], h⟩
    · exact h
  · -- binOp
    rename_i op t x y u ho
    rcases binOpQ_sound ho rfl rfl h with h | h <;> exact h
  · -- unOp
    rename_i op t x ho
    split at h
    · rename_i b hx; exact ⟨_, fun w => by simp [execOp, ho, hx, Op.unary], h⟩
    · rename_i k n hx; exact ⟨_, fun w => by simp [execOp, ho, hx, Op.unary, Op.intArith], h⟩
    · exact h
  · -- convert
    rename_i sr d x ho
    split at h
    · rename_i u k k' n hs hd hx
      exact ⟨_, fun w => by simp [execOp, ho, hx, convert, run_underlying hs, run_underlying hd, Conv.intToInt], h⟩
    · rename_i u z hs hd hx
      exact ⟨_, fun w => by simp [execOp, ho, hx, convert, run_underlying hs, run_underlying hd], h⟩
    · exact h
  · -- fieldAddr
    rename_i t x f ho
    split at h
    · rename_i p hx
      obtain ⟨a, rfl, h⟩ := optQ_some h
      rcases fieldQ_sound h with ⟨fs, fd, h1, h2, h⟩ | h
      · obtain ⟨n, h, hn⟩ := sizeQ_sound h
        split at h
        · exact h
        · exact ⟨_, fun w => by simp [execOp, ho, hx, Instr.fieldAt, run_underlying h1, h2, Instr.sureAddr, fieldPlace, hn], h⟩
      · exact h
    · exact h
  · -- field
    rename_i t x f ho
    split at h
    · rename_i cs hx
      rcases fieldQ_sound h with ⟨fs, fd, h1, h2, h⟩ | h
      · split at h
        · rename_i d hd
          obtain ⟨n, h, hn⟩ := sizeQ_sound h
          exact ⟨_, fun w => by simp [execOp, ho, hx, Instr.field, run_underlying h1, h2, asAgg, part_agg hd (.inl ⟨_, rfl⟩) hn], h⟩
        · rename_i d e hd
          obtain ⟨n, h, hn⟩ := sizeQ_sound h
          exact ⟨_, fun w => by simp [execOp, ho, hx, Instr.field, run_underlying h1, h2, asAgg, part_agg hd (.inr ⟨_, _, rfl⟩) hn], h⟩
        · exact h
        · rename_i d n1 n2 hd
          obtain ⟨v, hv, h⟩ := Sh.ex_out h
          exact ⟨_, fun w => by simp [execOp, ho, hx, Instr.field, run_underlying h1, h2, asAgg, part_one hd (fun fs e => n1 fs e) (fun n e e' => n2 n e e') hv], h⟩
      · exact h
    · exact h
  · -- indexAddr
    rename_i t x ix ho
    split at h
    · rename_i e A n c k i ht hx hi
      obtain ⟨⟨h0, h1⟩, h2⟩ := h
      obtain ⟨a, rfl, h3⟩ := optQ_some h2
      obtain ⟨z, h, hz⟩ := sizeQ_sound h3
      exact ⟨_, fun w => by simp [execOp, ho, hx, hi, Instr.indexAt, asIntOf, run_underlying ht, h0, h1, hz], h⟩
    · rename_i n e p k i ht hx hi
      obtain ⟨⟨h0, h1⟩, h2⟩ := h
      obtain ⟨a, rfl, h3⟩ := optQ_some h2
      obtain ⟨z, h, hz⟩ := sizeQ_sound h3
      exact ⟨_, fun w => by simp [execOp, ho, hx, hi, Instr.indexAt, asIntOf, run_underlying ht, h0, h1, hz, Instr.sureAddr], h⟩
    · exact h
  · -- index
    rename_i t x ix ho
    split at h
    · rename_i s k i ht hx hi
      obtain ⟨⟨h0, h1⟩, h⟩ := h
      obtain ⟨b, hb, e⟩ := byteAt_eq h0 h1
      rw [e] at h
      exact ⟨_, fun w => by simp [execOp, ho, hx, hi, Instr.index, asIntOf, run_underlying ht, h0, hb], h⟩
    · exact h
  · -- slice
    rename_i t x lo hi mx ho
    split at h
    · rename_i mx'
      split at h
      · rename_i hi e A n c ht hx
        rcases hiQ_bound h with ⟨m, h, h0⟩ | h
        · rcases h0 with ⟨h0, -⟩ | ⟨k, i, h0, hi0, hi1, rfl⟩
          · cases h0
          · simp only [Option.some.injEq] at h0
            rcases hiQ_bound h with ⟨hh, h, h1⟩ | h
            · rcases hiQ_bound h with ⟨l, h, h2⟩ | h
              · obtain ⟨z, h, hz⟩ := sizeQ_sound h
                exact ⟨_, fun w => by simp [execOp, ho, hx, h0, Instr.sliceAt, Instr.slice, run_underlying ht, run_sliceBounds3 hi0 hi1 rfl h1 h2 (by simp), hz, sliceAddr_eq], h⟩
              · exact h
            · exact h
        · exact h
      · exact h
    · split at h
      · rename_i s ht hx
        rcases hiQ_bound h with ⟨hh, h, h1⟩ | h
        · rcases hiQ_bound h with ⟨l, h, h2⟩ | h
          · exact ⟨_, fun w => by simp [execOp, ho, hx, Instr.sliceAt, Instr.slice, run_underlying ht, run_sliceBounds h1 h2], h⟩
          · exact h
        · exact h
      · rename_i e A n c ht hx
        rcases hiQ_bound h with ⟨hh, h, h1⟩ | h
        · rcases hiQ_bound h with ⟨l, h, h2⟩ | h
          · obtain ⟨z, h, hz⟩ := sizeQ_sound h
            exact ⟨_, fun w => by simp [execOp, ho, hx, Instr.sliceAt, Instr.slice, run_underlying ht, run_sliceBounds h1 h2, hz, sliceAddr_eq], h⟩
          · exact h
        · exact h
      · rename_i m e p ht hx
        obtain ⟨a, rfl, h3⟩ := optQ_some h
        rcases hiQ_bound h3 with ⟨hh, h, h1⟩ | h
        · rcases hiQ_bound h with ⟨l, h, h2⟩ | h
          · obtain ⟨z, h, hz⟩ := sizeQ_sound h
            refine ⟨_, fun w => ?_, h⟩
            simp only [execOp, ho, hx, Instr.sliceAt, run_underlying ht, run_sliceBounds h1 h2, hz, sliceAddr_eq, Instr.sureAddr, Sem.run_bind, Sem.run_pure, Result.andThen_ok, Option.map_none]
            split <;> rfl
          · exact h
        · exact h
      · exact h
  · -- extract
    rename_i x i ho
    split at h
    · rename_i vs hx
      split at h
      · rename_i v hv; exact ⟨_, fun w => by simp [execOp, ho, hx, Instr.extract, hv], h⟩
      · exact h
    · exact h
  · -- makeInterface
    rename_i t x ho
    split at h
    · exact h
    · exact h
    · rename_i d n1 hd
      refine ⟨_, fun w => ?_, h⟩
      simp only [execOp, ho, Instr.makeInterface, Sem.run_bind, run_underlying hd, Result.andThen_ok]
      cases d <;> first | rfl | exact absurd hd (n1 _)
  · rename_i fn first cap ho
    exact ⟨_, fun w => by simp [execOp, ho, Instr.makeFunc], h⟩
  · -- len
    rename_i args ts ho
    split at h
    · rename_i e A n c ht hx
      obtain ⟨t0, h0, ht⟩ := Option.bind_eq_some_iff.1 ht
      obtain ⟨x0, h1, hx⟩ := Option.map_eq_some_iff.1 hx
      exact ⟨_, fun w => by simp [execOp, ho, resolve, invoke, builtin, Builtin.len_, h0, h1, hx, run_underlying ht, goInt], h⟩
    · rename_i s ht hx
      obtain ⟨t0, h0, ht⟩ := Option.bind_eq_some_iff.1 ht
      obtain ⟨x0, h1, hx⟩ := Option.map_eq_some_iff.1 hx
      exact ⟨_, fun w => by simp [execOp, ho, resolve, invoke, builtin, Builtin.len_, h0, h1, hx, run_underlying ht, goInt], h⟩
    · exact h
  · -- min
    rename_i args ts ho
    split at h
    · rename_i k x r hx
      rcases mostQ_min (P := P) h with ⟨v, h1, h2⟩ | h
      · exact ⟨_, fun w => by simp [execOp, ho, resolve, invoke, builtin, Builtin.min_, hx, h1], h2⟩
      · exact h
    · exact h
  · -- max
    rename_i args ts ho
    split at h
    · rename_i k x r hx
      rcases mostQ_max (P := P) h with ⟨v, h1, h2⟩ | h
      · exact ⟨_, fun w => by simp [execOp, ho, resolve, invoke, builtin, Builtin.max_, hx, h1], h2⟩
      · exact h
    · exact h
  · -- cap
    rename_i args ts ho
    split at h
    · rename_i e A n c ht hx
      obtain ⟨t0, h0, ht⟩ := Option.bind_eq_some_iff.1 ht
      obtain ⟨x0, h1, hx⟩ := Option.map_eq_some_iff.1 hx
      exact ⟨_, fun w => by simp [execOp, ho, resolve, invoke, builtin, Builtin.cap_, h0, h1, hx, run_underlying ht, goInt], h⟩
    · exact h
  · -- build
    rename_i t parts ho
    rcases buildQ_sound ho h with h | h <;> exact h
  · exact h
end

end Go.Proofs.YtdaookipaknoeaaGreat
