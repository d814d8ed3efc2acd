/-
  Operations that look at memory or change it: what is asked of them, and soundness.
-/
import Derived.Test.YtdaookipaknoeaaGreatVc
import Derived.Great.BuildSlice
namespace Go.Proofs.YtdaookipaknoeaaGreat
open Go

/-- w1 is w but for the blocks of S, for new blocks and for draws. -/
structure Fr (S : Nat → Prop) (w w1 : World) : Prop where
  size : w.heap.size ≤ w1.heap.size
  blk : ∀ i, i < w.heap.size → ¬ S i → w1.heap[i]? = w.heap[i]?
  os : w1.os = w.os
  tape : w1.tape = w.tape
  output : w1.output = w.output

theorem lt_of_blk {w : World} {i : Nat} {o : Obj} (h : w.heap[i]? = some o) : i < w.heap.size := (Array.getElem?_eq_some_iff.1 h).1

/-- block b holds these cells -/
abbrev Blk (w : World) (b : Nat) (T : TypeId) (cs : Array Value) : Prop := w.heap[b]? = some (.cells cs T (0, 0))

/-- nothing that was there has changed -/
abbrev Ext (w w1 : World) : Prop := Fr (fun _ => False) w w1

def AllocQ (w : World) (t : TypeId) (cs : Array Value) (C : Nat → World → Prop) : Prop :=
  ∀ b w1, w.heap.size ≤ b → Blk w1 b t cs → Ext w w1 → C b w1

/-- a value that lies in one cell -/
def one : Value → Bool
  | .agg _ | .tuple _ => false
  | _ => true

def StoreQ (w : World) (a : Addr) (vs : List Value) (C : World → Prop) : Prop :=
  ∃ cs T, Blk w a.block T cs ∧ a.spot = none ∧ a.off + vs.length ≤ cs.size ∧
    vs.all one = true ∧
    ∀ w1, Blk w1 a.block T (setL cs a.off vs) → Fr (fun i => i = a.block) w w1 → w1.heap.size = w.heap.size → C w1

/-- the cells of values that are to fill n cells each -/
def cellsL (n : Nat) : List Value → List Value → (List Value → Prop) → Prop
  | [], acc, C => C acc
  | v :: vs, acc, C => cellsQ v n fun cs => cellsL n vs (acc ++ cs.toList) C

def AppQ (P : Program) (ts : Array TypeId) (ty : TypeId) (x y : Value) (w : World) (C : Option Addr → Nat → Nat → World → Prop) : Prop :=
  ∃ A n c w1, (Builtin.append_ ts ty #[x, y]).run P w = .ok (.slice A n c) w1 ∧ C A n c w1

inductive Cls where
  | val | ld | eff
  deriving DecidableEq

def clsOf (P : Program) : Op → Cls
  | .load _ _ | .lookup .. | .entry _ => .ld
  | .convert s d _ =>
    match P.underlying s, P.underlying d with
    | some (.slice _), some .string => .ld
    | _, some (.slice _) => .eff
    | _, _ => .val
  | .call { callee := .builtin .len, argTypes := ts, .. } =>
    match (ts[0]?).bind P.underlying with
    | some (.map _ _) => .ld
    | _ => .val
  | .call { callee := .builtin .min, .. } | .call { callee := .builtin .max, .. } | .call { callee := .builtin .cap, .. } => .val
  | .call _ | .store .. | .alloc _ | .box .. | .buildSlice .. | .mapUpdate .. | .insert .. | .mapEntry .. | .entryStore .. | .makeMap .. | .makeSlice .. | .range .. | .next .. | .go _ | .defer _ | .panic _
  | .send .. | .recv .. | .select .. | .makeChan .. | .ready _ | .waits _ => .eff
  | _ => .val

/-- how many entries a map has -/
def MapLen (w : World) (r : Option Nat) (n : Nat) : Prop :=
  match r with
  | none => n = 0
  | some r => ∃ es cl, w.heap[r]? = some (.map es cl) ∧ es.size = n

/-- Operations that look at memory: a fact on the world, and the value in each world that meets it. -/
def ldQ (P : Program) (o : Oper) (ρ : Operand → Value) (C : (World → Prop) → Value → Prop) : Prop :=
  let D := tyQ P o.type fun v => C (fun w => (execOp ρ o).run P w = .ok (.value v) w) v
  match o.op with
  | .load t x =>
    match ρ x with
    | .pointer p => optQ p fun a =>
      match P.underlying t with
      | some (.struct _) | some (.array _ _) => sizeQ P t fun n => ∃ cs, C (fun w => LoadsA w a n cs) (.agg cs)
      | some d => (Sh.of (some d)).ex fun v => C (fun w => w.cell? a = some v) v
      | none => False
    | _ => D
  | .call { callee := .builtin .len, args := args, argTypes := ts } =>
    match (ts[0]?).bind P.underlying, (args[0]?).map ρ with
    | some (.map _ _), some (.map r) => ∃ n : Nat, C (fun w => MapLen w r n) (.int .i64 n)
    | _, _ => D
  | .convert s d x => tyQ P o.type fun v => C (fun w => (convert s d (ρ x)).run P w = .ok v w) v
  | .lookup t x k ok => tyQ P o.type fun v => C (fun w => (Instr.lookup t (ρ x) (ρ k) ok).run P w = .ok v w) v
  | _ => D

section
variable {P : Program} {o : Oper} {ρ : Operand → Value}

theorem run_cell {w : World} {a : Addr} {v : Value} (h : w.cell? a = some v) : (load a).run P w = .ok v w := by
  simp [load, Sem.run, h]

theorem run_loadCellsFrom {w : World} {a : Addr} {cs : Array Value} : ∀ (n i : Nat) (acc : Array Value), (∀ j, j < n → w.cell? (a.add (i + j)) = cs[i + j]?) → i + n = cs.size → acc = cs.extract 0 i →
    (loadCellsFrom a i n acc).run P w = .ok cs w := by
  intro n
  induction n with
  | zero =>
    intro i acc _ hs ha
    subst ha
    simp only [loadCellsFrom, Sem.run_pure, Nat.add_zero] at *
    rw [hs, Array.extract_size]
  | succ n ih =>
    intro i acc h hs ha
    have h0 := h 0 (by omega)
    have hlt : i < cs.size := by omega
    rw [Nat.add_zero, Array.getElem?_eq_getElem hlt] at h0
    simp only [loadCellsFrom, Sem.run_bind, run_cell h0, Result.andThen_ok]
    refine ih (i + 1) _ (fun j hj => ?_) (by omega) ?_
    · have := h (j + 1) (by omega)
      rw [show i + 1 + j = i + (j + 1) by omega]
      exact this
    · subst ha
      rw [Array.push_extract_getElem hlt]
      simp

theorem ldQ_sound {C : (World → Prop) → Value → Prop} (h : ldQ P o ρ C) : ∃ F v, (∀ w, F w → (execOp ρ o).run P w = .ok (.value v) w) ∧ C F v := by
  have hD : (tyQ P o.type fun v => C (fun w => (execOp ρ o).run P w = .ok (.value v) w) v) → ∃ F v, (∀ w, F w → (execOp ρ o).run P w = .ok (.value v) w) ∧ C F v := fun h => by
    obtain ⟨v, h⟩ := tyQ_out h
    exact ⟨_, v, fun w hw => hw, h⟩
  unfold ldQ at h
  simp only at h
  split at h
  · rename_i t x ho
    split at h
    · rename_i p hx
      obtain ⟨a, rfl, h1⟩ := optQ_some h
      have agg : ∀ d, P.underlying t = some d → ((∃ fs, d = .struct fs) ∨ ∃ n e, d = .array n e) → (sizeQ P t fun n => ∃ cs, C (fun w => LoadsA w a n cs) (.agg cs)) →
          ∃ F v, (∀ w, F w → (execOp ρ o).run P w = .ok (.value v) w) ∧ C F v := by
        intro d hd hda h2
        obtain ⟨n, ⟨cs, h3⟩, hn⟩ := sizeQ_sound h2
        refine ⟨_, _, fun w hw => ?_, h3⟩
        have hl : (loadCells a n).run P w = .ok cs w := run_loadCellsFrom n 0 #[] (fun j hj => by simpa using hw.2 j hj) (by simpa using hw.1.symm) (by simp)
        simp only [execOp, ho, hx, Instr.loadAt, Instr.sureAddr, loadVar, isAgg, Sem.run_bind, Sem.run_pure, Result.andThen_ok, run_underlying hd]
        rcases hda with ⟨fs, rfl⟩ | ⟨m, e, rfl⟩ <;> simp [hn, hl]
      split at h1
      · rename_i hd; exact agg _ hd (.inl ⟨_, rfl⟩) h1
      · rename_i hd; exact agg _ hd (.inr ⟨_, _, rfl⟩) h1
      · rename_i d n1 n2 hd
        obtain ⟨v, h2⟩ := Sh.ex_out h1
        refine ⟨_, _, fun w hw => ?_, h2⟩
        simp only [execOp, ho, hx, Instr.loadAt, Instr.sureAddr, loadVar, isAgg, Sem.run_bind, Sem.run_pure, Result.andThen_ok, run_underlying hd]
        cases d <;> first | exact absurd rfl (n1 _) | exact absurd rfl (n2 _ _) | simp [run_cell hw]
      · exact h1.elim
    · exact hD h
  · rename_i args ts ho
    split at h
    · rename_i k e r ht hx
      obtain ⟨t0, h0, ht⟩ := Option.bind_eq_some_iff.1 ht
      obtain ⟨x0, h1, hx⟩ := Option.map_eq_some_iff.1 hx
      obtain ⟨n, h⟩ := h
      refine ⟨_, _, fun w hw => ?_, h⟩
      cases r with
      | none =>
        obtain rfl : n = 0 := hw
        simp [execOp, ho, resolve, invoke, builtin, Builtin.len_, h0, h1, hx, run_underlying ht, goInt]
      | some r =>
        obtain ⟨es, cl, hw, rfl⟩ := hw
        simp [execOp, ho, resolve, invoke, builtin, Builtin.len_, h0, h1, hx, run_underlying ht, goInt, getObj, Sem.run, hw]
    · exact hD h
  · rename_i s d x ho
    obtain ⟨v, h⟩ := tyQ_out h
    exact ⟨_, v, fun w hw => by simp only [execOp, ho, Sem.run_bind, hw]; rfl, h⟩
  · rename_i t x k ok ho
    obtain ⟨v, h⟩ := tyQ_out h
    exact ⟨_, v, fun w hw => by simp only [execOp, ho, Sem.run_bind, hw]; rfl, h⟩
  · exact hD h
end

/-! ### Operations that change memory, or call -/

/-- a function with a body -/
def okF (P : Program) (f : FuncId) : Bool :=
  match P.funcs[f]? with
  | some fn => fn.body.isSome && !(fn.name == "runtime.NumGoroutine")
  | none => false

def callQ (P : Program) (B : List FuncId) (o : Oper) (f : FuncId) (args : Array Value) (w : World) (C : Value → World → Prop) : Prop :=
  if B.contains f then Calls P f args w fun e w1 => tyQ P o.type fun v => e = .returned v ∧ C v w1
  else tyQ P o.type fun v => ∃ w1, (callFunc f args).run P w = .ok (.value v) w1 ∧ C v w1

def effQ (P : Program) (B : List FuncId) (o : Oper) (ρ : Operand → Value) (w : World) (C : Value → World → Prop) : Prop :=
  let G := tyQ P o.type fun v => ∃ w1, (execOp ρ o).run P w = .ok (.value v) w1 ∧ C v w1
  let G0 := ∃ w1, (execOp ρ o).run P w = .ok .skip w1 ∧ C undef w1
  match o.op with
  | .alloc t =>
    match P.info? t with
    | some i =>
      match i.zero with
      | some z => AllocQ w t z.cells fun b w1 => C (.pointer (some ⟨b, 0, none⟩)) w1
      | none => False
    | none => False
  | .box t x => AllocQ w t (ρ x).cells fun b w1 => C (.pointer (some ⟨b, 0, none⟩)) w1
  | .buildSlice t len parts =>
    match P.underlying t with
    | some (.slice e) =>
      if parts.toList.map (·.1) = List.range len then
        match P.info? e with
        | some ie =>
          match ie.zero, ie.size with
          | some _, n + 1 => if len * (n + 1) ≤ 2 ^ 24 then cellsL (n + 1) (parts.toList.map fun p => ρ p.2) [] fun cs => AllocQ w e cs.toArray fun b w1 => C (.slice (some ⟨b, 0, none⟩) len len) w1 else False
          | _, _ => False
        | none => False
      else G
    | _ => G
  | .store t x v =>
    match ρ x with
    | .pointer p => optQ p fun ad => sizeQ P t fun n => cellsQ (ρ v) n fun cs => StoreQ w ad cs.toList fun w1 => C undef w1
    | _ => G0
  | .mapUpdate t m k x => ∃ w1, (Instr.mapUpdate t (ρ m) (ρ k) (ρ x)).run P w = .ok () w1 ∧ C undef w1
  | .makeSlice t l c => tyQ P o.type fun v => ∃ w1, (Instr.makeSlice t (ρ l) (ρ c)).run P w = .ok v w1 ∧ C v w1
  | .makeMap t r => tyQ P o.type fun v => ∃ w1, (Instr.makeMap t (r.map ρ)).run P w = .ok v w1 ∧ C v w1
  | .range t x => ∃ b w1, (Instr.range t (ρ x)).run P w = .ok (.pointer (some ⟨b, 0, none⟩)) w1 ∧ C (.pointer (some ⟨b, 0, none⟩)) w1
  | .convert s d x => tyQ P o.type fun v => ∃ w1, (convert s d (ρ x)).run P w = .ok v w1 ∧ C v w1
  | .insert .. | .entryStore .. => G0
  | .call c =>
    match c.callee with
    | .value (.func f) => callQ P B o f (c.args.map ρ) w C
    | .value x =>
      match ρ x with
      | .func (.func f) first cap => callQ P B o f (first ++ c.args.map ρ ++ cap) w C
      | _ => G
    | .builtin .append =>
      match c.args.toList.map ρ with
      | [x, y] => AppQ P c.argTypes o.type x y w fun A n k w1 => C (.slice A n k) w1
      | _ => G
    | .builtin .copy => tyQ P o.type fun v => ∃ w1, (Builtin.copy_ c.argTypes o.type (c.args.map ρ)).run P w = .ok v w1 ∧ C v w1
    | .builtin .delete => ∃ w1, (Builtin.delete_ c.argTypes o.type (c.args.map ρ)).run P w = .ok (.tuple #[]) w1 ∧ C (.tuple #[]) w1
    | _ => G
  | .defer _ | .go _ | .panic _ | .send .. | .recv .. | .select .. => False
  | _ => G

theorem ext_push (w : World) (o : Obj) : Ext w { w with heap := w.heap.push o } :=
  ⟨by simp, fun i hi _ => by rw [Array.getElem?_push_lt hi, Array.getElem?_eq_getElem hi], rfl, rfl, rfl⟩

theorem AllocQ.out {w : World} {t : TypeId} {cs : Array Value} {C : Nat → World → Prop} (h : AllocQ w t cs C) : C w.heap.size { w with heap := w.heap.push (.cells cs t) } :=
  h _ _ (Nat.le_refl _) (by simp [Blk]) (ext_push w _)

theorem setCell_same {w : World} {b off T : Nat} {cs : Array Value} {fr : Nat × Nat} (h : w.heap[b]? = some (.cells cs T fr)) (v : Value) :
    (w.setCell ⟨b, off, none⟩ v).heap[b]? = some (.cells (cs.setIfInBounds off v) T fr) := by
  unfold World.setCell
  simp [Array.getElem?_modify, h]

theorem setCell_ne {w : World} {a : Addr} {i : Nat} (h : i ≠ a.block) (v : Value) : (w.setCell a v).heap[i]? = w.heap[i]? := by
  unfold World.setCell
  simp only [Array.getElem?_modify]
  rw [if_neg (Ne.symm h)]

theorem run_storeCells {P : Program} {b T : Nat} : ∀ (vs : List Value) (off i : Nat) (w : World) (cs : Array Value), w.heap[b]? = some (.cells cs T (0, 0)) → off + i + vs.length ≤ cs.size → vs.all one = true →
    ∃ w1, (storeCells ⟨b, off, none⟩ vs i).run P w = .ok () w1 ∧ w1.heap[b]? = some (.cells (setL cs (off + i) vs) T (0, 0)) ∧ Fr (fun k => k = b) w w1 ∧ w1.heap.size = w.heap.size := by
  intro vs
  induction vs with
  | nil => intro off i w cs hb _ _; exact ⟨w, rfl, hb, ⟨Nat.le_refl _, fun _ _ _ => rfl, rfl, rfl, rfl⟩, rfl⟩
  | cons v vs ih =>
    intro off i w cs hb hs ho
    simp only [List.length_cons, List.all_cons, Bool.and_eq_true] at hs ho
    have hadd : (⟨b, off, none⟩ : Addr).add i = ⟨b, off + i, none⟩ := by unfold Addr.add; split <;> simp_all
    have hlt : off + i < cs.size := by omega
    have hc : w.cell? ⟨b, off + i, none⟩ = some cs[off + i] := by simp [World.cell?, hb, hlt]
    have hf : w.frozen? ⟨b, off + i, none⟩ = false := by simp [World.frozen?, hb]
    have h1 : (w.setCell ⟨b, off + i, none⟩ v).heap[b]? = some (.cells (cs.setIfInBounds (off + i) v) T (0, 0)) := by
      exact setCell_same hb v
    obtain ⟨w1, hr, h2, h3, h4⟩ := ih off (i + 1) (w.setCell ⟨b, off + i, none⟩ v) _ h1 (by simp; omega) ho.2
    have hsz : (w.setCell ⟨b, off + i, none⟩ v).heap.size = w.heap.size := by simp [World.setCell]
    refine ⟨w1, ?_, by rw [show off + (i + 1) = off + i + 1 by omega] at h2; exact h2, ⟨by rw [← hsz]; exact h3.size, fun k hk hn => ?_, h3.os, h3.tape, h3.output⟩, by rw [h4, hsz]⟩
    · have hst : (store ⟨b, off + i, none⟩ v).run P w = .ok () (w.setCell ⟨b, off + i, none⟩ v) := by
        have := ho.1
        cases v <;> first | (simp [one] at this; done) | simp [store, Sem.run, hc, hf]
      simp only [storeCells, Sem.run_bind, hadd, hst, Result.andThen_ok, hr]
    · rw [h3.blk k (by rw [hsz]; exact hk) hn, setCell_ne hn]

theorem cellsL_out {n : Nat} {C : List Value → Prop} : ∀ {vs : List Value} {acc : List Value}, cellsL n vs acc C → (∀ v ∈ vs, v.cells.size = n) ∧ C (acc ++ vs.flatMap fun v => v.cells.toList) := by
  intro vs
  induction vs with
  | nil => intro acc h; exact ⟨by simp, by simpa [cellsL] using h⟩
  | cons v vs ih =>
    intro acc h
    obtain ⟨h1, h2⟩ := cellsQ_out h
    obtain ⟨h3, h4⟩ := ih h2
    refine ⟨by simpa using ⟨h1, h3⟩, ?_⟩
    simpa using h4

theorem parts_zip (ρ : Operand → Value) (len : Nat) (l : List (Nat × Operand)) (k : Nat) (h : l.map (·.1) = List.range' k len) : (l.map fun p => (p.1, ρ p.2)) = ((l.map fun p => ρ p.2).zipIdx k).map fun x => (x.2, x.1) := by
  induction l generalizing len k with
  | nil => rfl
  | cons p l ih =>
    cases len with
    | zero => simp at h
    | succ len =>
      simp only [List.map_cons, List.range'_succ, List.cons.injEq] at h
      simp only [List.map_cons, List.zipIdx_cons, h.1]
      rw [ih len (k + 1) h.2]

theorem run_lit {P : Program} {w : World} {t e len n : Nat} {parts : Array (Nat × Operand)} {ρ : Operand → Value} {ie : TypeInfo} {z : Value} (hu : P.underlying t = some (.slice e)) (hi : P.info? e = some ie) (hz : ie.zero = some z)
    (hn : ie.size = n + 1) (hp : parts.toList.map (·.1) = List.range len) (hs : len * (n + 1) ≤ 2 ^ 24) (hv : ∀ v ∈ (parts.toList.map fun p => ρ p.2), v.cells.size = n + 1) :
    (Instr.buildSlice t len (parts.map fun (i, x) => (i, ρ x))).run P w = .ok (.slice (some ⟨w.heap.size, 0, none⟩) len len) { w with heap := w.heap.push (.cells ((parts.toList.map fun p => ρ p.2).flatMap fun v => v.cells.toList).toArray e) } := by
  rcases Nat.eq_zero_or_pos len with rfl | hl
  · have hp0 : parts = #[] := by
      cases parts with
      | mk l => cases l with
        | nil => rfl
        | cons p l => simp at hp
    subst hp0
    have h0 : Array.range 0 = #[] := Array.eq_empty_of_size_eq_zero (by simp)
    simp [Instr.buildSlice, run_underlying hu, sizeOf, typeInfo, program, Sem.run, hi, newRow, newObj, Instr.fill, h0]
  · have hlen : parts.toList.length = len := by have := congrArg List.length hp; simpa using this
    have hcount : ((Array.range (len * ie.size)).map (z.cells[· % z.cells.size]!)).size = len * (n + 1) := by simp [hn]
    have hpos : 0 < len * (n + 1) := Nat.mul_pos hl (Nat.succ_pos n)
    rw [run_buildSlice w t e len _ _ ie z hu hi hz (by rw [hn]; omega) (by rw [hn]; omega)
      (by
        have h1 : (parts.map fun (i, x) => (i, ρ x)).toList = ((parts.toList.map fun p => ρ p.2).zipIdx 0).map fun x => (x.2, x.1) := by
          rw [Array.toList_map]
          exact parts_zip ρ len parts.toList 0 (by rw [hp, List.range_eq_range'])
        rw [h1, hn]
        exact Great.fill_whole (Nat.succ_pos n) _ _ hv (by rw [← hn, hcount]; simp [hlen]))]
    rfl

theorem effQ_sound {P : Program} {B : List FuncId} (hB : ∀ f, B.contains f = true → okF P f = true) {o : Oper} {a : Act} {w : World} {C : Value → World → Prop} {Q : Exit → Act → World → Prop}
    (h : effQ P B o a.eval w C) : o.wp P a w (fun a' w' => ∃ v, a' = a.put o.dst v ∧ C v w') Q := by
  have hval : ∀ v w1, (execOp a.eval o).run P w = .ok (.value v) w1 → C v w1 → o.wp P a w (fun a' w' => ∃ v, a' = a.put o.dst v ∧ C v w') Q := fun v w1 hr hc => by
    unfold Oper.wp; rw [hr]; exact ⟨v, rfl, hc⟩
  have hG : (tyQ P o.type fun v => ∃ w1, (execOp a.eval o).run P w = .ok (.value v) w1 ∧ C v w1) → o.wp P a w (fun a' w' => ∃ v, a' = a.put o.dst v ∧ C v w') Q := fun h => by
    obtain ⟨v, w1, hr, hc⟩ := tyQ_out h
    exact hval v w1 hr hc
  have hskip : ∀ w1, (execOp a.eval o).run P w = .ok .skip w1 → C undef w1 → o.wp P a w (fun a' w' => ∃ v, a' = a.put o.dst v ∧ C v w') Q := fun w1 hr hc => by
    unfold Oper.wp; rw [hr]; exact ⟨_, rfl, hc⟩
  have hG0 : (∃ w1, (execOp a.eval o).run P w = .ok .skip w1 ∧ C undef w1) → o.wp P a w (fun a' w' => ∃ v, a' = a.put o.dst v ∧ C v w') Q := fun ⟨w1, hr, hc⟩ => hskip w1 hr hc
  have hcall : ∀ f args, (execOp a.eval o) = callFunc f args → callQ P B o f args w C → o.wp P a w (fun a' w' => ∃ v, a' = a.put o.dst v ∧ C v w') Q := fun f args he h => by
    unfold callQ at h
    split at h
    · rename_i hf
      have hok := hB f hf
      unfold okF at hok
      split at hok
      · rename_i fn hfn
        simp only [Bool.and_eq_true, Bool.not_eq_true'] at hok
        have hrun : (execOp a.eval o).run P w = .ok (.enter f args) w := by
          rw [he]
          have hbody : fn.body ≠ none := fun e => by rw [e] at hok; simp at hok
          have hname : ¬ fn.name = "runtime.NumGoroutine" := by simpa using hok.2
          simp [callFunc, program, Sem.run, hfn, hname, hbody]
        unfold Oper.wp; rw [hrun]
        refine Calls.mono h fun e w' hv => ?_
        obtain ⟨v, rfl, hc⟩ := tyQ_out hv
        exact ⟨v, rfl, hc⟩
      · cases hok
    · obtain ⟨v, w1, hr, h⟩ := tyQ_out h
      exact hval v w1 (by rw [he]; exact hr) h
  unfold effQ at h
  simp only at h
  split at h
  · rename_i t ho
    split at h
    · rename_i i hi
      split at h
      · rename_i z hz
        exact hval _ _ (by simp [execOp, ho, Instr.alloc, zeroValue, typeInfo, program, Sem.run, hi, hz, newVar, newRow, newObj]) (AllocQ.out h)
      · exact h.elim
    · exact h.elim
  · rename_i t x ho
    exact hval _ _ (by simp [execOp, ho, Instr.box, newVar, newRow, newObj, Sem.run]) (AllocQ.out h)
  · rename_i t len parts ho
    split at h
    · rename_i e hu
      split at h
      · rename_i hp
        split at h
        · rename_i ie hi
          split at h
          · rename_i z n hz hn
            split at h
            · rename_i hs
              obtain ⟨h1, h2⟩ := cellsL_out h
              exact hval _ _ (by simp only [execOp, ho, Sem.run_bind, run_lit hu hi hz hn hp hs h1]; rfl) (AllocQ.out h2)
            · exact h.elim
          · exact h.elim
        · exact h.elim
      · exact hG h
    · exact hG h
  · rename_i t x v ho
    split at h
    · rename_i p hx
      obtain ⟨ad, rfl, h1⟩ := optQ_some h
      obtain ⟨n, h2, hn⟩ := sizeQ_sound h1
      obtain ⟨h3, cs, T, hb, hsp, hsz, hone, h4⟩ := cellsQ_out h2
      obtain ⟨b, off, sp⟩ := ad
      obtain rfl : sp = none := hsp
      obtain ⟨w1, hr, h5, h6, h7⟩ := run_storeCells (P := P) _ off 0 w cs hb hsz hone
      refine hskip w1 ?_ (h4 w1 h5 h6 h7)
      simp [execOp, ho, hx, Instr.storeAt, Instr.sureAddr, storeVar, hn, h3, hr]
    · exact hG0 h
  · rename_i t m k x ho
    obtain ⟨w1, hr, h⟩ := h
    exact hskip w1 (by simp only [execOp, ho, Sem.run_bind, hr]; rfl) h
  · rename_i t l c ho
    obtain ⟨v, w1, hr, h⟩ := tyQ_out h
    exact hval v w1 (by simp only [execOp, ho, Sem.run_bind, hr]; rfl) h
  · rename_i t r ho
    obtain ⟨v, w1, hr, h⟩ := tyQ_out h
    exact hval v w1 (by simp only [execOp, ho, Sem.run_bind, hr]; rfl) h
  · rename_i t x ho
    obtain ⟨b, w1, hr, h⟩ := h
    exact hval _ w1 (by simp only [execOp, ho, Sem.run_bind, hr]; rfl) h
  · rename_i s d x ho
    obtain ⟨v, w1, hr, h⟩ := tyQ_out h
    exact hval v w1 (by simp only [execOp, ho, Sem.run_bind, hr]; rfl) h
  · exact hG0 h
  · exact hG0 h
  · rename_i c ho
    split at h
    · rename_i f hc
      refine hcall f _ ?_ h
      simp only [execOp, ho, resolve, hc, Act.eval, Deferred.ofValue, invoke]
      show callFunc f (#[] ++ _ ++ #[]) = _
      simp
    · rename_i x n1 hc
      split at h
      · rename_i f first cap hx
        refine hcall f _ ?_ h
        simp only [execOp, ho, resolve, hc, hx, Deferred.ofValue, invoke]
        rfl
      · exact hG h
    · rename_i hc
      split at h
      · rename_i x y hxy
        obtain ⟨A, n, k, w1, hr, hcc⟩ := h
        refine hval _ w1 ?_ hcc
        have harr : c.args.map a.eval = #[x, y] := by
          apply Array.toList_inj.1
          rw [Array.toList_map, hxy]
        simp only [execOp, ho, resolve, hc, invoke, builtin, Sem.run_bind, Sem.run_pure, Result.andThen_ok, harr, hr]
      · exact hG h
    · rename_i hc
      obtain ⟨v, w1, hr, h⟩ := tyQ_out h
      exact hval v w1 (by simp only [execOp, ho, resolve, hc, invoke, builtin, Sem.run_bind, Sem.run_pure, Result.andThen_ok, hr]) h
    · rename_i hc
      obtain ⟨w1, hr, h⟩ := h
      exact hval _ w1 (by simp only [execOp, ho, resolve, hc, invoke, builtin, Sem.run_bind, Sem.run_pure, Result.andThen_ok, hr]) h
    · exact hG h
  all_goals first | exact h.elim | exact hG h

end Go.Proofs.YtdaookipaknoeaaGreat
