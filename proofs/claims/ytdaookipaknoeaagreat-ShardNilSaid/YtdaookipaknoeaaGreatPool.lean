/-
  The pool of keys.
-/
import Derived.Test.YtdaookipaknoeaaGreatArena6
import Derived.Test.YtdaookipaknoeaaGreatMapAt
import Derived.Laws.IdiomStrings
namespace Go.Proofs.YtdaookipaknoeaaGreat
open Go Go.MapKept
set_option linter.unusedVariables false

structure PEnt where
  (c i : Nat) (age users : Int)
structure Pol where
  (cap : Int) (ents : List PEnt) (num : ByteArray → Option Int) (size : Nat)

def poTs : List Nat := [108, 264]

def strM (f : ByteArray → Option Int) : Value → Option Value
  | .string s => (f s).map (Value.int .i64)
  | _ => none

def entCells (es : List PEnt) : List Value := es.flatMap fun p => [.int .i64 (p.c : Nat), .int .i64 (p.i : Nat), .int .i64 p.age, .int .i64 p.users]

theorem entCells_length (es : List PEnt) : (entCells es).length = es.length * 4 := by
  unfold entCells
  induction es with
  | nil => rfl
  | cons p ls ih => simp [ih]; omega

theorem entCells_get (es : List PEnt) (i : Nat) (h : i < es.length) : (entCells es)[i * 4]? = some (.int .i64 (es[i].c : Nat)) ∧ (entCells es)[i * 4 + 1]? = some (.int .i64 (es[i].i : Nat)) ∧ (entCells es)[i * 4 + 2]? = some (.int .i64 es[i].age) ∧ (entCells es)[i * 4 + 3]? = some (.int .i64 es[i].users) := by
  induction es generalizing i with
  | nil => simp at h
  | cons p ls ih =>
    cases i with
    | zero => simp [entCells]
    | succ i =>
      have := ih i (by simpa using h)
      rw [show (i + 1) * 4 = i * 4 + 4 by omega]
      simpa [entCells] using this

theorem entCells_set (es : List PEnt) (i : Nat) (h : i < es.length) (p : PEnt) : patch (entCells es) (i * 4) [.int .i64 (p.c : Nat), .int .i64 (p.i : Nat), .int .i64 p.age, .int .i64 p.users] = entCells (es.set i p) := by
  induction es generalizing i with
  | nil => simp at h
  | cons q ls ih =>
    cases i with
    | zero => simp [patch, entCells]
    | succ i =>
      have := ih i (by simpa using h)
      rw [show (i + 1) * 4 = i * 4 + 4 by omega]
      unfold patch at *
      simp only [List.set_cons_succ]
      have e : entCells (q :: ls) = [.int .i64 (q.c : Nat), .int .i64 (q.i : Nat), .int .i64 q.age, .int .i64 q.users] ++ entCells ls := rfl
      have e2 : entCells (q :: ls.set i p) = [.int .i64 (q.c : Nat), .int .i64 (q.i : Nat), .int .i64 q.age, .int .i64 q.users] ++ entCells (ls.set i p) := rfl
      rw [e, e2, ← this]
      simp

/-- a pool in block pb, in the arena ab, with its map in block r -/
structure PoolAt (w : World) (F : Nat → Prop) (pb ab r : Nat) (p : Pol) : Prop where
  here : ∃ EA ec, Blk w pb 108 #[.pointer (some ⟨ab, 0, none⟩), .int .i64 p.cap, .slice EA p.ents.length ec, .map (some r)] ∧ Own w 264 4 EA p.ents.length ec (entCells p.ents) ∧ ∀ x, EA = some x → F x.block
  map : MapAt w r .string (strM p.num) p.size
  foot : F pb ∧ F r
  len : 1 ≤ p.ents.length ∧ p.ents.length ≤ 65536

/-- the pool stays where other types are changed -/
theorem PoolAt.keep {w w1 : World} {F G S : Nat → Prop} {pb ab r : Nat} {p : Pol} (h : PoolAt w F pb ab r p) (f : Fr S w w1) (hS : ∀ i, F i → S i → ¬ Tg w poTs i) (hr : ¬ S r) (hG : ∀ i, i < w.heap.size → F i → G i) : PoolAt w1 G pb ab r p := by
  obtain ⟨EA, ec, h1, h2, h3⟩ := h.here
  refine ⟨⟨EA, ec, f.b h1 fun hs => hS pb h.foot.1 hs ⟨_, _, h1, by simp [poTs]⟩, h2.frame f fun x hx hs => ?_, fun x hx => hG _ (h2.lt x hx) (h3 x hx)⟩, h.map.frame f hr, ⟨hG _ (lt_of_blk h1) h.foot.1, hG _ h.map.lt h.foot.2⟩, h.len⟩
  have := h3 x hx
  rw [hx] at h2
  obtain ⟨_, cur, hb⟩ := h2.blk
  exact hS _ this hs ⟨_, cur, hb, by simp [poTs]⟩

theorem PoolAt.ext {w w1 : World} {F : Nat → Prop} {pb ab r : Nat} {p : Pol} (h : PoolAt w F pb ab r p) (f : Ext w w1) : PoolAt w1 F pb ab r p := h.keep f (fun _ _ h => h.elim) id fun _ _ h => h

/-- the map of a pool holds no cells -/
theorem MapAt.noTg {w : World} {r n : Nat} {d : TypeDesc} {m : Value → Option Value} (h : MapAt w r d m n) (Ts : List Nat) : ¬ Tg w Ts r := by
  rintro ⟨T, cs, hb, _⟩
  obtain ⟨es, c, h1, _⟩ := h
  unfold Blk at hb
  rw [h1] at hb
  cases hb

theorem MapAt.ne {w : World} {r n b T : Nat} {d : TypeDesc} {m : Value → Option Value} {cs : Array Value} (h : MapAt w r d m n) (hb : Blk w b T cs) : r ≠ b := by
  rintro rfl
  exact h.noTg [T] ⟨T, cs, hb, by simp⟩

/-- .. where only the arena is changed -/
theorem PoolAt.arena {w w1 : World} {F : Nat → Prop} {pb ab r : Nat} {p : Pol} (h : PoolAt w F pb ab r p) (f : Fr (Mod w F arTs []) w w1) : PoolAt w1 (Grow F w w1) pb ab r p :=
  h.keep f (fun i _ ⟨_, hs⟩ ⟨T, cs, hb, hT⟩ => hs.elim (Tg.not hb ((by decide : ∀ T ∈ poTs, T ∉ arTs) T hT)) (by simp)) (fun ⟨_, hs⟩ => hs.elim (h.map.noTg _) (by simp)) fun i _ hF => .inl hF

theorem makes_entry : makes Tryz.prog 105 264 (.agg #[.int .i64 0, .int .i64 0, .int .i64 0, .int .i64 0]) 4 32 := .of (by kernel_rfl) (by kernel_rfl)

def newPol (n : Int) : Pol := ⟨n, [⟨0, 0, 0, 0⟩], fun _ => none, 0⟩

theorem pool_new {w : World} {ab : Nat} {n : Int} (h1 : 1 ≤ n) (h2 : n ≤ 8192) :
    Calls Tryz.prog 11 #[.pointer (some ⟨ab, 0, none⟩), .int .i64 n] w fun e w1 => Ext w w1 ∧ ∃ pb r, e = .returned (.tuple #[.pointer (some ⟨pb, 0, none⟩), .int .i64 0]) ∧ w.heap.size ≤ pb ∧ w.heap.size ≤ r ∧
      ∀ F : Nat → Prop, (∀ i, w.heap.size ≤ i → i < w1.heap.size → F i) → PoolAt w1 F pb ab r (newPol n) := by
  refine f11_vc (fun _ w' => w' = w) ?_ (CondQ.decF (by omega) (CondQ.decF (by omega) ⟨rfl, rfl, rfl⟩))
  rintro w1 rfl
  obtain ⟨w2, hr, hz, f2⟩ := make_slice (w := w1) makes_entry (n := 1) (c := 1) (by omega) (by omega) (by decide) (by omega)
  obtain ⟨w4, hr4, hm4, f4⟩ := MapAt.new (P := Tryz.prog) (d := .string) w2 106
  refine ⟨_, _, _, w2, hr, _, w4, hr4, fun b6 w7 hb6 hbb f7 => ?_⟩
  have hs2 := f2.size
  have hs4 := f4.size
  have hs7 := f7.size
  have hml := hm4.lt
  refine ⟨(f2.trans f4).trans f7, b6, w2.heap.size, rfl, by omega, by omega, fun F hF => ?_⟩
  have hz7 : Blk w7 w1.heap.size 264 _ := (f4.trans f7).b hz id
  have hzc : (madeCells (Value.agg #[.int .i64 0, .int .i64 0, .int .i64 0, .int .i64 0]).cells (Int.toNat 1 * 4)) = #[.int .i64 0, .int .i64 0, .int .i64 0, .int .i64 0] := by kernel_rfl
  rw [hzc] at hz7
  have hzl := lt_of_blk hz7
  exact ⟨⟨_, _, hbb, Own.full (sz := 4) (n := 1) hz7 (by decide) (by rfl), fun x hx => by cases hx; exact hF _ (Nat.le_refl _) hzl⟩, (by rw [show strM (newPol n).num = fun _ => none by funext v; cases v <;> rfl]; exact hm4.frame f7 id), ⟨hF _ (by omega) (lt_of_blk hbb), hF _ (by omega) (by omega)⟩, by simp [newPol], by simp [newPol]⟩

end Go.Proofs.YtdaookipaknoeaaGreat
