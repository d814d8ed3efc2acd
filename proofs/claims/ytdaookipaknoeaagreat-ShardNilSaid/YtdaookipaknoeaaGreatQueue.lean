/-
  The queue of a shard: New, Push, Len, Until.
-/
import Derived.Test.YtdaookipaknoeaaGreatPool3
namespace Go.Proofs.YtdaookipaknoeaaGreat
open Go Go.MapKept
set_option linter.unusedVariables false

/-- a slot of size was taken: (c, i, age); s': the arena then -/
def AllocR (s : Arn) (size : Int) (c i : Nat) (age : Int) (s' : Arn) : Prop :=
  ∃ k k2 s2 t, s.kls.length ≤ 8 ∧ 1 ≤ size ∧ s.fit size = some c ∧ s.kls[c]? = some k ∧ AStep s c k i t k2 s2 ∧ (0 ≤ t.age ∧ t.age < 4611686018427387904) ∧ (0 ≤ k.live ∧ k.live < 4611686018427387904) ∧ k.slots.length ≤ 65536 ∧ age = t.age + 1 ∧ s' = s2.taken c k2 i t

theorem alloc_r {w : World} {F : Nat → Prop} {ab : Nat} {s s' : Arn} {size age : Int} {c i : Nat} (h : ArenaAt w F ab s) (hr : AllocR s size c i age s') :
    Calls Tryz.prog 51 #[.pointer (some ⟨ab, 0, none⟩), .int .i64 size] w fun e w1 =>
      e = .returned (.tuple #[.agg (handle c i age), .int .i64 0]) ∧ ArenaAt w1 (Grow F w w1) ab s' ∧ Fr (Mod w F arTs []) w w1 := by
  obtain ⟨k, k2, s2, t, h1, h2, h3, h4, h5, h6, h7, h8, rfl, rfl⟩ := hr
  exact arena_alloc h h1 h2 h3 h4 h5 h6 h7 h8

/-- a key came into the pool under the number id; a new one -/
def InternR (s : Arn) (p : Pol) (key : ByteArray) (id : Nat) (s' : Arn) (p' : Pol) : Prop :=
  1 ≤ key.size ∧ key.size ≤ 255 ∧
  ∃ k k2 s2 t c i num', p.num key = none ∧ (p.size : Int) ≠ p.cap ∧ p.ents.length ≤ 60000 ∧ s.kls.length ≤ 8 ∧ s.fit key.size = some c ∧ s.kls[c]? = some k ∧ AStep s c k i t k2 s2 ∧ (0 ≤ t.age ∧ t.age < 4611686018427387904) ∧ (0 ≤ k.live ∧ k.live < 4611686018427387904) ∧ k.slots.length ≤ 65536 ∧
    IsFree p id ∧ s' = s2.put c k2 i t (bytesOf key) ∧ num' key = some (id : Int) ∧ (∀ x, x ≠ key → num' x = p.num x) ∧ p' = { p.ensure id with ents := (p.ensure id).ents.set id ⟨c, i, t.age + 1, 1⟩, num := num', size := p.size + 1 }

theorem isFree_unique {p : Pol} {i j : Nat} (h1 : IsFree p i) (h2 : IsFree p j) : i = j := by
  rcases Nat.lt_trichotomy i j with h | h | h
  · have hi : i < p.ents.length := by have := h2.hi; omega
    exact absurd (h1.at_ hi) (h2.before i hi h1.lo h)
  · exact h
  · have hi : j < p.ents.length := by have := h1.hi; omega
    exact absurd (h2.at_ hi) (h1.before j hi h2.lo h)

theorem intern_r {w : World} {F : Nat → Prop} {pb ab r : Nat} {p p' : Pol} {s s' : Arn} {key : ByteArray} {id : Nat} (hp : PoolAt w F pb ab r p) (ha : ArenaAt w F ab s) (hr : InternR s p key id s' p') :
    Calls Tryz.prog 99 #[.pointer (some ⟨pb, 0, none⟩), .string key] w fun e w1 => e = .returned (.tuple #[.int .i64 (id : Nat), .int .i64 0]) ∧
      ArenaAt w1 (Grow F w w1) ab s' ∧ PoolAt w1 (Grow F w w1) pb ab r p' ∧ Fr (Mod w F apTs [r]) w w1 := by
  obtain ⟨k1, k2', k, k2, s2, t, c, i, num', g1, g2, g3, g4, g5, g6, g7, g8, g9, g10, g11, rfl, g13, g14, rfl⟩ := hr
  refine (pool_intern_new hp ha k1 k2' g1 g2 g3 g4 g5 g6 g7 g8 g9 g10).mono ?_
  rintro e w1 ⟨id', hid, rfl, ha1, hp1, f1⟩
  obtain rfl := isFree_unique hid g11
  exact ⟨rfl, ha1, hp1 num' g13 g14, f1⟩

structure Wt where
  (window time weight : Int) (c i : Nat) (age : Int) (id : Nat)

def quTs : List Nat := [193, 196]

def Wt.cells (x : Wt) : List Value := [.int .i64 x.window, .int .i64 x.time, .int .u64 x.weight, .int .i64 (x.c : Nat), .int .i64 (x.i : Nat), .int .i64 x.age, .int .i64 (x.id : Nat)]
def wtCells (l : List Wt) : List Value := l.flatMap Wt.cells

theorem wtCells_length (l : List Wt) : (wtCells l).length = l.length * 7 := by
  unfold wtCells
  induction l with
  | nil => rfl
  | cons p ls ih => simp [ih, Wt.cells]; omega

theorem wtCells_get (l : List Wt) (i j : Nat) (h : i < l.length) (hj : j < 7) : (wtCells l)[i * 7 + j]? = (l[i].cells)[j]? := by
  induction l generalizing i with
  | nil => simp at h
  | cons p ls ih =>
    cases i with
    | zero =>
      have : (wtCells (p :: ls)) = p.cells ++ wtCells ls := rfl
      rw [this, Nat.zero_mul, Nat.zero_add, List.getElem?_append_left (by simp [Wt.cells]; omega)]
      rfl
    | succ i =>
      have : (wtCells (p :: ls)) = p.cells ++ wtCells ls := rfl
      rw [this, List.getElem?_append_right (by simp [Wt.cells]; omega), show (i + 1) * 7 + j - p.cells.length = i * 7 + j by simp [Wt.cells]; omega]
      exact ih i (by simpa using h)

/-- a queue in block qb, of the arena ab and the pool pb, with room for cap events; l: those that wait -/
structure QueueAt (w : World) (F : Nat → Prop) (qb ab pb cap : Nat) (l : List Wt) : Prop where
  here : ∃ LA lc xs, Blk w qb 193 #[.pointer (some ⟨ab, 0, none⟩), .pointer (some ⟨pb, 0, none⟩), .slice LA cap lc, .int .i64 (l.length : Nat)] ∧ Own w 196 7 LA cap lc xs ∧ xs.take (l.length * 7) = wtCells l ∧ ∀ x, LA = some x → F x.block
  foot : F qb
  len : l.length ≤ cap ∧ cap ≤ 64

theorem QueueAt.keep {w w1 : World} {F G S : Nat → Prop} {qb ab pb cap : Nat} {l : List Wt} (h : QueueAt w F qb ab pb cap l) (f : Fr S w w1) (hS : ∀ i, F i → S i → ¬ Tg w quTs i) (hG : ∀ i, i < w.heap.size → F i → G i) : QueueAt w1 G qb ab pb cap l := by
  obtain ⟨LA, lc, xs, h1, h2, h3, h4⟩ := h.here
  refine ⟨⟨LA, lc, xs, f.b h1 fun hs => hS qb h.foot hs ⟨_, _, h1, by simp [quTs]⟩, h2.frame f fun x hx hs => ?_, h3, fun x hx => hG _ (h2.lt x hx) (h4 x hx)⟩, hG _ (lt_of_blk h1) h.foot, h.len⟩
  have := h4 x hx
  rw [hx] at h2
  obtain ⟨_, cur, hb⟩ := h2.blk
  exact hS _ this hs ⟨_, cur, hb, by simp [quTs]⟩

theorem QueueAt.ext {w w1 : World} {F : Nat → Prop} {qb ab pb cap : Nat} {l : List Wt} (h : QueueAt w F qb ab pb cap l) (f : Ext w w1) : QueueAt w1 F qb ab pb cap l := h.keep f (fun _ _ h => h.elim) fun _ _ h => h
theorem QueueAt.mono {w : World} {F G : Nat → Prop} {qb ab pb cap : Nat} {l : List Wt} (h : QueueAt w F qb ab pb cap l) (hG : ∀ i, i < w.heap.size → F i → G i) : QueueAt w G qb ab pb cap l := h.keep (Fr.refl (fun _ => False) w) (fun _ _ h => h.elim) hG

/-- .. where the arena and the pool are changed -/
theorem QueueAt.mem {w w1 : World} {F : Nat → Prop} {qb ab pb cap : Nat} {l : List Wt} {Ts rs : List Nat} (h : QueueAt w F qb ab pb cap l) (f : Fr (Mod w F Ts rs) w w1) (hT : ∀ T ∈ quTs, T ∉ Ts) (hr : ∀ i ∈ rs, ¬ Tg w quTs i) : QueueAt w1 (Grow F w w1) qb ab pb cap l :=
  h.keep f (fun i _ ⟨_, hs⟩ ht => by
    obtain ⟨T, cs, hb, hT'⟩ := ht
    exact hs.elim (Tg.not hb (hT T hT')) fun hm => hr i hm ⟨T, cs, hb, hT'⟩) fun i _ hF => .inl hF

theorem makes_wt : makes Tryz.prog 191 196 (.agg #[.int .i64 0, .int .i64 0, .int .u64 0, .int .i64 0, .int .i64 0, .int .i64 0, .int .i64 0]) 7 56 := .of (by kernel_rfl) (by kernel_rfl)

theorem queue_new {w : World} {ab pb : Nat} {n : Int} (h1 : 1 ≤ n) (h2 : n ≤ 64) :
    Calls Tryz.prog 76 #[.pointer (some ⟨ab, 0, none⟩), .pointer (some ⟨pb, 0, none⟩), .int .i64 n] w fun e w1 => Ext w w1 ∧ ∃ qb, e = .returned (.tuple #[.pointer (some ⟨qb, 0, none⟩), .int .i64 0]) ∧ w.heap.size ≤ qb ∧
      ∀ F : Nat → Prop, (∀ i, w.heap.size ≤ i → i < w1.heap.size → F i) → QueueAt w1 F qb ab pb n.toNat [] := by
  refine f76_vc (fun _ w' => w' = w) (fun _ w' => w' = w) ?_ ?_ ⟨rfl, rfl, rfl, rfl⟩
  · rintro w1 rfl
    exact CondQ.decF (by omega) (CondQ.decF (by omega) ⟨rfl, rfl, rfl, rfl⟩)
  · rintro w2 rfl
    obtain ⟨w3, hr, hz, f3⟩ := make_slice (w := w2) makes_wt (n := n) (c := n) (by omega) (by omega) (by omega) (by omega)
    refine ⟨_, _, _, w3, hr, fun b5 w6 hb5 hbb f6 => ?_⟩
    have hs3 := f3.size
    have hz6 := f6.b hz id
    have hzl := lt_of_blk hz6
    refine ⟨f3.trans f6, b5, rfl, by omega, fun F hF => ⟨⟨_, _, _, hbb, Own.full (sz := 7) (n := n.toNat) hz6 (by simp [maxLen]; omega) (by simp [size_madeCells]), by simp [wtCells], fun x hx => by cases hx; exact hF _ (Nat.le_refl _) hzl⟩, hF _ (by omega) (lt_of_blk hbb), by simp, by omega⟩⟩

theorem queue_len {w : World} {F : Nat → Prop} {qb ab pb cap : Nat} {l : List Wt} (h : QueueAt w F qb ab pb cap l) : Calls Tryz.prog 64 #[.pointer (some ⟨qb, 0, none⟩)] w fun e w1 => w1 = w ∧ e = .returned (.int .i64 (l.length : Nat)) := by
  obtain ⟨LA, lc, xs, h1, h2, h3, h4⟩ := h.here
  exact f64_vc ⟨_, h1.cell rfl, rfl, rfl⟩

end Go.Proofs.YtdaookipaknoeaaGreat
