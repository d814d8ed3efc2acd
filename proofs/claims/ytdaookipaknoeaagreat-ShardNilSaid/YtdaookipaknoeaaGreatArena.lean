/-
  The arena: what lies in memory, and New, Fit, Alloc.
-/
import Derived.Test.YtdaookipaknoeaaGreatTags
import Derived.Test.YtdaookipaknoeaaGreatCfg
import Derived.Test.YtdaookipaknoeaaGreatSegMem
namespace Go.Proofs.YtdaookipaknoeaaGreat
open Go
set_option linter.unusedVariables false

structure Slot where
  (age : Int) (used : Bool) (next : Int) (data : List Int)
structure Kls where
  (size count live : Int) (slots : List Slot)
structure Arn where
  (kls : List Kls) (free : List Int) (faults : Int)

def arTs : List Nat := [99, 104, 188]

/-- bytes lie from A on, in a block of bytes of F -/
structure BytesAt (w : World) (F : Nat → Prop) (A : Option Addr) (c : Nat) (bs : List Int) : Prop where
  nil : A = none → c = 0
  row : Row w A (bs.map (Value.int .u8))
  foot : ∀ x, A = some x → F x.block ∧ Tg w [5] x.block

structure SlotsAt (w : World) (F : Nat → Prop) (A : Option Addr) (n c : Nat) (l : List Slot) : Prop where
  len : l.length = n
  foot : ∀ x, A = some x → F x.block
  own : ∃ xs, Own w 188 4 A n c xs ∧ ∀ i s, l[i]? = some s → ∃ dA dc, xs[i * 4]? = some (.int .i64 s.age) ∧ xs[i * 4 + 1]? = some (.bool s.used) ∧ xs[i * 4 + 2]? = some (.int .i64 s.next) ∧
    xs[i * 4 + 3]? = some (.slice dA s.data.length dc) ∧ BytesAt w F dA dc s.data

structure KlsAt (w : World) (F : Nat → Prop) (xs : List Value) (i : Nat) (k : Kls) (A : Option Addr) : Prop where
  size : xs[i * 4]? = some (.int .i64 k.size)
  count : xs[i * 4 + 1]? = some (.int .i64 k.count)
  live : xs[i * 4 + 3]? = some (.int .i64 k.live)
  slots : ∃ c, xs[i * 4 + 2]? = some (.slice A k.slots.length c) ∧ SlotsAt w F A k.slots.length c k.slots

/-- the arena struct's cells -/
def arnCells (CA : Option Addr) (n c : Nat) (free : List Int) (faults : Int) : Array Value := (Value.slice CA n c :: (free.map (Value.int .i64) ++ [.int .i64 faults])).toArray

structure ArenaIn (w : World) (F : Nat → Prop) (ab : Nat) (s : Arn) (CA : Option Addr) (cc : Nat) (xs : List Value) (sa : Nat → Option Addr) : Prop where
  here : Blk w ab 99 (arnCells CA s.kls.length cc s.free s.faults)
  foot : F ab ∧ ∀ x, CA = some x → F x.block
  free : s.free.length = 8
  own : Own w 104 4 CA s.kls.length cc xs
  kls : ∀ i k, s.kls[i]? = some k → KlsAt w F xs i k (sa i)
  apart : ∀ i j x y, i ≠ j → i < s.kls.length → j < s.kls.length → sa i = some x → sa j = some y → x.block ≠ y.block

/-- an arena in block ab; all its blocks are in F -/
def ArenaAt (w : World) (F : Nat → Prop) (ab : Nat) (s : Arn) : Prop := ∃ CA cc xs sa, ArenaIn w F ab s CA cc xs sa

theorem BytesAt.mono {w w1 : World} {F G : Nat → Prop} {Ts rs : List Nat} {A : Option Addr} {c : Nat} {bs : List Int} (h : BytesAt w F A c bs) (f : Fr (Mod w F Ts rs) w w1) (hu : 5 ∉ Ts) (hr : ∀ r ∈ rs, ¬ Tg w [5] r) (hG : ∀ i, i < w.heap.size → F i → G i) : BytesAt w1 G A c bs := by
  have hn : ∀ x, A = some x → ¬ Mod w F Ts rs x.block := fun x hx ⟨_, h2⟩ => by
    obtain ⟨_, T, cs, hb, hT⟩ := h.foot x hx
    simp only [List.mem_singleton] at hT
    subst hT
    exact h2.elim (Tg.not hb hu) fun hm => hr _ hm ⟨_, cs, hb, by simp⟩
  refine ⟨h.nil, h.row.frame f hn, fun x hx => ?_⟩
  obtain ⟨hF, T, cs, hb, hT⟩ := h.foot x hx
  exact ⟨hG _ (lt_of_blk hb) hF, T, cs, f.get hb (hn x hx), hT⟩

theorem SlotsAt.keep {w w1 : World} {F G : Nat → Prop} {S : Nat → Prop} {A : Option Addr} {n c : Nat} {l : List Slot} (h : SlotsAt w F A n c l) (f : Fr S w w1) (hA : ∀ x, A = some x → ¬ S x.block)
    (hd : ∀ i, F i → Tg w [5] i → ¬ S i) (hG : ∀ i, i < w.heap.size → F i → G i) : SlotsAt w1 G A n c l := by
  obtain ⟨xs, ho, hs⟩ := h.own
  refine ⟨h.len, fun x hx => hG _ (ho.lt x hx) (h.foot x hx), xs, ho.frame f hA, fun i s hi => ?_⟩
  obtain ⟨dA, dc, h1, h2, h3, h4, h5⟩ := hs i s hi
  have hn : ∀ x, dA = some x → ¬ S x.block := fun x hx => hd _ (h5.foot x hx).1 (h5.foot x hx).2
  refine ⟨dA, dc, h1, h2, h3, h4, h5.nil, h5.row.frame f hn, fun x hx => ?_⟩
  obtain ⟨hF, T, cs, hb, hT⟩ := h5.foot x hx
  exact ⟨hG _ (lt_of_blk hb) hF, T, cs, f.get hb (hn x hx), hT⟩

/-- an arena stays, where only other types, or what is not in F, are changed -/
theorem ArenaAt.keep {w w1 : World} {F G S : Nat → Prop} {ab : Nat} {s : Arn} (h : ArenaAt w F ab s) (f : Fr S w w1) (hS : ∀ i, F i → S i → ¬ Tg w (5 :: arTs) i) (hG : ∀ i, i < w.heap.size → F i → G i) : ArenaAt w1 G ab s := by
  obtain ⟨CA, cc, xs, sa, h⟩ := h
  have hab : ¬ S ab := fun hs => hS ab h.foot.1 hs ⟨_, _, h.here, by simp [arTs]⟩
  have hca : ∀ x, CA = some x → ¬ S x.block := fun x hx hs => by
    have ho := h.own
    subst hx
    obtain ⟨_, cur, hb⟩ := ho.blk
    exact hS _ (h.foot.2 x rfl) hs ⟨_, cur, hb, by simp [arTs]⟩
  refine ⟨CA, cc, xs, sa, f.get h.here hab, ⟨hG _ (lt_of_blk h.here) h.foot.1, fun x hx => hG _ (h.own.lt x hx) (h.foot.2 x hx)⟩, h.free, h.own.frame f hca, fun i k hi => ?_, h.apart⟩
  have hk := h.kls i k hi
  obtain ⟨c, h1, h2⟩ := hk.slots
  refine ⟨hk.size, hk.count, hk.live, c, h1, h2.keep f (fun x hx hs => ?_) (fun i hF ⟨T, cs, hb, hT⟩ hs => hS i hF hs ⟨T, cs, hb, by simp at hT; simp [hT]⟩) hG⟩
  obtain ⟨ys, ho, _⟩ := h2.own
  rw [hx] at ho
  obtain ⟨_, cur, hb⟩ := ho.blk
  exact hS _ (h2.foot x hx) hs ⟨_, cur, hb, by simp [arTs]⟩

theorem ArenaAt.ext {w w1 : World} {F : Nat → Prop} {ab : Nat} {s : Arn} (h : ArenaAt w F ab s) (f : Ext w w1) : ArenaAt w1 F ab s := h.keep f (fun _ _ h => h.elim) fun _ _ h => h

theorem ArenaAt.mono {w : World} {F G : Nat → Prop} {ab : Nat} {s : Arn} (h : ArenaAt w F ab s) (hG : ∀ i, i < w.heap.size → F i → G i) : ArenaAt w G ab s := h.keep (Fr.refl (fun _ => False) w) (fun _ _ h => h.elim) hG

theorem arena_check_ok {w : World} {A : Option Addr} {n c : Nat} {ls : List (Int × Int)} (h : ClsAt w A n ls) (hv : ClsOk ls) :
    Calls Tryz.prog 45 #[.slice A n c] w fun e w1 => Ext w w1 ∧ e = .returned (.int .i64 0) := by
  have hl := hv.len
  rw [h.len] at hl
  refine f45_vc (fun _ w' => Ext w w') (fun _ x w' => 0 ≤ x ∧ x ≤ n ∧ Ext w w') (fun _ x _ => (n - x).toNat) (fun _ w' => Ext w w')
    (fun g i b x w' => i = x ∧ 0 ≤ x ∧ x < n ∧ Ext w w' ∧ g = [((n : Int) - x).toNat] ∧ w.heap.size ≤ b ∧ ∃ hl : x.toNat < ls.length, Blk w' b 101 #[.int .i64 ls[x.toNat].1, .int .i64 ls[x.toNat].2]) ?_ ?_ ?_ ?_ ?_
  · intro w1 h1
    exact ⟨rfl, rfl, rfl, by omega, by omega, h1⟩
  · rintro x w2 m ⟨h0, h1, he⟩ hm
    refine CondQ.dec (fun hlt => ⟨by omega, ?_⟩) (fun _ => he)
    obtain ⟨a, rfl, hl2, hld⟩ := (h.ext he).loads (i := x.toNat) (by omega)
    have hsz := hv.size _ (List.getElem_mem hl2)
    have hct := hv.count _ (List.getElem_mem hl2)
    refine ⟨_, hld, fun b w7 hb7 hb f7 => ⟨rfl, StoreQ.of hb (by simp) (by simp [one]) fun w8 hb8 f8 s8 => ?_⟩⟩
    have hb8 : Blk w8 b 101 #[.int .i64 ls[x.toNat].1, .int .i64 ls[x.toNat].2] := hb8
    have he8 : Ext w w8 := (he.trans f7).then_ f8 fun i hi hj => by have := he.size; omega
    refine ⟨_, hb8.cell rfl, CondQ.decF (by omega) ⟨_, hb8.cell rfl, CondQ.decF (by omega) ⟨_, hb8.cell rfl, CondQ.decF (by omega) ⟨_, hb8.cell rfl, CondQ.decF (by omega) ⟨rfl, rfl, rfl, rfl, h0, by omega, he8, by rw [hm], ?_, hl2, hb8⟩⟩⟩⟩⟩
    have := he.size; omega
  · intro w17 he
    exact ⟨he, rfl⟩
  · rintro m i b x w13 ⟨rfl, h0, h1, he, hm, hbn, hl2, hb⟩
    simp only [List.cons.injEq, and_true] at hm
    have hwr : IntKind.wrap .i64 (i + 1) = i + 1 := wrap_i64_id (by omega) (by omega)
    have hw1 : IntKind.wrap .i64 (i - 1) = i - 1 := wrap_i64_id (by omega) (by omega)
    refine CondQ.dec (fun hi => ?_) (fun hi => ⟨⟨rfl, rfl, rfl, by omega, by omega, he.dr⟩, by omega⟩)
    rw [hw1]
    refine ⟨by omega, ?_⟩
    obtain ⟨a, rfl, hl3, c1, c2⟩ := (h.ext he).cell (i := (i - 1).toNat) (by omega)
    refine ⟨_, hb.dcell rfl, _, c1, CondQ.decF ?_ ⟨⟨rfl, rfl, rfl, by omega, by omega, he.dr⟩, by omega⟩⟩
    have h3 := hv.asc (i - 1).toNat (by omega)
    have h4 : (i - 1).toNat + 1 = i.toNat := by omega
    simp only [h4] at h3
    omega
  · refine CondQ.no ?_ (CondQ.decF (by omega) ⟨rfl, Fr.refl _ _⟩)
    have : ((n : Nat) : Int) ≠ 0 := by omega
    simpa using this

end Go.Proofs.YtdaookipaknoeaaGreat
