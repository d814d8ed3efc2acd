/-
  Decks: heavykeysmade.Within, Next, Word, Table.
-/
import Derived.Test.YtdaookipaknoeaaGreatKit
import Derived.Test.YtdaookipaknoeaaGreatSegMade
namespace Go.Proofs.YtdaookipaknoeaaGreat
open Go
set_option linter.unusedVariables false

/-- block db is a deck of the numbers zs, which lie from A on -/
structure Deck (w : World) (db : Nat) (A : Option Addr) (zs : List Int) : Prop where
  here : ∃ (A' : Option Addr) (c : Nat) (k : Int), Blk w db 93 #[.slice A' zs.length c, .int .i64 k] ∧ (zs ≠ [] → A' = A) ∧ 0 ≤ k ∧ k ≤ zs.length
  row : Row w A (zs.map (Value.int .i64))
  apart : ∀ x, A = some x → x.block ≠ db
  fits : ∀ z ∈ zs, -9223372036854775808 ≤ z ∧ z < 9223372036854775808
  len : zs.length ≤ 9223372036854775807

theorem Deck.frame {S : Nat → Prop} {w w1 : World} {db : Nat} {A : Option Addr} {zs : List Int} (h : Deck w db A zs) (f : Fr S w w1) (hd : ¬ S db) (hA : ∀ x, A = some x → ¬ S x.block) : Deck w1 db A zs :=
  ⟨by obtain ⟨A', c, k, h1, h2⟩ := h.here; exact ⟨A', c, k, f.get h1 hd, h2⟩, h.row.frame f hA, h.apart, h.fits, h.len⟩

theorem Deck.drew {w : World} {db : Nat} {A : Option Addr} {zs : List Int} (h : Deck w db A zs) : Deck w.drew db A zs := ⟨h.here, h.row, h.apart, h.fits, h.len⟩

theorem Deck.lt {w : World} {db : Nat} {A : Option Addr} {zs : List Int} (h : Deck w db A zs) : db < w.heap.size := by obtain ⟨A', c, k, h1, _⟩ := h.here; exact h1.lt

theorem within_calls {w : World} {x n : Int} (h0 : 0 < n) (h1 : n ≤ 4611686018427387904) :
    Calls Tryz.prog 98 #[.int .i64 x, .int .i64 n] w fun e w1 => w1 = w ∧ ∃ r : Int, e = .returned (.int .i64 r) ∧ 0 ≤ r ∧ r < n := by
  have hl := Int.lt_tmod_of_pos x h0
  have hu := Int.tmod_lt_of_pos x h0
  have hw : IntKind.wrap .i64 (Int.tmod x n + n) = Int.tmod x n + n := wrap_i64_id (by omega) (by omega)
  refine f98_vc ⟨by omega, by omega, rfl, _, rfl, ?_, ?_⟩
  · rw [hw]; exact Int.tmod_nonneg _ (by omega)
  · exact Int.tmod_lt_of_pos _ h0

theorem next_calls {w : World} {db : Nat} {A : Option Addr} {zs : List Int} {n : Int} (h : Deck w db A zs) (h0 : 0 < n) (h1 : n ≤ 4611686018427387904) :
    Calls Tryz.prog 52 #[.pointer (some ⟨db, 0, none⟩), .int .i64 n] w fun e w1 => Deck w1 db A zs ∧ Fr (fun i => i = db) w w1 ∧ w1.heap.size = w.heap.size ∧
      ∃ r : Int, e = .returned (.int .i64 r) ∧ 0 ≤ r ∧ r < n ∧ (zs = [] → r = 0) := by
  obtain ⟨A', c, k, hb, hAA, hk0, hk1⟩ := h.here
  have hlen := h.len
  refine f52_vc ⟨_, hb.dcell rfl, _, _, _, hb.dcell rfl, CondQ.dec (fun hge => ?_) (fun hlt => ?_)⟩
  · exact ⟨h.drew, Fr.drew _ w, rfl, 0, rfl, by omega, by omega, fun _ => rfl⟩
  · have hw1 : IntKind.wrap .i64 (k + 1) = k + 1 := wrap_i64_id (by omega) (by omega)
    have hw2 : IntKind.wrap .i64 (k + 1 - 1) = k := by rw [show k + 1 - 1 = k by omega]; exact wrap_i64_id (by omega) (by omega)
    refine ⟨_, hb.dcell rfl, StoreQ.of1 (T := 93) hb (by simp) rfl fun w4 hb4 f4 s4 => ?_⟩
    rw [hw1] at hb4
    have hb4 : Blk w4 db 93 #[.slice A' zs.length c, .int .i64 (k + 1)] := hb4
    have f4 : Fr (fun i => i = db) w w4 := f4.dl
    have hrow : Row w4 A (zs.map (Value.int .i64)) := h.row.frame f4 fun x hx => h.apart x hx
    have hd4 : Deck w4 db A zs := ⟨⟨A', c, k + 1, hb4, hAA, by omega, by omega⟩, hrow, h.apart, h.fits, h.len⟩
    have hkl : k.toNat < zs.length := by omega
    obtain ⟨x, hx, hc⟩ := hrow k.toNat (.int .i64 zs[k.toNat]) (by simp [hkl])
    have hA' : A' = some x := (hAA (fun hz => by subst hz; simp at hkl)).trans hx
    subst hA'
    refine ⟨_, _, _, hb4.dcell rfl, _, hb4.dcell rfl, by rw [hw2]; omega, zs[k.toNat], ?_, ?_⟩
    · rw [hw2, Nat.mul_one]; exact hc
    · refine (within_calls h0 h1).mono ?_
      rintro e w5 ⟨rfl, r, rfl, hr0, hr1⟩
      exact ⟨r, rfl, hd4.drew, f4.dr, s4, r, rfl, hr0, hr1, fun hz => by subst hz; simp at hkl⟩

theorem word_calls {w : World} {db : Nat} {A : Option Addr} {zs : List Int} (h : Deck w db A zs) :
    Calls Tryz.prog 74 #[.pointer (some ⟨db, 0, none⟩)] w fun e w1 => Deck w1 db A zs ∧ Fr (fun i => i = db) w w1 ∧ w1.heap.size = w.heap.size ∧
      ∃ r : Int, e = .returned (.int .u64 r) ∧ 0 ≤ r ∧ r < 18446744073709551616 := by
  refine f74_vc ((next_calls h (by omega) (by omega)).mono ?_)
  rintro e w1 ⟨h1, f1, s1, r, rfl, -⟩
  refine ⟨r, rfl, by omega, (next_calls h1 (by omega) (by omega)).mono ?_⟩
  rintro e w2 ⟨h2, f2, s2, r2, rfl, -⟩
  refine ⟨r2, rfl, h2, f1.trans f2, s2.trans s1, _, rfl, ?_, ?_⟩
  · simp only [IntKind.wrap, IntKind.bits, IntKind.signed]; simp; omega
  · simp only [IntKind.wrap, IntKind.bits, IntKind.signed]; simp; omega

/-- block b holds words -/
def Words (w : World) (b : Nat) (n : Nat) : Prop := ∃ cs : Array Value, Blk w b 26 cs ∧ cs.size = n ∧ ∀ (i : Nat) (v : Value), cs[i]? = some v → ∃ x : Int, v = Value.int .u64 x ∧ 0 ≤ x ∧ x < 18446744073709551616

theorem Words.frame {S : Nat → Prop} {w w1 : World} {b n : Nat} (h : Words w b n) (f : Fr S w w1) (hn : ¬ S b) : Words w1 b n := by
  obtain ⟨cs, h1, h2⟩ := h; exact ⟨cs, f.get h1 hn, h2⟩

theorem makes_words : makes Tryz.prog 28 26 (.int .u64 0) 1 8 := .of (by kernel_rfl) (by kernel_rfl)

theorem table_calls {w : World} {db : Nat} {A : Option Addr} {zs : List Int} (h : Deck w db A zs) (hA : ∀ x, A = some x → x.block < w.heap.size) :
    Calls Tryz.prog 73 #[.pointer (some ⟨db, 0, none⟩)] w fun e w1 => Deck w1 db A zs ∧ Fr (fun i => i = db) w w1 ∧
      ∃ b, e = .returned (.slice (some ⟨b, 0, none⟩) 16 16) ∧ w.heap.size ≤ b ∧ Words w1 b 16 := by
  obtain ⟨w1, hr, hb, f1⟩ := make_slice (w := w) makes_words (n := 16) (c := 16) (by omega) (by omega) (by decide) (by omega)
  have hd := h.lt
  refine f73_vc
    (fun _ B n c _ x y w' => B = some ⟨w.heap.size, 0, none⟩ ∧ n = 16 ∧ c = 16 ∧ x = 16 ∧ 0 ≤ y ∧ y ≤ 16 ∧ Deck w' db A zs ∧ Words w' w.heap.size 16 ∧ Fr (fun i => i = db) w w')
    (fun _ _ _ _ _ _ y _ => (16 - y).toNat)
    (fun _ B n c w' => B = some ⟨w.heap.size, 0, none⟩ ∧ n = 16 ∧ c = 16 ∧ Deck w' db A zs ∧ Words w' w.heap.size 16 ∧ Fr (fun i => i = db) w w') ?_ ?_ ?_
  · rintro B n c same x y w6 m ⟨rfl, rfl, rfl, rfl, hy0, hy1, hdk, hwd, hf⟩ hm
    have hwr (hlt : y < 16) : IntKind.wrap .i64 (y + 1) = y + 1 := wrap_i64_id (by omega) (by omega)
    refine CondQ.dec (fun hlt => CondQ.mk (fun _ => ?_) (fun _ => ?_)) (fun hlt => ⟨rfl, rfl, rfl, hdk, hwd, hf⟩)
    · refine (word_calls hdk).mono ?_
      rintro e w9 ⟨hd9, f9, s9, r, rfl, hr0, hr1⟩
      obtain ⟨cs, hcs, hsz, hall⟩ := hwd.frame f9 (by omega)
      refine ⟨r, rfl, by omega, ?_⟩
      rw [Nat.mul_one]
      show StoreQ w9 (Addr.add ⟨w.heap.size, 0, none⟩ y.toNat) _ _
      rw [Addr.add_mk, Nat.zero_add]
      refine StoreQ.of1 hcs (by omega) rfl fun w12 hb12 f12 s12 => ?_
      have hA' : ∀ x, A = some x → ¬ x.block = w.heap.size := fun x hx => by have := hA x hx; omega
      rw [hwr hlt]
      refine ⟨⟨rfl, rfl, rfl, rfl, rfl, by omega, by omega, hd9.frame f12 (by omega) hA', ⟨_, hb12, by simpa using hsz, ?_⟩, ?_⟩, by omega⟩
      · intro i v hv
        rw [Array.getElem?_setIfInBounds] at hv
        split at hv
        · split at hv
          · obtain rfl := Option.some.inj hv; exact ⟨r, rfl, hr0, hr1⟩
          · cases hv
        · exact hall i v hv
      · exact (hf.trans f9).then_ f12 fun i hi he => by omega
    · rw [hwr hlt]
      exact ⟨⟨rfl, rfl, rfl, rfl, rfl, by omega, by omega, hdk, hwd, hf⟩, by omega⟩
  · rintro B n c w13 ⟨rfl, rfl, rfl, hdk, hwd, hf⟩
    exact ⟨hdk, hf, _, rfl, Nat.le_refl _, hwd⟩
  · refine ⟨_, _, _, w1, hr, (next_calls (h.frame f1 id fun _ _ => id) (by omega) (by omega)).mono ?_⟩
    rintro e w4 ⟨hd4, f4, s4, r, rfl, -⟩
    refine ⟨r, rfl, rfl, rfl, rfl, rfl, rfl, by omega, by omega, hd4, ?_, (f1.ext _).trans f4⟩
    have hb := f4.get hb (by omega)
    rw [show (Value.int .u64 0).cells = #[Value.int .u64 0] from rfl, madeCells_one] at hb
    refine ⟨_, hb, by simp, fun i v hv => ⟨0, ?_, by omega, by omega⟩⟩
    rw [Array.getElem?_replicate] at hv
    split at hv
    · exact (Option.some.inj hv).symm
    · cases hv

end Go.Proofs.YtdaookipaknoeaaGreat
