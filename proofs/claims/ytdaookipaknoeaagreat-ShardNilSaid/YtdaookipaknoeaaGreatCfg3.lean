/-
  Deck.Config.
-/
import Derived.Test.YtdaookipaknoeaaGreatCfg2
namespace Go.Proofs.YtdaookipaknoeaaGreat
open Go
set_option linter.unusedVariables false

theorem ClsAt.store {w : World} {b : Nat} {ls : List (Int × Int)} {C : World → Prop} (h : Blk w b 101 (clsCells ls).toArray) {i : Nat} (hi : i < ls.length) (v : Int)
    (H : ∀ w1, Blk w1 b 101 (clsCells (ls.set i (ls[i].1, v))).toArray → Fr (fun k => k = b) w w1 → w1.heap.size = w.heap.size → C w1) : StoreQ w (Addr.add (Addr.add ⟨b, 0, none⟩ (i * 2)) 1) [.int .i64 v] C := by
  have hlen : ∀ ls : List (Int × Int), (clsCells ls).length = 2 * ls.length := fun ls => by
    unfold clsCells
    induction ls with
    | nil => rfl
    | cons p ls ih => simp [ih]; omega
  rw [Addr.add_mk, Addr.add_mk]
  refine StoreQ.of1 h (by simp [hlen]; omega) rfl fun w1 hb f s => H w1 ?_ f s
  have key : ∀ (ls : List (Int × Int)) (i : Nat) (hi : i < ls.length), (clsCells ls).set (i * 2 + 1) (.int .i64 v) = clsCells (ls.set i (ls[i].1, v)) := by
    intro ls
    induction ls with
    | nil => intro i hi; simp at hi
    | cons p ls ih =>
      intro i hi
      cases i with
      | zero => rfl
      | succ i =>
        rw [show (i + 1) * 2 + 1 = (i * 2 + 1) + 2 by omega]
        have := ih i (by simpa using hi)
        simpa [clsCells] using this
  rw [← key ls i hi]
  have e : (clsCells ls).toArray.setIfInBounds (0 + i * 2 + 1) (.int .i64 v) = ((clsCells ls).set (i * 2 + 1) (.int .i64 v)).toArray := by simp
  rw [← e]
  exact hb

theorem ClsAt.of_blk {w : World} {b n : Nat} {ls : List (Int × Int)} (h : Blk w b 101 (clsCells ls).toArray) (hn : ls.length = n) : ClsAt w (some ⟨b, 0, none⟩) n ls :=
  ⟨fun i v hv => ⟨_, rfl, by rw [Addr.add_mk, cell_blk h]; simpa using hv⟩, hn⟩

/-- the state of the making of a configuration -/
structure Conf (w w' : World) (db : Nat) (A : Option Addr) (zs : List Int) (xb cb tb : Nat) (c : Cfg) : Prop where
  deck : Deck w' db A zs
  fr : Fr (fun i => i = db) w w'
  old : db < w.heap.size ∧ ∀ x, A = some x → x.block < w.heap.size
  x : ∃ cs : Array Value, Blk w' xb 30 cs ∧ cs.size = 17
  here : Blk w' cb 30 c.cells
  words : Words w' tb 16
  new : w.heap.size ≤ xb ∧ w.heap.size ≤ cb ∧ w.heap.size ≤ tb
  apart : xb ≠ cb ∧ xb ≠ tb ∧ cb ≠ tb
  table : c.ta = some ⟨tb, 0, none⟩ ∧ c.tn = 16 ∧ c.tc = 16

theorem Conf.next {w w1 w2 : World} {db : Nat} {A : Option Addr} {zs : List Int} {xb cb tb : Nat} {c : Cfg} (h : Conf w w1 db A zs xb cb tb c) (hd : Deck w2 db A zs) (f : Fr (fun i => i = db) w1 w2) : Conf w w2 db A zs xb cb tb c := by
  have hn := h.new; have ho := h.old
  obtain ⟨cs, h1, h2⟩ := h.x
  exact ⟨hd, h.fr.trans f, h.old, ⟨cs, f.get h1 (by omega), h2⟩, f.get h.here (by omega), h.words.frame f (by omega), h.new, h.apart, h.table⟩

theorem Conf.ext {w w1 w2 : World} {db : Nat} {A : Option Addr} {zs : List Int} {xb cb tb : Nat} {c : Cfg} (h : Conf w w1 db A zs xb cb tb c) (f : Ext w1 w2) : Conf w w2 db A zs xb cb tb c :=
  h.next (h.deck.frame f id fun _ _ => id) (f.ext _)

theorem Conf.store {w w1 w2 : World} {db : Nat} {A : Option Addr} {zs : List Int} {xb cb tb : Nat} {c c' : Cfg} (h : Conf w w1 db A zs xb cb tb c) (f : Fr (fun i => i = cb) w1 w2) (hb : Blk w2 cb 30 c'.cells)
    (ht : c'.ta = c.ta ∧ c'.tn = c.tn ∧ c'.tc = c.tc) : Conf w w2 db A zs xb cb tb c' := by
  have hn := h.new; have ha := h.apart; have ho := h.old
  obtain ⟨cs, h1, h2⟩ := h.x
  refine ⟨h.deck.frame f (by omega) (fun x hx => by have := ho.2 x hx; omega), h.fr.then_ f (fun i hi hj => by omega), h.old, ⟨cs, f.get h1 (by omega), h2⟩, hb, h.words.frame f (by omega), h.new, h.apart, ?_⟩
  rw [ht.1, ht.2.1, ht.2.2]
  exact h.table

theorem Conf.other {w w1 w2 : World} {db : Nat} {A : Option Addr} {zs : List Int} {xb cb tb k : Nat} {c : Cfg} (h : Conf w w1 db A zs xb cb tb c) (f : Fr (fun i => i = k) w1 w2) (hk : w.heap.size ≤ k ∧ k ≠ xb ∧ k ≠ cb ∧ k ≠ tb) : Conf w w2 db A zs xb cb tb c := by
  have hn := h.new; have ha := h.apart; have ho := h.old
  obtain ⟨cs, h1, h2⟩ := h.x
  exact ⟨h.deck.frame f (by omega) (fun x hx => by have := ho.2 x hx; omega), h.fr.then_ f (fun i hi hj => by omega), h.old, ⟨cs, f.get h1 (by omega), h2⟩, f.get h.here (by omega), h.words.frame f (by omega), h.new, h.apart, h.table⟩

/-- the classes that a deck's configuration has -/
def sizes5 : List (Int × Int) := [(8, 0), (24, 0), (32, 0), (80, 0), (256, 0)]
def sizes1 : List (Int × Int) := [(256, 0)]

theorem sizes_fit {c : Cfg} {ls : List (Int × Int)} (h : c.Ok) (hk : c.key ≤ 255) (hw : c.width ≤ 32) (hl : ls = sizes5 ∨ ls = sizes1) : ClsFit c ls := by
  rcases hl with rfl | rfl
  · refine ⟨⟨by decide, by decide, by decide, ?_⟩, ?_⟩
    · intro i hi
      have : i < 4 := by simp [sizes5] at hi; omega
      match i, this with
      | 0, _ => simp [sizes5]
      | 1, _ => simp [sizes5]
      | 2, _ => simp [sizes5]
      | 3, _ => simp [sizes5]
    · intro p hp
      simp only [sizes5, List.getLast?_cons_cons, List.getLast?_singleton, Option.some.injEq] at hp
      subst hp
      simp only; omega
  · refine ⟨⟨by decide, by decide, by decide, ?_⟩, ?_⟩
    · intro i hi
      simp [sizes1] at hi
    · intro p hp
      simp only [sizes1, List.getLast?_singleton, Option.some.injEq] at hp
      subst hp
      simp only; omega

/-- what Deck.Config gives -/
structure ConfOut (w w1 : World) (c : Cfg) : Prop where
  ok : c.Ok
  narrow : c.width ≤ 32
  base : ∃ ls0 ls, (ls0 = sizes5 ∨ ls0 = sizes1) ∧ ls0.length = c.cn ∧ ClsAt w1 c.ca c.cn ls ∧ ls.map (·.1) = ls0.map (·.1) ∧ ls.map (·.2) = c.demand ls0
  newc : ∃ b, c.ca = some ⟨b, 0, none⟩ ∧ w.heap.size ≤ b
  table : ∃ b, c.ta = some ⟨b, 0, none⟩ ∧ w.heap.size ≤ b ∧ Words w1 b 16

set_option maxHeartbeats 1000000 in
theorem made_config {w : World} {db : Nat} {A : Option Addr} {zs : List Int} (h : Deck w db A zs) (hA : ∀ x, A = some x → x.block < w.heap.size) :
    Calls Tryz.prog 27 #[.pointer (some ⟨db, 0, none⟩)] w fun e w1 => Deck w1 db A zs ∧ Fr (fun i => i = db) w w1 ∧ ∃ c : Cfg, e = .returned (.agg c.cells) ∧ ConfOut w w1 c := by
  have hdb := h.lt
  refine f27_vc
    (fun _ xb cb w' => ∃ tb c, Conf w w' db A zs xb cb tb c ∧ c.Ok ∧ c.width ≤ 32 ∧ c.key = 255)
    (fun _ xb cb w' => ∃ tb c, Conf w w' db A zs xb cb tb c ∧ c.Ok ∧ c.width ≤ 32)
    (fun _ xb cb w' => ∃ tb c kb ls, Conf w w' db A zs xb cb tb c ∧ c.Ok ∧ c.width ≤ 32 ∧ c.ca = some ⟨kb, 0, none⟩ ∧ w.heap.size ≤ kb ∧ kb ≠ xb ∧ kb ≠ cb ∧ kb ≠ tb ∧ Blk w' kb 101 (clsCells ls).toArray ∧ (ls = sizes5 ∨ ls = sizes1) ∧ ls.length = c.cn)
    (fun _ xb cb B n cp x y w' => ∃ tb c kb ob ls0 ls, Conf w w' db A zs xb cb tb c ∧ c.Ok ∧ c.width ≤ 32 ∧ c.ca = some ⟨kb, 0, none⟩ ∧ w.heap.size ≤ kb ∧ kb ≠ xb ∧ kb ≠ cb ∧ kb ≠ tb ∧ Blk w' kb 101 (clsCells ls).toArray ∧ (ls0 = sizes5 ∨ ls0 = sizes1) ∧ ls0.length = c.cn ∧
      ls.map (·.1) = ls0.map (·.1) ∧ B = some ⟨ob, 0, none⟩ ∧ n = c.cn ∧ x = c.cn ∧ ob ≠ kb ∧ IntsAt w' ob (c.demand ls0) ∧ (c.demand ls0).length = c.cn ∧ 0 ≤ y ∧ y ≤ x ∧ ∀ j, j < y.toNat → (ls.map (·.2))[j]? = (c.demand ls0)[j]?)
    (fun _ _ _ _ _ _ x y _ => (x - y).toNat)
    (fun _ xb cb w' => ∃ tb c kb ls0 ls, Conf w w' db A zs xb cb tb c ∧ c.Ok ∧ c.width ≤ 32 ∧ c.ca = some ⟨kb, 0, none⟩ ∧ w.heap.size ≤ kb ∧ kb ≠ xb ∧ kb ≠ cb ∧ kb ≠ tb ∧ Blk w' kb 101 (clsCells ls).toArray ∧ (ls0 = sizes5 ∨ ls0 = sizes1) ∧ ls0.length = c.cn ∧
      ls.map (·.1) = ls0.map (·.1) ∧ ls.map (·.2) = c.demand ls0)
    ?_ ?_ ?_ ?_ ?_ ?_
  · -- the key
    rintro xb cb w57 ⟨tb, c, hc, hok, hw, hk⟩
    refine (next_calls hc.deck (by omega) (by omega)).mono ?_
    rintro e w59 ⟨hd, f, s, r, rfl, r0, r1, -⟩
    have hc59 := hc.next hd f
    refine ⟨r, rfl, CondQ.mk (fun _ => ?_) (fun _ => ⟨rfl, tb, c, hc59, hok, hw⟩)⟩
    refine (next_calls hd (by omega) (by omega)).mono ?_
    rintro e w62 ⟨hd62, f62, s62, q, rfl, q0, q1, -⟩
    have hc62 := hc59.next hd62 f62
    refine ⟨q, rfl, StoreQ.of1 hc62.here (by simp [Cfg.cells]) rfl fun w64 hb64 f64 s64 => ?_⟩
    rw [wrap_i64_id (by omega) (by omega)] at hb64
    refine ⟨rfl, tb, { c with key := 5 + q }, hc62.store f64 hb64 ⟨rfl, rfl, rfl⟩, ⟨hok.1, hok.2, hok.3, hok.4, hok.5, hok.6, hok.7, hok.8, hok.9, hok.10, hok.11, hok.12, hok.13, by simp only; omega, hok.15, hok.16⟩, hw⟩
  · -- the classes
    rintro xb cb w65 ⟨tb, c, hc, hok, hw⟩
    have hn := hc.new
    refine ⟨rfl, rfl, rfl, rfl, rfl, fun kb w67 hk hkb f67 => ?_⟩
    have hc67 := hc.ext f67
    have hkn : kb ≠ xb ∧ kb ≠ cb ∧ kb ≠ tb := by
      obtain ⟨cs, h1, _⟩ := hc.x
      have a1 := lt_of_blk h1; have a2 := lt_of_blk hc.here
      obtain ⟨cs2, h2, _⟩ := hc.words
      have a3 := lt_of_blk h2
      omega
    have hfr := hc.fr.size
    refine StoreQ.of1 hc67.here (by simp [Cfg.cells]) rfl fun w68 hb68 f68 s68 => ?_
    have hc68 := hc67.store (c' := { c with ca := some ⟨kb, 0, none⟩, cn := 5, cc := 5 }) f68 hb68 ⟨rfl, rfl, rfl⟩
    have hok68 : ({ c with ca := some ⟨kb, 0, none⟩, cn := 5, cc := 5 } : Cfg).Ok := ⟨hok.1, hok.2, hok.3, hok.4, hok.5, hok.6, hok.7, hok.8, hok.9, hok.10, hok.11, hok.12, hok.13, hok.14, hok.15, hok.16⟩
    have hkb68 := f68.get hkb (by omega)
    refine (next_calls hc68.deck (by omega) (by omega)).mono ?_
    rintro e w70 ⟨hd, f, s, r, rfl, r0, r1, -⟩
    have hc70 := hc68.next hd f
    have hkb70 := f.get hkb68 (by omega)
    refine ⟨r, rfl, CondQ.mk (fun _ => ⟨rfl, fun kb2 w73 hk2 hkb2 f73 => ?_⟩) (fun _ => ⟨tb, _, kb, sizes5, hc70, hok68, hw, rfl, by omega, hkn.1, hkn.2.1, hkn.2.2, hkb70, .inl rfl, rfl⟩)⟩
    have hc73 := hc70.ext f73
    have hkn2 : kb2 ≠ xb ∧ kb2 ≠ cb ∧ kb2 ≠ tb := by
      obtain ⟨cs, h1, _⟩ := hc70.x
      have a1 := lt_of_blk h1; have a2 := lt_of_blk hc70.here
      obtain ⟨cs2, h2, _⟩ := hc70.words
      have a3 := lt_of_blk h2
      omega
    have hfr2 := hc70.fr.size
    refine StoreQ.of1 hc73.here (by simp [Cfg.cells]) rfl fun w74 hb74 f74 s74 => ?_
    have hc74 := hc73.store (c' := { c with ca := some ⟨kb2, 0, none⟩, cn := 1, cc := 1 }) f74 hb74 ⟨rfl, rfl, rfl⟩
    have hok74 : ({ c with ca := some ⟨kb2, 0, none⟩, cn := 1, cc := 1 } : Cfg).Ok := ⟨hok.1, hok.2, hok.3, hok.4, hok.5, hok.6, hok.7, hok.8, hok.9, hok.10, hok.11, hok.12, hok.13, hok.14, hok.15, hok.16⟩
    exact ⟨tb, _, kb2, sizes1, hc74, hok74, hw, rfl, by omega, hkn2.1, hkn2.2.1, hkn2.2.2, f74.get hkb2 (by omega), .inr rfl, rfl⟩
  · -- the demand
    rintro xb cb w75 ⟨tb, c, kb, ls, hc, hok, hw, hca, hkn, hk1, hk2, hk3, hkb, hls, hln⟩
    have hat : ClsAt w75 c.ca c.cn ls := by rw [hca]; exact .of_blk hkb hln
    have hk255 := hok.key
    refine ⟨_, hc.here.loads0 rfl, (demand_ok hok hat (sizes_fit hok hk255.2 hw hls)).mono ?_⟩
    rintro e w78 ⟨f78, ob, rfl, hob, hio, hdl⟩
    have hfr := hc.fr.size
    have hkl := lt_of_blk hkb
    exact ⟨_, _, _, _, rfl, tb, c, kb, ob, ls, ls, hc.ext f78, hok, hw, hca, hkn, hk1, hk2, hk3, f78.get hkb id, hls, hln, rfl, rfl, rfl, rfl, by omega, hio, hdl, by omega, by omega, fun j hj => by omega⟩
  · -- the counts
    rintro xb cb B n cp x y w81 m ⟨tb, c, kb, ob, ls0, ls, hc, hok, hw, hca, hkn, hk1, hk2, hk3, hkb, hls, hln, hsz, rfl, rfl, rfl, hok2, hio, hdl, hy0, hy1, hall⟩ hm
    have hll : ls.length = ls0.length := by have := congrArg List.length hsz; simpa using this
    refine CondQ.dec (fun hlt => ⟨by omega, ?_⟩) (fun hge => ⟨tb, c, kb, ls0, ls, hc, hok, hw, hca, hkn, hk1, hk2, hk3, hkb, hls, hln, hsz, ?_⟩)
    · have hyl : y.toNat < (c.demand ls0).length := by omega
      have hyl2 : y.toNat < ls.length := by omega
      have hcn : c.cn ≤ 8 := by rw [← hln]; rcases hls with rfl | rfl <;> decide
      refine ⟨_, _, _, hc.here.dcell rfl, _, hio.cell hyl, by omega, ?_⟩
      rw [hca]
      refine ClsAt.store (w := w81.drew) hkb hyl2 _ fun w87 hb87 f87 s87 => ?_
      have f87 : Fr (fun i => i = kb) w81 w87 := f87.dl
      have hwr : IntKind.wrap .i64 (y + 1) = y + 1 := wrap_i64_id (by omega) (by omega)
      rw [hwr]
      refine ⟨⟨tb, c, kb, ob, ls0, _, hc.other f87 ⟨hkn, hk1, hk2, hk3⟩, hok, hw, hca, hkn, hk1, hk2, hk3, hb87, hls, hln, ?_, rfl, rfl, rfl, hok2, hio.frame f87 hok2, hdl, by omega, by omega, ?_⟩, by omega⟩
      · rw [List.map_set, ← hsz]
        apply List.ext_getElem
        · simp
        · intro j h1 h2
          simp only [List.getElem_set]
          split
          · rename_i hj; subst hj; simp
          · rfl
      · intro j hj
        rw [List.map_set, List.getElem?_set]
        by_cases hjy : y.toNat = j
        · subst hjy
          simp [hyl2, List.getElem?_eq_getElem hyl]
        · rw [if_neg hjy]
          exact hall j (by omega)
    · apply List.ext_getElem?
      intro j
      by_cases hj : j < y.toNat
      · exact hall j hj
      · rw [List.getElem?_eq_none (by simp; omega), List.getElem?_eq_none (by omega)]
  · -- the end
    rintro xb cb w88 ⟨tb, c, kb, ls0, ls, hc, hok, hw, hca, hkn, hk1, hk2, hk3, hkb, hls, hln, hsz, hct⟩
    obtain ⟨cs, hx, hxs⟩ := hc.x
    have hll : ls.length = ls0.length := by have := congrArg List.length hsz; simpa using this
    refine ⟨_, hc.here.loads0 rfl, rfl, StoreQ.of hx (by rw [hxs]; simp [Cfg.cells]) (by simp [Cfg.cells, one]) fun w90 hb90 f90 s90 => ?_⟩
    have hn := hc.new; have ha := hc.apart; have ho := hc.old
    have hset : setL cs 0 c.cells.toList = c.cells := by
      exact setL_all (by rw [hxs]; rfl)
    rw [hset] at hb90
    refine ⟨_, hb90.loads0 rfl, hc.deck.frame f90 (by omega) (fun x hx => by have := ho.2 x hx; omega), hc.fr.then_ f90 (fun i hi hj => by omega), c, rfl, hok, hw, ⟨ls0, ls, hls, hln, ?_, hsz, hct⟩, ⟨kb, hca, hkn⟩, ⟨tb, hc.table.1, hn.2.2, hc.words.frame f90 (by omega)⟩⟩
    rw [hca]
    exact (ClsAt.of_blk hkb (hll.trans hln)).frame f90 (fun x hx => by cases hx; omega)
  · -- the numbers
    intro xb w2 hxn hxb f2
    have hd2 := h.frame f2 id fun _ _ => id
    refine (next_calls hd2 (by omega) (by omega)).mono ?_
    rintro e w4 ⟨hd4, f4, s4, n5, rfl, a1, a2, -⟩
    refine ⟨_, rfl, (next_calls hd4 (by omega) (by omega)).mono ?_⟩
    rintro e w7 ⟨hd7, f7, s7, n8, rfl, b1, b2, -⟩
    refine ⟨_, rfl, (next_calls hd7 (by omega) (by omega)).mono ?_⟩
    rintro e w10 ⟨hd10, f10, s10, n11, rfl, c1, c2, -⟩
    refine ⟨_, rfl, (next_calls hd10 (by omega) (by omega)).mono ?_⟩
    rintro e w13 ⟨hd13, f13, s13, n14, rfl, d1, d2, -⟩
    refine ⟨_, rfl, (next_calls hd13 (by omega) (by omega)).mono ?_⟩
    rintro e w16 ⟨hd16, f16, s16, n17, rfl, e1, e2, -⟩
    refine ⟨_, rfl, (next_calls hd16 (by omega) (by omega)).mono ?_⟩
    rintro e w19 ⟨hd19, f19, s19, n20, rfl, g1, g2, -⟩
    refine ⟨_, rfl, (next_calls hd19 (by omega) (by omega)).mono ?_⟩
    rintro e w22 ⟨hd22, f22, s22, n23, rfl, h1, h2, -⟩
    refine ⟨_, rfl, (next_calls hd22 (by omega) (by omega)).mono ?_⟩
    rintro e w25 ⟨hd25, f25, s25, n26, rfl, i1, i2, -⟩
    refine ⟨_, rfl, (next_calls hd25 (by omega) (by omega)).mono ?_⟩
    rintro e w28 ⟨hd28, f28, s28, n29, rfl, j1, j2, -⟩
    refine ⟨_, rfl, (next_calls hd28 (by omega) (by omega)).mono ?_⟩
    rintro e w31 ⟨hd31, f31, s31, n32, rfl, k1, k2, -⟩
    refine ⟨_, rfl, (next_calls hd31 (by omega) (by omega)).mono ?_⟩
    rintro e w34 ⟨hd34, f34, s34, n35, rfl, l1, l2, -⟩
    refine ⟨_, rfl, (next_calls hd34 (by omega) (by omega)).mono ?_⟩
    rintro e w37 ⟨hd37, f37, s37, n38, rfl, m1, m2, -⟩
    have f237 : Fr (fun i => i = db) w2 w37 := ((((((((((f4.trans f7).trans f10).trans f13).trans f16).trans f19).trans f22).trans f25).trans f28).trans f31).trans f34).trans f37
    have hsz2 := f2.size
    have hsz37 := f237.size
    have hxl := lt_of_blk hxb
    refine ⟨_, rfl, (table_calls hd37 (fun x hx => by have := hA x hx; omega)).mono ?_⟩
    rintro e w40 ⟨hd40, f40, tb, rfl, htn, hwt⟩
    refine ⟨_, _, _, rfl, (word_calls hd40).mono ?_⟩
    rintro e w43 ⟨hd43, f43, s43, n44, rfl, o1, o2⟩
    have hsz43 := (f40.trans f43).size
    have htl : tb < w40.heap.size := by obtain ⟨_, ht, _⟩ := hwt; exact lt_of_blk ht
    have hsz40 := f43.size
    refine ⟨_, rfl, fun cb w46 hcn hcb f46 => ⟨rfl, StoreQ.of hcb (by simp) rfl fun w47 hb47 f47 s47 => ?_⟩⟩
    rw [setL_list (by rfl)] at hb47
    have hx47 := f47.get (f46.get (f43.get (f40.get (f237.get hxb (by omega)) (by omega)) (by omega)) id) (by omega)
    have hw47 := ((hwt.frame f43 (by omega)).frame f46 id).frame f47 (by omega)
    have hd47 := (hd43.frame f46 id fun _ _ => id).frame f47 (by omega) (fun x hx => by have := hA x hx; omega)
    have hf47 : Fr (fun i => i = db) w w47 := ((f2.ext _).trans ((f237.trans f40).trans f43)).then_ (f46.trans_ext f47) fun i hi hj => by omega
    have hcbn : w.heap.size ≤ cb := by omega
    have hne : xb ≠ cb ∧ xb ≠ tb ∧ tb ≠ cb := by omega
    have wr : ∀ {x B : Int}, 0 ≤ x → x < B → B ≤ 100 → IntKind.wrap .i64 (1 + x) = 1 + x := fun h1 h2 h3 => wrap_i64_id (by omega) (by omega)
    have wu : IntKind.wrap .u64 n29 = n29 := wrap_u64_id (by omega) (by omega)
    rw [wr a1 a2 (by omega), wr c1 c2 (by omega), wr d1 d2 (by omega), wr e1 e2 (by omega), wr g1 g2 (by omega), wr h1 h2 (by omega), wr k1 k2 (by omega), wr l1 l2 (by omega), wr m1 m2 (by omega), wu] at hb47
    obtain ⟨c, hcd⟩ : ∃ c : Cfg, c = { length := 1 + n5, lateness := n8, windows := 1 + n11, shards := 1 + n14, spread := 0, queue := 1 + n17, mode := 1 + n20, slots := 1 + n23, exact := n26, promote := n29, depth := 1 + n32, width := 1 + n35, top := 1 + n38, key := 255, ca := none, cn := 0, cc := 0, ta := some ⟨tb, 0, none⟩, tn := 16, tc := 16, seed := n44 } := ⟨_, rfl⟩
    have hb47 : Blk w47 cb 30 c.cells := by rw [hcd]; exact hb47
    have hc47 : Conf w w47 db A zs xb cb tb c := ⟨hd47, hf47, ⟨hdb, hA⟩, ⟨_, hx47, by simp⟩, hb47, hw47, ⟨hxn, hcbn, by omega⟩, ⟨hne.1, hne.2.1, fun h => hne.2.2 h.symm⟩, by rw [hcd]; exact ⟨rfl, rfl, rfl⟩⟩
    refine ⟨1 + n14, by rw [hcd] at hb47; exact hb47.cell rfl, (next_calls hd47 (by omega) (by omega)).mono ?_⟩
    rintro e w50 ⟨hd50, f50, s50, n51, rfl, p1, p2, -⟩
    have hc50 := hc47.next hd50 f50
    refine ⟨_, rfl, StoreQ.of1 hc50.here (by simp [Cfg.cells]) rfl fun w52 hb52 f52 s52 => ?_⟩
    rw [wr p1 p2 (by omega)] at hb52
    have hc52 := hc50.store (c' := { c with spread := 1 + n51 }) f52 hb52 ⟨rfl, rfl, rfl⟩
    have hok : ({ c with spread := 1 + n51 } : Cfg).Ok := by
      rw [hcd]
      exact ⟨by simp only; omega, by simp only; omega, by simp only; omega, by simp only; omega, by simp only; omega, by simp only; omega, by simp only; omega, by simp only; omega, by simp only; omega, by simp only; omega, by simp only; omega, by simp only; omega, by simp only; omega, by simp only; omega, rfl, ⟨o1, o2⟩⟩
    have hcw : ({ c with spread := 1 + n51 } : Cfg).width ≤ 32 := by rw [hcd]; simp only; omega
    have hck : ({ c with spread := 1 + n51 } : Cfg).key = 255 := by rw [hcd]
    refine (next_calls hc52.deck (by omega) (by omega)).mono ?_
    rintro e w54 ⟨hd54, f54, s54, n55, rfl, q1, q2, -⟩
    have hc54 := hc52.next hd54 f54
    refine ⟨_, rfl, CondQ.mk (fun _ => StoreQ.of1 hc54.here (by simp [Cfg.cells]) rfl fun w56 hb56 f56 s56 => ?_) (fun _ => ⟨rfl, tb, _, hc54, hok, hcw, hck⟩)⟩
    have hc56 := hc54.store (c' := { c with spread := 1 + n51, queue := 64 }) f56 hb56 ⟨rfl, rfl, rfl⟩
    exact ⟨rfl, tb, _, hc56, ⟨hok.1, hok.2, hok.3, hok.4, hok.5, by simp only; omega, hok.7, hok.8, hok.9, hok.10, hok.11, hok.12, hok.13, hok.14, hok.15, hok.16⟩, hcw, hck⟩

end Go.Proofs.YtdaookipaknoeaaGreat
