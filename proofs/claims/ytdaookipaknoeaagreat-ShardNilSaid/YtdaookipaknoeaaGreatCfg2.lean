/-
  ref25.Config, Tracked, Demand, and Deck.Config.
-/
import Derived.Test.YtdaookipaknoeaaGreatCfg
namespace Go.Proofs.YtdaookipaknoeaaGreat
open Go
set_option linter.unusedVariables false

/-- block b holds these integers -/
def IntsAt (w : World) (b : Nat) (xs : List Int) : Prop := Blk w b 3 (xs.map (Value.int .i64)).toArray

theorem IntsAt.frame {S : Nat → Prop} {w w1 : World} {b : Nat} {xs : List Int} (h : IntsAt w b xs) (f : Fr S w w1) (hn : ¬ S b) : IntsAt w1 b xs := f.get h hn

theorem IntsAt.lt {w : World} {b : Nat} {xs : List Int} (h : IntsAt w b xs) : b < w.heap.size := lt_of_blk h

theorem IntsAt.cell {w : World} {b : Nat} {xs : List Int} (h : IntsAt w b xs) {i : Nat} (hi : i < xs.length) : w.cell? (Addr.add ⟨b, 0, none⟩ (i * 1)) = some (.int .i64 xs[i]) := by
  rw [Addr.add_mk, cell_blk h]
  simp [hi]

theorem IntsAt.store {w : World} {b : Nat} {xs : List Int} {C : World → Prop} (h : IntsAt w b xs) {i : Nat} (hi : i < xs.length) (v : Int)
    (H : ∀ w1, IntsAt w1 b (xs.set i v) → Fr (fun k => k = b) w w1 → w1.heap.size = w.heap.size → C w1) : StoreQ w (Addr.add ⟨b, 0, none⟩ (i * 1)) [.int .i64 v] C := by
  rw [Addr.add_mk]
  refine StoreQ.of1 h (by simp; omega) rfl fun w1 hb f s => H w1 ?_ f s
  unfold IntsAt
  have : (List.map (Value.int .i64) xs).toArray.setIfInBounds (0 + i * 1) (.int .i64 v) = (List.map (Value.int .i64) (xs.set i v)).toArray := by
    simp [List.map_set]
  rw [← this]
  exact hb

theorem ints_zero {w : World} {b n : Nat} (h : Blk w b 3 (madeCells (Value.int .i64 0).cells (n * 1))) : IntsAt w b (List.replicate n 0) := by
  unfold IntsAt
  rw [show (Value.int .i64 0).cells = #[Value.int .i64 0] from rfl, madeCells_one, Nat.mul_one] at h
  rw [List.map_replicate, show (List.replicate n (Value.int .i64 0)).toArray = Array.replicate n (Value.int .i64 0) by simp]
  exact h

theorem makes_ints : makes Tryz.prog 22 3 (.int .i64 0) 1 8 := .of (by kernel_rfl) (by kernel_rfl)

/-- the classes of a configuration are valid, and great enough -/
structure ClsFit (c : Cfg) (ls : List (Int × Int)) : Prop where
  ok : ClsOk ls
  last : ∀ p, ls.getLast? = some p → 8 * c.width ≤ p.1 ∧ 32 ≤ p.1 ∧ c.key ≤ p.1

theorem config_ok {w : World} {c : Cfg} {ls : List (Int × Int)} (h : c.Ok) (hc : ClsAt w c.ca c.cn ls) (hv : ClsFit c ls) :
    Calls Tryz.prog 126 #[.agg c.cells] w fun e w1 => Ext w w1 ∧ e = .returned (.int .i64 0) := by
  have h1 := h.queue; have h2 := h.mode; have h3 := h.slots; have h4 := h.exact; have h5 := h.depth; have h6 := h.width; have h7 := h.top; have h8 := h.key
  have hlen := hv.ok.len
  rw [hc.len] at hlen
  refine f126_vc (fun _ b w' => Blk w' b 30 c.cells ∧ Ext w w') ?_ fun b1 w2 hb1 hb he => ⟨_, hb.loads0 rfl, (clock_ok h).mono ?_⟩
  · rintro b w47 ⟨hb, he⟩
    obtain ⟨x, hx, hl, c1, c2⟩ := (hc.ext he).cell (i := c.cn - 1) (by omega)
    have hlast := hv.last ls[c.cn - 1] (by rw [List.getLast?_eq_getElem?, hc.len, List.getElem?_eq_getElem hl])
    have hwr : IntKind.wrap .i64 (((c.cn : Nat) : Int) - 1) = ((c.cn - 1 : Nat) : Int) := by rw [wrap_i64_id (by omega) (by omega)]; omega
    refine ⟨_, _, _, hb.cell rfl, _, _, _, hb.cell rfl, ?_⟩
    rw [hwr]
    refine ⟨by omega, ?_⟩
    rw [show (Cfg.ca c) = some x from hx]
    refine ⟨_, by rw [Int.toNat_natCast]; exact c1, _, hb.cell rfl, _, hb.cell rfl, CondQ.decF ?_ ⟨he, rfl⟩⟩
    rw [wrap_i64_id (by omega) (by omega)]
    unfold maxI
    split <;> split <;> split <;> omega
  · rintro e w5 ⟨he5, rfl⟩
    have hb5 := he5.get hb id
    refine ⟨0, rfl, CondQ.no rfl ⟨_, Blk.loads0 hb5 rfl, (routes_ok h).mono ?_⟩⟩
    rintro e w9 ⟨he9, rfl⟩
    have hb9 : Blk w9 b1 30 c.cells := he9.get hb5 id
    have heq : Ext w w9 := (he.trans he5).trans he9
    refine ⟨0, rfl, CondQ.no rfl ?_⟩
    refine ⟨_, hb9.cell rfl, CondQ.decF (by omega) ?_⟩
    refine ⟨_, hb9.cell rfl, CondQ.decF (by omega) ?_⟩
    have tail : ∀ {X Y : Prop}, X → CondQ (0 != (0 : Int)) Y X := fun h => CondQ.no rfl h
    refine ⟨_, hb9.cell rfl, CondQ.bne (fun hm => ?_) (fun hm => ?_)⟩
    · refine ⟨_, hb9.cell rfl, CondQ.bne (fun hm2 => by omega) (fun hm2 => ?_)⟩
      iterate 12 (refine ⟨_, hb9.cell rfl, CondQ.decF (by omega) ?_⟩)
      refine ⟨_, _, _, hb9.cell rfl, (classes_ok (hc.ext heq) hv.ok).mono ?_⟩
      rintro e w29 ⟨he29, rfl⟩
      exact ⟨0, rfl, tail ⟨he29.get hb9 id, heq.trans he29⟩⟩
    · iterate 12 (refine ⟨_, hb9.cell rfl, CondQ.decF (by omega) ?_⟩)
      refine ⟨_, _, _, hb9.cell rfl, (classes_ok (hc.ext heq) hv.ok).mono ?_⟩
      rintro e w29 ⟨he29, rfl⟩
      exact ⟨0, rfl, tail ⟨he29.get hb9 id, heq.trans he29⟩⟩

/-- how many keys may be tracked -/
def Cfg.tracked (c : Cfg) : Int := c.shards * c.windows * (c.slots + c.exact)

theorem Cfg.Ok.sw {c : Cfg} (h : c.Ok) : 1 ≤ c.shards * c.windows ∧ c.shards * c.windows ≤ 64 := by
  have h1 := h.shards; have h2 := h.windows
  have : 1 * 1 ≤ c.shards * c.windows := Int.mul_le_mul h1.1 h2.1 (by omega) (by omega)
  have : c.shards * c.windows ≤ 8 * 8 := Int.mul_le_mul h1.2 h2.2 (by omega) (by omega)
  omega

theorem Cfg.Ok.tracked {c : Cfg} (h : c.Ok) : 0 ≤ c.tracked ∧ c.tracked ≤ 6144 := by
  have h1 := h.sw; have h2 := h.slots; have h3 := h.exact
  have a : 0 ≤ c.tracked := Int.mul_nonneg (by omega) (by omega)
  have b : c.tracked ≤ 64 * 96 := Int.mul_le_mul h1.2 (by omega) (by omega) (by omega)
  omega

theorem tracked_ok {w : World} {c : Cfg} {ls : List (Int × Int)} (h : c.Ok) (hc : ClsAt w c.ca c.cn ls) (hv : ClsFit c ls) :
    Calls Tryz.prog 127 #[.agg c.cells] w fun e w1 => Ext w w1 ∧ e = .returned (.int .i64 c.tracked) := by
  have h1 := h.sw; have h2 := h.slots; have h3 := h.exact; have h4 := h.tracked
  refine f127_vc fun b1 w2 hb1 hb he => ⟨_, hb.loads0 rfl, (config_ok h (hc.ext he) hv).mono ?_⟩
  rintro e w5 ⟨he5, rfl⟩
  have hb5 : Blk w5 b1 30 c.cells := he5.get hb id
  refine ⟨0, rfl, CondQ.no rfl ⟨_, hb5.cell rfl, _, hb5.cell rfl, _, hb5.cell rfl, _, hb5.cell rfl, he.trans he5, ?_⟩⟩
  have e1 : IntKind.wrap .i64 (c.shards * c.windows) = c.shards * c.windows := wrap_i64_id (by omega) (by omega)
  have e2 : IntKind.wrap .i64 (c.slots + c.exact) = c.slots + c.exact := wrap_i64_id (by omega) (by omega)
  show Ending.returned (Value.int .i64 (IntKind.wrap .i64 (IntKind.wrap .i64 (c.shards * c.windows) * IntKind.wrap .i64 (c.slots + c.exact)))) = _
  rw [e1, e2, show c.shards * c.windows * (c.slots + c.exact) = c.tracked from rfl, wrap_i64_id (by omega) (by omega)]

/-- the class of a size, the first one if none fits -/
def fitI (ls : List (Int × Int)) (size : Int) : Nat := (fitIx ls size).getD 0

theorem fitI_lt {ls : List (Int × Int)} (h : 1 ≤ ls.length) (size : Int) : fitI ls size < ls.length := by
  unfold fitI
  cases hf : fitIx ls size with
  | none => exact h
  | some i => exact fitIx_lt hf

theorem fit_at {w : World} {A : Option Addr} {n c : Nat} {ls : List (Int × Int)} {size : Int} (h : ClsAt w A n ls) (hn : n < 9223372036854775807) :
    Calls Tryz.prog 88 #[.slice A n c, .int .i64 size] w fun e w1 => Ext w w1 ∧ ∃ r : Int, e = .returned (.tuple #[.int .i64 (fitI ls size : Nat), .int .i64 r]) := by
  refine (fit_calls h hn).mono ?_
  rintro e w1 ⟨he, rfl⟩
  refine ⟨he, ?_⟩
  unfold fitI
  cases fitIx ls size with
  | none => exact ⟨1, rfl⟩
  | some i => exact ⟨0, rfl⟩

def addAt (xs : List Int) (i : Nat) (v : Int) : List Int := xs.set i (xs.getD i 0 + v)

def demLoop (ls : List (Int × Int)) (v : Int) : Nat → Int → Int → List Int → List Int
  | 0, _, _, out => out
  | m + 1, n, last, out => if ((fitI ls n : Nat) : Int) ≠ last then demLoop ls v m (n + 1) (fitI ls n : Nat) (addAt out (fitI ls n) v) else demLoop ls v m (n + 1) last out

def Cfg.demand0 (c : Cfg) (ls : List (Int × Int)) : List Int :=
  addAt (addAt (addAt (List.replicate c.cn 0) (fitI ls (8 * c.width)) (c.shards * c.windows * c.depth)) (fitI ls 32) c.tracked) (fitI ls 24) (c.shards * c.queue)

/-- the slots that a configuration needs, by classes -/
def Cfg.demand (c : Cfg) (ls : List (Int × Int)) : List Int := demLoop ls (c.tracked + c.shards * c.queue) c.key.toNat 1 (-1) (c.demand0 ls)

theorem addAt_length (xs : List Int) (i : Nat) (v : Int) : (addAt xs i v).length = xs.length := by simp [addAt]

theorem addAt_eq {xs : List Int} {i : Nat} (h : i < xs.length) (v : Int) : xs.set i (xs[i] + v) = addAt xs i v := by
  unfold addAt
  rw [List.getD_eq_getElem?_getD, List.getElem?_eq_getElem h]; rfl

theorem addAt_bound {xs : List Int} {i : Nat} {v B : Int} (hi : i < xs.length) (h : ∀ x ∈ xs, 0 ≤ x ∧ x ≤ B) (hv : 0 ≤ v) : ∀ x ∈ addAt xs i v, 0 ≤ x ∧ x ≤ B + v := by
  intro x hx
  have hg : 0 ≤ xs.getD i 0 ∧ xs.getD i 0 ≤ B := by
    rw [List.getD_eq_getElem?_getD, List.getElem?_eq_getElem hi]
    exact h _ (List.getElem_mem hi)
  rcases List.mem_or_eq_of_mem_set hx with h1 | h1
  · have := h x h1; omega
  · omega

theorem demLoop_length (ls : List (Int × Int)) (v : Int) : ∀ (m : Nat) (n last : Int) (out : List Int), (demLoop ls v m n last out).length = out.length := by
  intro m
  induction m with
  | zero => intro n last out; rfl
  | succ m ih => intro n last out; unfold demLoop; split <;> simp [ih, addAt_length]

theorem demLoop_bound {ls : List (Int × Int)} {v : Int} (hl : 1 ≤ ls.length) (hv : 0 ≤ v) : ∀ (m : Nat) (n last : Int) (out : List Int) (B : Int), out.length = ls.length → (∀ x ∈ out, 0 ≤ x ∧ x ≤ B) → ∀ x ∈ demLoop ls v m n last out, 0 ≤ x ∧ x ≤ B + m * v := by
  intro m
  induction m with
  | zero => intro n last out B _ h x hx; have := h x hx; simp; omega
  | succ m ih =>
    intro n last out B ho h x hx
    have e : B + (m + 1 : Nat) * v = B + v + m * v := by rw [Int.natCast_add, Int.add_mul]; omega
    have hm : 0 ≤ (m : Int) * v := Int.mul_nonneg (by omega) hv
    unfold demLoop at hx
    split at hx
    · have := ih _ _ _ (B + v) (by rw [addAt_length]; exact ho) (addAt_bound (by rw [ho]; exact fitI_lt hl n) h hv) x hx
      rw [e]; exact this
    · have := ih _ _ _ B ho h x hx
      rw [e]; omega

theorem Cfg.Ok.sq {c : Cfg} (h : c.Ok) : 0 ≤ c.shards * c.queue ∧ c.shards * c.queue ≤ 512 := by
  have h1 := h.shards; have h2 := h.queue
  have a : 0 ≤ c.shards * c.queue := Int.mul_nonneg (by omega) (by omega)
  have b : c.shards * c.queue ≤ 8 * 64 := Int.mul_le_mul h1.2 h2.2 (by omega) (by omega)
  omega

theorem Cfg.Ok.swd {c : Cfg} (h : c.Ok) : 0 ≤ c.shards * c.windows * c.depth ∧ c.shards * c.windows * c.depth ≤ 256 := by
  have h1 := h.sw; have h2 := h.depth
  have a : 0 ≤ c.shards * c.windows * c.depth := Int.mul_nonneg (by omega) (by omega)
  have b : c.shards * c.windows * c.depth ≤ 64 * 4 := Int.mul_le_mul h1.2 h2.2 (by omega) (by omega)
  omega

theorem demand0_bound {c : Cfg} {ls : List (Int × Int)} (h : c.Ok) (hl : 1 ≤ ls.length) (hn : ls.length = c.cn) : (c.demand0 ls).length = ls.length ∧ ∀ x ∈ c.demand0 ls, 0 ≤ x ∧ x ≤ 6912 := by
  have h1 := h.swd; have h2 := h.sq; have h3 := h.tracked
  refine ⟨by simp [Cfg.demand0, addAt_length, hn], fun x hx => ?_⟩
  unfold Cfg.demand0 at hx
  have b0 : ∀ x ∈ List.replicate c.cn (0 : Int), 0 ≤ x ∧ x ≤ 0 := fun x hx => by have := List.eq_of_mem_replicate hx; omega
  have b1 := addAt_bound (i := fitI ls (8 * c.width)) (by rw [List.length_replicate, ← hn]; exact fitI_lt hl _) b0 h1.1
  have b2 := addAt_bound (i := fitI ls 32) (by rw [addAt_length, List.length_replicate, ← hn]; exact fitI_lt hl _) b1 h3.1
  have b3 := addAt_bound (i := fitI ls 24) (by rw [addAt_length, addAt_length, List.length_replicate, ← hn]; exact fitI_lt hl _) b2 h2.1 x hx
  omega

theorem demand_ok {w : World} {c : Cfg} {ls : List (Int × Int)} (h : c.Ok) (hc : ClsAt w c.ca c.cn ls) (hv : ClsFit c ls) :
    Calls Tryz.prog 75 #[.agg c.cells] w fun e w1 => Ext w w1 ∧
      ∃ b, e = .returned (.tuple #[.slice (some ⟨b, 0, none⟩) c.cn c.cn, .int .i64 0]) ∧ w.heap.size ≤ b ∧ IntsAt w1 b (c.demand ls) ∧ (c.demand ls).length = c.cn := by
  have hlen := hv.ok.len
  have hcn := hc.len
  have k1 := h.width; have k2 := h.key; have k3 := h.tracked; have k4 := h.sq; have k5 := h.swd; have k6 := h.sw; have k7 := h.shards; have k8 := h.queue; have k9 := h.depth
  have hd0 := demand0_bound h hlen.1 hcn
  have hv2 : 0 ≤ c.tracked + c.shards * c.queue := by omega
  refine f75_vc
    (fun _ b B n cp last x w' => ∃ bo outs, Ext w w' ∧ Blk w' b 30 c.cells ∧ w.heap.size ≤ b ∧ w.heap.size ≤ bo ∧ bo ≠ b ∧ B = some ⟨bo, 0, none⟩ ∧ n = c.cn ∧ cp = c.cn ∧ 1 ≤ x ∧ x ≤ c.key + 1 ∧ IntsAt w' bo outs ∧ outs.length = ls.length ∧
      (∀ y ∈ outs, 0 ≤ y ∧ y ≤ 6912 + (x - 1) * 6656) ∧ demLoop ls (c.tracked + c.shards * c.queue) (c.key + 1 - x).toNat x last outs = c.demand ls)
    (fun _ _ _ _ _ _ x _ => (c.key + 1 - x).toNat)
    (fun _ B n cp w' => ∃ bo, Ext w w' ∧ w.heap.size ≤ bo ∧ B = some ⟨bo, 0, none⟩ ∧ n = c.cn ∧ cp = c.cn ∧ IntsAt w' bo (c.demand ls)) ?_ ?_ ?_
  · rintro b B n cp last x w47 m ⟨bo, outs, he, hb, hbn, hbo, hne, rfl, rfl, rfl, hx0, hx1, hio, hol, hob, hdem⟩ hm
    refine ⟨_, hb.cell rfl, CondQ.dec (fun hle => ⟨_, _, _, hb.cell rfl, (fit_at (hc.ext he) (by omega)).mono ?_⟩) (fun hgt => ⟨bo, he, hbo, rfl, rfl, rfl, ?_⟩)⟩
    · have hle : x ≤ c.key := hle
      have hwr : IntKind.wrap .i64 (x + 1) = x + 1 := wrap_i64_id (by omega) (by omega)
      have hsucc : (c.key + 1 - x).toNat = (c.key + 1 - (x + 1)).toNat + 1 := by omega
      rintro e w52 ⟨he52, r, rfl⟩
      have hb52 : Blk w52 b 30 c.cells := he52.get hb id
      have hio52 : IntsAt w52 bo outs := hio.frame he52 id
      have hfl : fitI ls x < outs.length := by rw [hol]; exact fitI_lt hlen.1 x
      rw [hsucc] at hdem
      unfold demLoop at hdem
      refine ⟨_, _, rfl, CondQ.bne (fun hne2 => ⟨by omega, ?_⟩) (fun heq => ?_)⟩
      · rw [if_pos hne2] at hdem
        rw [Int.toNat_natCast]
        refine ⟨_, hio52.cell hfl, _, hb52.loads0 rfl, _, hb52.cell rfl, _, hb52.cell rfl, ?_⟩
        refine (tracked_ok h ((hc.ext (he.trans he52)).ext (Fr.drew _ _)) hv).mono ?_
        rintro e w61 ⟨he61, rfl⟩
        have he61 : Ext w52 w61 := he61.dl
        have hio61 := hio52.frame he61 id
        have hb61 : Blk w61 b 30 c.cells := he61.get hb52 id
        refine ⟨_, rfl, hb61.cell rfl, hb61.cell rfl, hio61.cell hfl, by omega, ?_⟩
        have hy := hob _ (List.getElem_mem hfl)
        have e1 : IntKind.wrap .i64 (c.shards * c.queue) = c.shards * c.queue := wrap_i64_id (by omega) (by omega)
        have e2 : IntKind.wrap .i64 (c.tracked + c.shards * c.queue) = c.tracked + c.shards * c.queue := wrap_i64_id (by omega) (by omega)
        have e3 : IntKind.wrap .i64 (outs[fitI ls x] + (c.tracked + c.shards * c.queue)) = outs[fitI ls x] + (c.tracked + c.shards * c.queue) := wrap_i64_id (by omega) (by omega)
        refine hio61.store hfl _ fun w64 hio64 f64 s64 => ?_
        rw [e1, e2, e3] at hio64
        have hadd : outs.set (fitI ls x) (outs[fitI ls x] + (c.tracked + c.shards * c.queue)) = addAt outs (fitI ls x) (c.tracked + c.shards * c.queue) := by
          unfold addAt
          rw [List.getD_eq_getElem?_getD, List.getElem?_eq_getElem hfl]; rfl
        rw [hadd] at hio64
        rw [hwr]
        have hen : Ext w w61 := (he.trans he52).trans he61
        refine ⟨⟨bo, _, hen.then_ f64 fun i hi hj => by omega, f64.get hb61 (fun h => hne h.symm), hbn, hbo, hne, rfl, rfl, rfl, by omega, by omega, hio64, by rw [addAt_length]; exact hol, ?_, hdem⟩, by omega⟩
        intro y hy
        have := addAt_bound hfl hob hv2 y hy
        omega
      · rw [if_neg (fun h => h heq)] at hdem
        rw [hwr]
        refine ⟨⟨bo, outs, he.trans he52, hb52, hbn, hbo, hne, rfl, rfl, rfl, by omega, by omega, hio52, hol, ?_, hdem⟩, by omega⟩
        intro y hy
        have := hob y hy
        omega
    · have hgt : ¬ x ≤ c.key := hgt
      rw [show (c.key + 1 - x).toNat = 0 by omega] at hdem
      unfold demLoop at hdem
      rw [← hdem]
      exact hio
  · rintro B n cp w65 ⟨bo, he, hbo, rfl, rfl, rfl, hio⟩
    refine ⟨he, bo, rfl, hbo, hio, ?_⟩
    unfold Cfg.demand
    rw [demLoop_length, hd0.1, hcn]
  · intro b1 w2 hb1 hb he
    refine ⟨_, hb.loads0 rfl, (config_ok h (hc.ext he) hv).mono ?_⟩
    rintro e w5 ⟨he5, rfl⟩
    have hb5 : Blk w5 b1 30 c.cells := he5.get hb id
    refine ⟨0, rfl, CondQ.no rfl ⟨_, _, _, hb5.cell rfl, ?_⟩⟩
    obtain ⟨w8, hr, hz, he8⟩ := make_slice (w := w5) makes_ints (n := ((c.cn : Nat) : Int)) (c := ((c.cn : Nat) : Int)) (by omega) (by omega) (by omega) (by omega)
    simp only [Int.toNat_natCast] at hr hz
    have hz := ints_zero hz
    have hb8 : Blk w8 b1 30 c.cells := he8.get hb5 id
    have hx8 : Ext w w8 := (he.trans he5).trans he8
    have hs5 : w.heap.size ≤ w5.heap.size := (he.trans he5).size
    have hne : w5.heap.size ≠ b1 := by have := lt_of_blk hb5; omega
    refine ⟨_, _, _, w8, hr, _, _, _, hb8.cell rfl, _, hb8.cell rfl, ?_⟩
    have ew : IntKind.wrap .i64 (8 * c.width) = 8 * c.width := wrap_i64_id (by omega) (by omega)
    show Calls _ _ #[_, .int .i64 (IntKind.wrap .i64 (8 * c.width))] _ _
    rw [ew]
    refine (fit_at (hc.ext hx8) (by omega)).mono ?_
    rintro e w13 ⟨he13, r, rfl⟩
    have hb13 : Blk w13 b1 30 c.cells := he13.get hb8 id
    have hz13 := hz.frame he13 id
    have hf1 : fitI ls (8 * c.width) < (List.replicate c.cn (0 : Int)).length := by rw [List.length_replicate, ← hcn]; exact fitI_lt hlen.1 _
    have hf1' : fitI ls (8 * c.width) < c.cn := by rw [← hcn]; exact fitI_lt hlen.1 _
    refine ⟨_, _, rfl, by omega, ?_⟩
    rw [Int.toNat_natCast]
    refine ⟨_, hz13.cell hf1, _, hb13.dcell rfl, _, hb13.dcell rfl, _, hb13.dcell rfl, by omega, ?_⟩
    refine IntsAt.store (w := w13.drew) hz13 hf1 _ fun w22 hi22 f22 s22 => ?_
    have f22 : Fr (fun k => k = w5.heap.size) w13 w22 := f22.dl
    have e1 : IntKind.wrap .i64 (c.shards * c.windows) = c.shards * c.windows := wrap_i64_id (by omega) (by omega)
    have e2 : IntKind.wrap .i64 (c.shards * c.windows * c.depth) = c.shards * c.windows * c.depth := wrap_i64_id (by omega) (by omega)
    have g1 : (List.replicate c.cn (0 : Int))[fitI ls (8 * c.width)] = 0 := List.getElem_replicate _
    have hh : IntKind.wrap .i64 ((List.replicate c.cn (0 : Int))[fitI ls (8 * c.width)] + IntKind.wrap .i64 (IntKind.wrap .i64 (c.shards * c.windows) * c.depth)) = (List.replicate c.cn (0 : Int))[fitI ls (8 * c.width)] + c.shards * c.windows * c.depth := by
      rw [e1, e2]; exact wrap_i64_id (by rw [g1]; omega) (by rw [g1]; omega)
    rw [hh, addAt_eq hf1] at hi22
    have bb1 := addAt_bound (v := c.shards * c.windows * c.depth) hf1 (B := 0) (fun x hx => by have := List.eq_of_mem_replicate hx; omega) k5.1
    have l1 : (addAt (List.replicate c.cn 0) (fitI ls (8 * c.width)) (c.shards * c.windows * c.depth)).length = c.cn := by rw [addAt_length, List.length_replicate]
    obtain ⟨o1, ho1⟩ : ∃ o, o = addAt (List.replicate c.cn 0) (fitI ls (8 * c.width)) (c.shards * c.windows * c.depth) := ⟨_, rfl⟩
    rw [← ho1] at hi22 bb1 l1
    have hx22 : Ext w w22 := (hx8.trans he13).then_ f22 fun i hi hj => by omega
    have hb22 : Blk w22 b1 30 c.cells := f22.get hb13 (fun h => hne h.symm)
    refine ⟨_, _, _, hb22.cell rfl, (fit_at (hc.ext hx22) (by omega)).mono ?_⟩
    rintro e w25 ⟨he25, r, rfl⟩
    have hb25 : Blk w25 b1 30 c.cells := he25.get hb22 id
    have hi25 := hi22.frame he25 id
    have hf2 : fitI ls 32 < o1.length := by rw [l1, ← hcn]; exact fitI_lt hlen.1 _
    have hx25 := hx22.trans he25
    refine ⟨_, _, rfl, by omega, ?_⟩
    rw [Int.toNat_natCast]
    refine ⟨_, hi25.cell hf2, _, hb25.loads0 rfl, (tracked_ok h ((hc.ext hx25).ext (Fr.drew _ _)) hv).mono ?_⟩
    rintro e w32 ⟨he32, rfl⟩
    have he32 : Ext w25 w32 := he32.dl
    have hb32 : Blk w32 b1 30 c.cells := he32.get hb25 id
    have hi32 := hi25.frame he32 id
    have hx32 := hx25.trans he32
    refine ⟨_, rfl, hi32.cell hf2, by omega, ?_⟩
    refine hi32.store hf2 _ fun w35 hi35 f35 s35 => ?_
    have g2 := bb1 _ (List.getElem_mem hf2)
    rw [wrap_i64_id (by omega) (by omega), addAt_eq hf2] at hi35
    have bb2 := addAt_bound (v := c.tracked) hf2 bb1 k3.1
    have l2 : (addAt o1 (fitI ls 32) c.tracked).length = c.cn := by rw [addAt_length, l1]
    obtain ⟨o2, ho2⟩ : ∃ o, o = addAt o1 (fitI ls 32) c.tracked := ⟨_, rfl⟩
    rw [← ho2] at hi35 bb2 l2
    have hx35 : Ext w w35 := hx32.then_ f35 fun i hi hj => by omega
    have hb35 : Blk w35 b1 30 c.cells := f35.get hb32 (fun h => hne h.symm)
    refine ⟨_, _, _, hb35.cell rfl, (fit_at (hc.ext hx35) (by omega)).mono ?_⟩
    rintro e w38 ⟨he38, r, rfl⟩
    have hb38 : Blk w38 b1 30 c.cells := he38.get hb35 id
    have hi38 := hi35.frame he38 id
    have hf3 : fitI ls 24 < o2.length := by rw [l2, ← hcn]; exact fitI_lt hlen.1 _
    have hx38 := hx35.trans he38
    refine ⟨_, _, rfl, by omega, ?_⟩
    rw [Int.toNat_natCast]
    refine ⟨_, hi38.cell hf3, _, hb38.dcell rfl, _, hb38.dcell rfl, by omega, ?_⟩
    refine IntsAt.store (w := w38.drew) hi38 hf3 _ fun w46 hi46 f46 s46 => ?_
    have f46 : Fr (fun k => k = w5.heap.size) w38 w46 := f46.dl
    have g3 := bb2 _ (List.getElem_mem hf3)
    have e4 : IntKind.wrap .i64 (c.shards * c.queue) = c.shards * c.queue := wrap_i64_id (by omega) (by omega)
    rw [e4, wrap_i64_id (by omega) (by omega), addAt_eq hf3] at hi46
    have bb3 := addAt_bound (v := c.shards * c.queue) hf3 bb2 k4.1
    have l3 : (addAt o2 (fitI ls 24) (c.shards * c.queue)).length = c.cn := by rw [addAt_length, l2]
    refine ⟨w5.heap.size, _, hx38.then_ f46 fun i hi hj => by omega, f46.get hb38 (fun h => hne h.symm), hb1, hs5, hne, rfl, rfl, rfl, by omega, by omega, hi46, by rw [l3, hcn], ?_, ?_⟩
    · intro y hy
      have := bb3 y hy
      omega
    · unfold Cfg.demand
      rw [show (c.key + 1 - 1).toNat = c.key.toNat by omega]
      show _ = demLoop ls _ _ 1 (-1) (addAt (addAt (addAt (List.replicate c.cn 0) (fitI ls (8 * c.width)) (c.shards * c.windows * c.depth)) (fitI ls 32) c.tracked) (fitI ls 24) (c.shards * c.queue))
      rw [← ho1, ← ho2]

end Go.Proofs.YtdaookipaknoeaaGreat
