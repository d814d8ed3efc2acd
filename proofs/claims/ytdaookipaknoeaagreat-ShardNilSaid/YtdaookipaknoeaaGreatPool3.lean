/-
  The pool: Intern of a new key.
-/
import Derived.Test.YtdaookipaknoeaaGreatPool2
namespace Go.Proofs.YtdaookipaknoeaaGreat
open Go Go.MapKept
set_option linter.unusedVariables false

def apTs : List Nat := arTs ++ poTs

/-- the bytes of a text -/
def bytesOf (s : ByteArray) : List Int := s.data.toList.map fun b => (b.toNat : Int)

theorem bytesOf_length (s : ByteArray) : (bytesOf s).length = s.size := by
  unfold bytesOf
  rw [List.length_map, Array.length_toList]
  rfl

/-- []byte(s) -/
theorem bytes_of {w : World} (s : ByteArray) : ∃ A c w1, (convert 9 23 (.string s)).run Tryz.prog w = .ok (.slice A s.size c) w1 ∧ Ext w w1 ∧ Row w1 A ((bytesOf s).map (Value.int .u8)) ∧ A ≠ none := by
  have hr := run_bytes_of_string (P := Tryz.prog) w 9 23 5 s (by kernel_rfl) (by kernel_rfl) (by kernel_rfl)
  refine ⟨_, _, _, hr, ?_, fun j v hj => ⟨_, rfl, ?_⟩, by simp⟩
  · have h1 := ext_push w.drew (.cells (bytesRow s (grownCap w s.size 0 5)) 5 ((bytesRow s (grownCap w s.size 0 5)).size, (bytesRow s (grownCap w s.size 0 5)).size + 1))
    exact ⟨h1.size, h1.blk, h1.os, h1.tape, h1.output⟩
  · rw [Addr.add_mk, Nat.zero_add]
    have hjl : j < s.data.size := by
      have := (List.getElem?_eq_some_iff.1 hj).1
      unfold bytesOf at this
      rw [List.length_map, List.length_map, Array.length_toList] at this
      exact this
    have hv : v = .int .u8 (s.data[j].toNat : Int) := by
      unfold bytesOf at hj
      rw [List.getElem?_map, List.getElem?_map, Array.getElem?_toList, Array.getElem?_eq_getElem hjl] at hj
      exact (Option.some.inj hj).symm
    have hb : (w.drew.alloc (.cells (bytesRow s (grownCap w s.size 0 5)) 5 ((bytesRow s (grownCap w s.size 0 5)).size, (bytesRow s (grownCap w s.size 0 5)).size + 1))).heap[w.heap.size]? = some (.cells (bytesRow s (grownCap w s.size 0 5)) 5 ((bytesRow s (grownCap w s.size 0 5)).size, (bytesRow s (grownCap w s.size 0 5)).size + 1)) := by
      show (w.heap.push _)[w.heap.size]? = _
      simp
    unfold World.cell?
    rw [hb]
    simp only [Option.isSome_none, Bool.false_eq_true, if_false]
    rw [hv]
    exact bytesRow_at s _ j hjl

theorem fit_size {s : Arn} {size : Int} {c : Nat} {k : Kls} (hc : s.fit size = some c) (hk : s.kls[c]? = some k) : size ≤ k.size := by
  unfold Arn.fit at hc
  rw [List.findIdx?_eq_some_iff_getElem] at hc
  obtain ⟨h1, h2, _⟩ := hc
  have : s.kls[c] = k := (List.getElem?_eq_some_iff.1 hk).2
  rw [this] at h2
  simpa using h2

theorem PoolAt.mono {w : World} {F G : Nat → Prop} {pb ab r : Nat} {p : Pol} (h : PoolAt w F pb ab r p) (hG : ∀ i, i < w.heap.size → F i → G i) : PoolAt w G pb ab r p := h.keep (Fr.refl (fun _ => False) w) (fun _ _ h => h.elim) id hG

/-- the arena after a slot was taken and bytes were written to it -/
def Arn.put (s2 : Arn) (c : Nat) (k2 : Kls) (i : Nat) (t : Slot) (bs : List Int) : Arn := (s2.taken c k2 i t).setK c ({ k2.setS i t.took with live := k2.live + 1 }.setS i { t.took with data := bs })

theorem astep_kls {s s2 : Arn} {c i : Nat} {k k2 : Kls} {t : Slot} (hk : s.kls[c]? = some k) (h : AStep s c k i t k2 s2) : s2.kls[c]? = some k2 ∧ k2.slots[i]? = some t ∧ k2.size = k.size := by
  rcases h with ⟨_, h2, rfl, rfl⟩ | ⟨_, _, rfl, rfl, rfl, rfl⟩
  · exact ⟨hk, h2, rfl⟩
  · exact ⟨setK_get hk, by simp, rfl⟩

theorem pool_intern_new {w : World} {F : Nat → Prop} {pb ab r : Nat} {p : Pol} {s s2 : Arn} {key : ByteArray} {c i : Nat} {k k2 : Kls} {t : Slot} (hp : PoolAt w F pb ab r p) (ha : ArenaAt w F ab s) (hk1 : 1 ≤ key.size) (hk2 : key.size ≤ 255)
    (hnew : p.num key = none) (hsz : (p.size : Int) ≠ p.cap) (hpl : p.ents.length ≤ 60000) (hl : s.kls.length ≤ 8) (hc : s.fit key.size = some c) (hk : s.kls[c]? = some k)
    (hst : AStep s c k i t k2 s2) (hage : 0 ≤ t.age ∧ t.age < 4611686018427387904) (hlive : 0 ≤ k.live ∧ k.live < 4611686018427387904) (hlen : k.slots.length ≤ 65536) :
    Calls Tryz.prog 99 #[.pointer (some ⟨pb, 0, none⟩), .string key] w fun e w1 => ∃ id, IsFree p id ∧ e = .returned (.tuple #[.int .i64 (id : Nat), .int .i64 0]) ∧
      ArenaAt w1 (Grow F w w1) ab (s2.put c k2 i t (bytesOf key)) ∧
      (∀ num', num' key = some (id : Int) → (∀ x, x ≠ key → num' x = p.num x) → PoolAt w1 (Grow F w w1) pb ab r { p.ensure id with ents := (p.ensure id).ents.set id ⟨c, i, t.age + 1, 1⟩, num := num', size := p.size + 1 }) ∧
      Fr (Mod w F apTs [r]) w w1 := by
  obtain ⟨EA, ec, hb, ho, hEF⟩ := hp.here
  obtain ⟨hs2k, hs2t, hs2s⟩ := astep_kls hk hst
  have hne : (key.toList == (⟨#[]⟩ : ByteArray).toList) = false := by
    have h0 : key.data.toList ≠ [] := by
      intro h
      have : key.size = 0 := by show key.data.size = 0; rw [← Array.length_toList, h]; rfl
      omega
    rw [ByteArray.toList_eq, ByteArray.toList_eq]
    simpa using h0
  have hz : (zeroValue 3).run Tryz.prog w = .ok (.int .i64 0) w := by
    have : (Tryz.prog.info? 3).map (·.zero) = some (some (.int .i64 0)) := by kernel_rfl
    obtain ⟨inf, h1, h2⟩ := Option.map_eq_some_iff.1 this
    simp [zeroValue, typeInfo, program, Sem.run, h1, h2]
  have hget := hp.map.get (P := Tryz.prog) (t := 106) (kt := 9) (et := 3) (by kernel_rfl) (by kernel_rfl) (k := .string key) trivial hz true
  have hm0 : strM p.num (.string key) = none := by simp [strM, hnew]
  rw [hm0] at hget
  refine f99_vc (CondQ.no hne (CondQ.decF (by omega) ⟨some r, hb.cell rfl, 0, false, hget, CondQ.no rfl ⟨some r, hb.dcell rfl, p.size, hp.map.len, _, hb.dcell rfl, CondQ.beq (fun h => absurd h hsz) (fun _ => ⟨_, hb.dcell rfl, ?_⟩)⟩⟩))
  refine (arena_alloc (w := w.drew) (F := F) (ha.ext (Fr.drew _ _)) hl (by omega) hc hk hst hage hlive hlen).mono ?_
  rintro e w14 ⟨rfl, ha14, f14⟩
  have f14 : Fr (Mod w F arTs []) w w14 := f14.dl
  have ha14 : ArenaAt w14 (Grow F w w14) ab (s2.taken c k2 i t) := ha14
  have hp14 := hp.arena f14
  have hs14 := f14.size
  refine ⟨_, _, rfl, fun b17 w18 hb17 hbb17 f18 => ⟨rfl, StoreQ.of hbb17 (by simp) (by simp [one]) fun w19 hb19 f19 s19 => CondQ.no rfl ?_⟩⟩
  have hb19 : Blk w19 b17 123 (handle c i (t.age + 1)) := hb19
  have hs18 := f18.size
  have e19 : Ext w14 w19 := f18.then_ f19 fun j hj e => by omega
  have ha19 := ha14.ext e19
  have hp19 := hp14.ext e19
  have fr19 : Fr (Mod w F apTs [r]) w w19 := (f14.mod_sub (fun _ _ h => h) (by decide) (by simp)).then_ e19 fun _ _ h => h.elim
  obtain ⟨EA19, ec19, hpb19, _, _⟩ := hp19.here
  obtain ⟨A23, c23, w22, hconv, f22, hrow, hA23⟩ := bytes_of (w := w19.drew) key
  have f22 : Ext w19 w22 := f22.dl
  have hb22 := f22.b hb19 id
  have hpb22 := f22.b hpb19 id
  refine ⟨_, hpb19.dcell rfl, _, Blk.loads0 (w := w19.drew) hb19 rfl, _, _, _, w22, hconv, hb22.loads0 rfl, hpb22.cell rfl, ?_⟩
  have hs22 := f22.size
  have ha22 := (ha19.ext f22).mono (G := Grow F w w22) fun j _ hj => Grow.mono (by omega) hj
  have hp22 := (hp19.ext f22).mono (G := Grow F w w22) fun j _ hj => Grow.mono (by omega) hj
  have fr22 : Fr (Mod w F apTs [r]) w w22 := fr19.then_ f22 fun _ _ h => h.elim
  have hlv : Live (s2.taken c k2 i t) c i { k2.setS i t.took with live := k2.live + 1 } t.took := ⟨setK_get hs2k, setS_get (k := k2) hs2t, rfl⟩
  have hfit := fit_size hc hk
  have hwr := arena_write ha22 hlv (bA := A23) (bc := c23) (bs := bytesOf key) hrow (fun h => absurd h hA23) (by rw [bytesOf_length]; show _ ≤ k2.size; rw [hs2s]; exact hfit) (by rw [bytesOf_length]; omega)
  rw [bytesOf_length] at hwr
  refine hwr.mono ?_
  rintro e w25 ⟨rfl, ha25, f25⟩
  have hs25 := f25.size
  have hp25 := (hp22.arena f25)
  have ha25 : ArenaAt w25 (Grow F w w25) ab (s2.put c k2 i t (bytesOf key)) := ha25.mono fun j _ hj => Grow.trans (by omega) hj (by omega)
  have hp25 : PoolAt w25 (Grow F w w25) pb ab r p := hp25.mono fun j _ hj => Grow.trans (by omega) hj (by omega)
  have hb25 : Blk w25 b17 123 (handle c i (t.age + 1)) := f25.mod_keep hb22 (by decide) (by simp)
  have fr25 : Fr (Mod w F apTs [r]) w w25 := fr22.mod_then (f25.mod_sub (fun _ _ h => h) (by decide) (by simp))
  refine ⟨_, rfl, CondQ.no rfl ((pool_free hp25 hpl).mono ?_)⟩
  rintro e w28 ⟨id, hid, rfl, hp28, f28⟩
  have hs28 := f28.size
  have ha28 : ArenaAt w28 (Grow F w w28) ab (s2.put c k2 i t (bytesOf key)) := ha25.keep f28 (fun j _ ⟨_, hs⟩ ⟨T, cs, hb', hT⟩ => hs.elim (Tg.not hb' ((by decide : ∀ T ∈ 5 :: arTs, T ∉ poTs) T hT)) (by simp)) fun j _ hj => Grow.mono (by omega) hj
  have hp28 : PoolAt w28 (Grow F w w28) pb ab r (p.ensure id) := hp28.mono fun j _ hj => Grow.trans (by omega) hj (by omega)
  have hb28 : Blk w28 b17 123 (handle c i (t.age + 1)) := f28.mod_keep hb25 (by decide) (by simp)
  have fr28 : Fr (Mod w F apTs [r]) w w28 := fr25.mod_then (f28.mod_sub (fun _ _ h => h) (by decide) (by simp))
  have hidl : id < (p.ensure id).ents.length := by
    unfold Pol.ensure
    split
    · assumption
    · simp; have := hid.hi; omega
  obtain ⟨EA28, ec28, hpb28, ho28, hEF28⟩ := hp28.here
  obtain ⟨a, hEA⟩ := ho28.ex (by omega)
  subst hEA
  obtain ⟨_, cur, hcb⟩ := ho28.blk
  have hFa := hEF28 a rfl
  refine ⟨_, rfl, _, _, _, hpb28.dcell rfl, _, Blk.loads0 (w := w28.drew) hb28 rfl, rfl, by omega, rfl, ?_⟩
  rw [Int.toNat_natCast]
  show StoreQ w28.drew (a.add (id * 4)) [.int .i64 (c : Nat), .int .i64 (i : Nat), .int .i64 (t.age + 1), .int .i64 1] _
  refine Own.storeAt (w := w28.drew) ho28 (by simp; omega) (by simp) rfl fun w33 ho33 f33 s33 => ?_
  have f33 : Fr (fun j => j = a.block) w28 w33 := f33.dl
  have s33 : w33.heap.size = w28.heap.size := s33
  rw [entCells_set _ _ hidl ⟨c, i, t.age + 1, 1⟩] at ho33
  have nab : pb ≠ a.block := ArenaIn.ne_of_types hpb28 hcb (by decide)
  have hpb33 := f33.b hpb28 nab
  have hra : r ≠ a.block := hp28.map.ne hcb
  have hm33 := hp28.map.frame f33 hra
  have hpn : (p.ensure id).num = p.num ∧ (p.ensure id).size = p.size := by unfold Pol.ensure; split <;> exact ⟨rfl, rfl⟩
  obtain ⟨w35, hupd, hm35, f35, s35⟩ := hm33.set (P := Tryz.prog) (t := 106) (kt := 9) (et := 3) (by kernel_rfl) (by kernel_rfl) (k := .string key) trivial (.int .i64 (id : Nat))
  refine ⟨some r, hpb33.cell rfl, w35, hupd, id, hid, rfl, ?_, fun num' hn1 hn2 => ?_, ?_⟩
  · refine ArenaAt.keep (ha28.keep f33 (fun j _ e => by subst e; exact Tg.not hcb (by decide)) (G := Grow F w w35) fun j _ hj => Grow.mono (by omega) hj) f35 (fun j _ e => ?_) fun j _ hj => hj
    subst e
    exact hm33.noTg _
  · have hkept := hp28.len
    have hrp : pb ≠ r := fun e => hm33.ne hpb33 e.symm
    have hra' : ∀ x, some a = some x → ¬ x.block = r := fun x hx e => by cases hx; exact hra e.symm
    refine ⟨⟨some a, ec28, by simp only [List.length_set]; exact f35.b hpb33 hrp, by simp only [List.length_set]; exact ho33.frame f35 hra', fun x hx => Grow.mono (by omega) (hEF28 x hx)⟩, ?_, ⟨Grow.mono (by omega) hp28.foot.1, Grow.mono (by omega) hp28.foot.2⟩, by simp only [List.length_set]; exact hkept⟩
    have := hm35 (strM num') (by simp [strM, hn1]) (fun x hx => by
      rw [hpn.1]
      cases x <;> first | rfl | (simp only [strM]; rw [hn2 _ (fun e => hx (by rw [e]))]))
    rw [hpn.1, hm0, hpn.2] at this
    exact this
  · have r33 : Fr (Mod w F apTs [r]) w w33 := fr28.then_ f33 fun j hj e => by
      subst e
      rcases hFa with h1 | h1
      · exact fr28.mod_back hj h1 ⟨_, cur, hcb, by decide⟩
      · omega
    exact r33.then_ f35 fun j hj e => by subst e; exact ⟨hp.foot.2, .inr (by simp)⟩

end Go.Proofs.YtdaookipaknoeaaGreat
