/-
  A band of machines: all that was made since the call began.
-/
import Derived.Test.YtngdmkgbldgmiaaC0
namespace Go.Proofs.Ytngdmkgbldgmiaa
open Go.RowKit

/-- Memory and machines that were made since world w0. -/
structure Band (w0 w : World) (mb cb : Nat) (M : MemS) (L : List Mach) : Prop where
  team : Team w mb cb M L
  fr : Fr [] w0 w
  mem : w0.heap.size ≤ mb ∧ w0.heap.size ≤ cb
  mach : ∀ T ∈ L, w0.heap.size ≤ T.xb ∧ w0.heap.size ≤ T.pb ∧ ∀ g ∈ lvb T.lv, w0.heap.size ≤ g

theorem Fr.below {w w' : World} (h : Fr [] w w') : Below w.heap.size w w' := ⟨h.os, h.tape, h.output, h.size, fun k hk => h.block k hk (by simp)⟩

theorem Band.of_mem {w0 w : World} {mb cb : Nat} {M : MemS} (h : MemAt w mb cb M) (hf : Fr [] w0 w) (h1 : w0.heap.size ≤ mb) (h2 : w0.heap.size ≤ cb) : Band w0 w mb cb M [] :=
  ⟨⟨h, by simp, by simp⟩, hf, ⟨h1, h2⟩, by simp⟩

/-- Memory asked by its maker. -/
theorem Band.asked {w0 w w' : World} {mb cb : Nat} {M M' : MemS} {L : List Mach} (h : Band w0 w mb cb M L) (hM : MemAt w' mb cb M') (hf : Fr [mb, cb] w w') : Band w0 w' mb cb M' L := by
  refine ⟨⟨hM, fun T hT => ?_, h.team.2.2⟩, (h.fr.trans hf (fun x hx => by simp at hx; rcases hx with rfl | rfl; exact .inr h.mem.1; exact .inr h.mem.2)), h.mem, h.mach⟩
  have hk := h.team.2.1 T hT
  obtain ⟨c, hc⟩ := hk.pb_heap
  refine hk.fr hf ?_ ?_ ?_
  · simp only [List.mem_cons, List.not_mem_nil, or_false, not_or]
    exact ⟨ne_types hk.1 h.team.1.1 (by decide), ne_types hk.1 h.team.1.2.1 (by decide)⟩
  · simp only [List.mem_cons, List.not_mem_nil, or_false, not_or]
    exact ⟨ne_types hc h.team.1.1 (by decide), ne_types hc h.team.1.2.1 (by decide)⟩
  · intro g hg
    obtain ⟨_, h'⟩ := hk.lvb_heap hg
    simp only [List.mem_cons, List.not_mem_nil, or_false, not_or]
    exact ⟨ne_types h' h.team.1.1 (by decide), ne_types h' h.team.1.2.1 (by decide)⟩

/-- Other blocks of the call's own turn. -/
theorem Band.other {w0 w w' : World} {mb cb : Nat} {M : MemS} {L : List Mach} {S : List Nat} (h : Band w0 w mb cb M L) (hf : Fr S w w')
    (hS : ∀ x ∈ S, w.heap.size ≤ x ∨ w0.heap.size ≤ x ∧ ∃ c T f, w.heap[x]? = some (.cells c T f) ∧ T ≠ 153 ∧ T ≠ 219 ∧ T ≠ 158 ∧ T ≠ 160 ∧ T ≠ 162) : Band w0 w' mb cb M L := by
  have hS0 : ∀ x ∈ S, w0.heap.size ≤ x := fun x hx => by
    rcases hS x hx with h' | h'
    · exact Nat.le_trans h.fr.size h'
    · exact h'.1
  let S' := S.filter (fun x => decide (x < w.heap.size))
  have hf' : Fr S' w w' := hf.mono (fun x hx => by
    by_cases hl : x < w.heap.size
    · exact .inl (List.mem_filter.2 ⟨hx, by simpa using hl⟩)
    · exact .inr (by omega))
  refine ⟨h.team.fr' hf' (fun x hx => ?_), h.fr.trans hf (fun x hx => .inr (hS0 x hx)), h.mem, h.mach⟩
  obtain ⟨h1, h2⟩ := List.mem_filter.1 hx
  rcases hS x h1 with h' | h'
  · simp at h2; omega
  · exact h'.2

/-- A machine that was just made. -/
def Mach.born (w : World) (fid : Nat) (caps : Array Value) : Mach := ⟨w.heap.size + 1, w.heap.size, .slice none 0 0, ⟨[], 0, 0, 0⟩, ⟨.nilIface, 0, false⟩, fid, caps⟩
theorem Band.born {w0 w w' : World} {mb cb : Nat} {M : MemS} {L : List Mach} (h : Band w0 w mb cb M L) (fid : Nat) (caps : Array Value)
    (hw : w' = (w.alloc (.cells #[.pointer (some ⟨mb, 0, none⟩), .slice none 0 0, .int .i64 0, .int .i64 0, .int .i64 0] 158)).alloc (.cells #[.pointer (some ⟨w.heap.size, 0, none⟩), .func (.func fid) #[] caps, .nilIface, .int .i64 0, .bool false] 160)) :
    Band w0 w' mb cb M (L ++ [Mach.born w fid caps]) := by
  subst hw
  have hf : Fr [] w ((w.alloc (.cells #[.pointer (some ⟨mb, 0, none⟩), .slice none 0 0, .int .i64 0, .int .i64 0, .int .i64 0] 158)).alloc (.cells #[.pointer (some ⟨w.heap.size, 0, none⟩), .func (.func fid) #[] caps, .nilIface, .int .i64 0, .bool false] 160)) := ((Fr.refl _ _).alloc _).alloc _
  have hs := h.fr.size
  have h1 := heap_new (w.alloc (.cells #[.pointer (some ⟨mb, 0, none⟩), .slice none 0 0, .int .i64 0, .int .i64 0, .int .i64 0] 158)) (.cells #[.pointer (some ⟨w.heap.size, 0, none⟩), .func (.func fid) #[] caps, .nilIface, .int .i64 0, .bool false] 160)
  rw [World.size_alloc] at h1
  have h2 := heap_old (.cells #[.pointer (some ⟨w.heap.size, 0, none⟩), .func (.func fid) #[] caps, .nilIface, .int .i64 0, .bool false] 160) (heap_new w (.cells #[.pointer (some ⟨mb, 0, none⟩), .slice none 0 0, .int .i64 0, .int .i64 0, .int .i64 0] 158))
  refine ⟨Team.join (w := w) (h.team.fr hf) ⟨h1, fun he => by simp [Mach.born] at he, fun _ => ⟨h2, ⟨rfl, .inl ⟨rfl, rfl⟩⟩, by simp [Mach.born], by simp [Mach.born], by simp [Mach.born], by simp [Mach.born]⟩⟩ (by simp [lvb, Mach.born, Value.ownBlock]) ?_, h.fr.trans' hf, h.mem, ?_⟩
  · intro U hU
    have hk := h.team.2.1 U hU
    obtain ⟨c, hc⟩ := hk.pb_heap
    have a1 := lt_of_heap hk.1
    have a2 := lt_of_heap hc
    simp only [Mach.born]
    omega
  · intro T hT
    rw [List.mem_append, List.mem_singleton] at hT
    rcases hT with hT | rfl
    · exact h.mach T hT
    · refine ⟨by simp only [Mach.born]; omega, by simp only [Mach.born]; omega, fun g hg => ?_⟩
      simp [Mach.born, lvb, Value.ownBlock] at hg

theorem Band.bears {w0 w : World} {mb cb : Nat} {M : MemS} {L : List Mach} (h : Band w0 w mb cb M L) (fid : Nat) (caps : Array Value) :
    Calls Try.prog 18 #[.pointer (some ⟨mb, 0, none⟩), .func (.func fid) #[] caps] w fun e w' => e = .returned (.pointer (some ⟨w.heap.size + 1, 0, none⟩)) ∧ Band w0 w' mb cb M (L ++ [Mach.born w fid caps]) ∧ Fr [] w w' := by
  refine (mnew_machine mb _ w ⟨_, _, _, rfl⟩).mono ?_
  rintro e w' ⟨rfl, hw⟩
  refine ⟨rfl, h.born fid caps hw, ?_⟩
  rw [hw]
  exact ((Fr.refl _ _).alloc _).alloc _
theorem Band.at {w0 w : World} {mb cb : Nat} {M : MemS} {L : List Mach} (h : Band w0 w mb cb M L) {k : Nat} {T : Mach} (hk : L[k]? = some T) : MachAt w T.pb T.xb T.fv T.m := (h.team.member hk).1

def Res.done {α : Type} : Res α → Bool
  | .ok _ _ => true
  | _ => false
def Res.mem {α : Type} (M : MemS) : Res α → MemS
  | .ok _ S => S.M
  | .pause S => S.M
  | .oof => M
def Mach.after (T : Mach) (lv' : Value) : Res Value → Mach
  | .ok v S1 => { T with lv := .slice none 0 0, P := S1.P, m := ⟨v, S1.P.log.length, true⟩ }
  | .pause S1 => { T with lv := lv', P := S1.P, m := { T.m with steps := S1.P.log.length, ended := false } }
  | .oof => T

theorem Band.turned {w0 w w' : World} {mb cb : Nat} {M M' : MemS} {L : List Mach} (h : Band w0 w mb cb M L) {k : Nat} {T T' : Mach} (hk : L[k]? = some T) (ht : Team w' mb cb M' (L.set k T')) (hf : Fr (T.xb :: mb :: cb :: T.pb :: lvb T.lv) w w') (hx : T'.xb = T.xb) (hp : T'.pb = T.pb) (hg : ∀ g ∈ lvb T'.lv, g ∈ lvb T.lv ∨ w.heap.size ≤ g) : Band w0 w' mb cb M' (L.set k T') := by
  have hb := h.mach T (List.mem_of_getElem? hk)
  refine ⟨ht, h.fr.trans hf (fun x hx => .inr ?_), h.mem, fun U hU => ?_⟩
  · simp only [List.mem_cons] at hx
    rcases hx with rfl | rfl | rfl | rfl | hx
    · exact hb.1
    · exact h.mem.1
    · exact h.mem.2
    · exact hb.2.1
    · exact hb.2.2 x hx
  · rcases List.mem_or_eq_of_mem_set hU with hm | rfl
    · exact h.mach U hm
    · refine ⟨hx ▸ hb.1, hp ▸ hb.2.1, fun g hg' => ?_⟩
      rcases hg g hg' with h' | h'
      · exact hb.2.2 g h'
      · exact Nat.le_trans h.fr.size h'

theorem Band.step {w0 w : World} {mb cb : Nat} {M : MemS} {L : List Mach} (h : Band w0 w mb cb M L) {k : Nat} {T : Mach} (hk : L[k]? = some T) (he : T.m.ended = false) (hlen : T.P.log.length + 1 ≤ 1000000)
    {α : Type} {enc : α → Value} (henc : ∀ a, enc a = .nilIface ∨ ∃ t x, enc a = .iface t x) {r : Res α} (hne : r ≠ .oof)
    (hcf : ∀ W, (callFunc T.fid (#[.pointer (some ⟨T.pb, 0, none⟩)] ++ T.caps)).run Try.prog W = .ok (.enter T.fid (#[.pointer (some ⟨T.pb, 0, none⟩)] ++ T.caps)) W)
    (hcl : ∀ W, Fr [T.pb] w W → Rep W (T.ctx mb cb) T.lv (T.st M).again → Calls Try.prog T.fid (#[.pointer (some ⟨T.pb, 0, none⟩)] ++ T.caps) W (r.out (T.ctx mb cb) W T.lv enc)) :
    Calls Try.prog 22 #[.pointer (some ⟨T.xb, 0, none⟩)] w fun e w' => e = .returned (.bool r.done) ∧ ∃ lv', Band w0 w' mb cb (r.mem M) (L.set k (T.after lv' (match r with | .ok a S => .ok (enc a) S | .pause S => .pause S | .oof => .oof))) ∧ Fr (T.xb :: mb :: cb :: T.pb :: lvb T.lv) w w' := by
  have hR := h.team.rep hk he
  have hm := h.team.member hk
  cases r with
  | oof => exact absurd rfl hne
  | pause S1 =>
    refine (step_pause (C := T.ctx mb cb) hR hm.1 he hlen hcf (fun W hf hR' => hcl W hf hR')).mono ?_
    rintro e w' ⟨rfl, hs⟩
    obtain ⟨lv', hR', hf, hg, hma⟩ := hs
    refine ⟨rfl, lv', h.turned hk (h.team.turn hk rfl rfl hR'.1 ⟨hma, fun he' => by simp [Mach.after] at he', fun _ => hR'.2⟩ hf hg) hf rfl rfl hg, hf⟩
  | ok a S1 =>
    refine (step_done (C := T.ctx mb cb) (henc a) hR hm.1 he hlen hcf (fun W hf hR' => hcl W hf hR')).mono ?_
    rintro e w' ⟨rfl, hM', hf, hma, hp⟩
    refine ⟨rfl, .slice none 0 0, h.turned hk (h.team.turn hk rfl rfl hM' ⟨hma, fun _ => ⟨rfl, hp⟩, fun he' => by simp [Mach.after] at he'⟩ hf ?_) hf rfl rfl ?_, hf⟩
    · exact fun g hg => by simp [lvb, Mach.after, Value.ownBlock] at hg
    · exact fun g hg => by simp [lvb, Mach.after, Value.ownBlock] at hg
end Go.Proofs.Ytngdmkgbldgmiaa
