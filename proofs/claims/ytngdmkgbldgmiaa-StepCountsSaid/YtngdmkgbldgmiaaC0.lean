/-
  Machines of one memory, apart from each other; a step of one leaves the others as they were.
-/
import Derived.Test.YtngdmkgbldgmiaaB6
namespace Go.Proofs.Ytngdmkgbldgmiaa
open Go.RowKit

/-- A machine in the heap: its blocks, its log, its function. -/
structure Mach where
  xb : Nat
  pb : Nat
  lv : Value
  P : PortS
  m : MachS
  fid : Nat
  caps : Array Value
def Mach.fv (T : Mach) : Value := .func (.func T.fid) #[] T.caps
def Mach.ctx (mb cb : Nat) (T : Mach) : Ctx := ⟨mb, cb, T.pb⟩
/-- One that ended has no log any more. -/
def MachOk (w : World) (mb : Nat) (T : Mach) : Prop :=
  MachAt w T.pb T.xb T.fv T.m ∧
  (T.m.ended = true → lvb T.lv = [] ∧ w.heap[T.pb]? = some (.cells #[.pointer (some ⟨mb, 0, none⟩), .slice none 0 0, .int .i64 T.P.pos, .int .i64 T.P.left, .int .i64 T.P.note] 158 (0, 0))) ∧
  (T.m.ended = false → PortAt w mb T.pb T.lv T.P)
def Apart (T U : Mach) : Prop := T.xb ≠ U.xb ∧ T.pb ≠ U.pb ∧ ∀ g ∈ lvb T.lv, g ∉ lvb U.lv
def Team (w : World) (mb cb : Nat) (M : MemS) (L : List Mach) : Prop :=
  MemAt w mb cb M ∧ (∀ T ∈ L, MachOk w mb T) ∧ L.Pairwise Apart

theorem Apart.symm {T U : Mach} (h : Apart T U) : Apart U T := ⟨Ne.symm h.1, Ne.symm h.2.1, fun g hg hm => h.2.2 g hm hg⟩

theorem MachOk.lvb_heap {w : World} {mb : Nat} {T : Mach} (h : MachOk w mb T) {g : Nat} (hg : g ∈ lvb T.lv) : ∃ cur, w.heap[g]? = some (.cells cur 162 (0, 0)) := by
  cases he : T.m.ended with
  | true => rw [(h.2.1 he).1] at hg; simp at hg
  | false => exact Ytngdmkgbldgmiaa.lvb_heap (h.2.2 he) hg
theorem MachOk.pb_heap {w : World} {mb : Nat} {T : Mach} (h : MachOk w mb T) : ∃ cur, w.heap[T.pb]? = some (.cells cur 158 (0, 0)) := by
  cases he : T.m.ended with
  | true => exact ⟨_, (h.2.1 he).2⟩
  | false => exact ⟨_, (h.2.2 he).1⟩

/-- Another machine is as it was. -/
theorem MachOk.fr {w w' : World} {mb : Nat} {T : Mach} {S : List Nat} (h : MachOk w mb T) (hf : Fr S w w') (h1 : T.xb ∉ S) (h2 : T.pb ∉ S) (h3 : ∀ g ∈ lvb T.lv, g ∉ S) : MachOk w' mb T :=
  ⟨hf.keep h.1 h1, fun he => ⟨(h.2.1 he).1, hf.keep (h.2.1 he).2 h2⟩, fun he => (h.2.2 he).fr hf h2 h3⟩
theorem Team.fr {w w' : World} {mb cb : Nat} {M : MemS} {L : List Mach} (h : Team w mb cb M L) (hf : Fr [] w w') : Team w' mb cb M L :=
  ⟨h.1.fr hf (by simp) (by simp), fun T hT => (h.2.1 T hT).fr hf (by simp) (by simp) (fun _ _ => by simp), h.2.2⟩
/-- .. where other blocks turn, of other types. -/
theorem Team.fr' {w w' : World} {mb cb : Nat} {M : MemS} {L : List Mach} {S : List Nat} (h : Team w mb cb M L) (hf : Fr S w w')
    (hS : ∀ x ∈ S, ∃ c T f, w.heap[x]? = some (.cells c T f) ∧ T ≠ 153 ∧ T ≠ 219 ∧ T ≠ 158 ∧ T ≠ 160 ∧ T ≠ 162) : Team w' mb cb M L := by
  have ne : ∀ {b : Nat} {c : Array Value} {T : TypeId} {f : Nat × Nat}, w.heap[b]? = some (.cells c T f) → (T = 153 ∨ T = 219 ∨ T = 158 ∨ T = 160 ∨ T = 162) → b ∉ S := by
    intro b c T f hb hT hm
    obtain ⟨c', T', f', h', n1, n2, n3, n4, n5⟩ := hS b hm
    rw [hb] at h'
    simp only [Option.some.injEq, Obj.cells.injEq] at h'
    obtain ⟨_, rfl, _⟩ := h'
    rcases hT with h | h | h | h | h
    · exact n1 h
    · exact n2 h
    · exact n3 h
    · exact n4 h
    · exact n5 h
  refine ⟨h.1.fr hf (ne h.1.1 (by simp)) (ne h.1.2.1 (by simp)), fun T hT => ?_, h.2.2⟩
  have hk := h.2.1 T hT
  obtain ⟨c, hc⟩ := hk.pb_heap
  exact hk.fr hf (ne hk.1 (by simp)) (ne hc (by simp)) (fun g hg => by obtain ⟨_, h'⟩ := hk.lvb_heap hg; exact ne h' (by simp))

theorem Team.member {w : World} {mb cb : Nat} {M : MemS} {L : List Mach} (h : Team w mb cb M L) {k : Nat} {T : Mach} (hk : L[k]? = some T) : MachOk w mb T :=
  h.2.1 T (List.mem_of_getElem? hk)

theorem pairwise_set {α : Type} {R : α → α → Prop} (hs : ∀ a b, R a b → R b a) {L : List α} {k : Nat} {T T' : α} (h : L.Pairwise R) (hk : L[k]? = some T) (hR : ∀ j U, j ≠ k → L[j]? = some U → R T' U) : (L.set k T').Pairwise R := by
  rw [List.pairwise_iff_getElem] at h ⊢
  intro i j hi hj hij
  simp only [List.length_set] at hi hj
  simp only [List.getElem_set]
  split
  · rename_i hki
    split
    · omega
    · exact hR j _ (by omega) (List.getElem?_eq_getElem hj)
  · split
    · exact hs _ _ (hR i _ (by omega) (List.getElem?_eq_getElem hi))
    · exact h i j hi hj hij

/-- A step of machine k: what it leaves of the team. -/
theorem Team.turn {w w' : World} {mb cb : Nat} {M M' : MemS} {L : List Mach} (h : Team w mb cb M L) {k : Nat} {T T' : Mach} (hk : L[k]? = some T)
    (hx : T'.xb = T.xb) (hp : T'.pb = T.pb) (hM : MemAt w' mb cb M') (hT : MachOk w' mb T') (hf : Fr (T.xb :: mb :: cb :: T.pb :: lvb T.lv) w w') (hg : ∀ g ∈ lvb T'.lv, g ∈ lvb T.lv ∨ w.heap.size ≤ g) :
    Team w' mb cb M' (L.set k T') := by
  have hTk := h.member hk
  obtain ⟨cp, hcp⟩ := hTk.pb_heap
  have apart : ∀ j U, j ≠ k → L[j]? = some U → Apart T U := by
    intro j U hj hU
    have hpw := List.pairwise_iff_getElem.1 h.2.2
    have hjl := getElem?_lt hU
    have hkl := getElem?_lt hk
    rw [List.getElem?_eq_getElem hjl] at hU
    rw [List.getElem?_eq_getElem hkl] at hk
    simp only [Option.some.injEq] at hU hk
    subst hU hk
    rcases Nat.lt_or_gt_of_ne hj with hlt | hlt
    · exact (hpw j k hjl hkl hlt).symm
    · exact hpw k j hkl hjl hlt
  have keep : ∀ U, U ∈ L → Apart T U → MachOk w' mb U := by
    intro U hU ha
    have hk := h.2.1 U hU
    obtain ⟨cu, hcu⟩ := hk.pb_heap
    refine hk.fr hf ?_ ?_ ?_
    · simp only [List.mem_cons, not_or]
      refine ⟨Ne.symm ha.1, ne_types hk.1 h.1.1 (by decide), ne_types hk.1 h.1.2.1 (by decide), ne_types hk.1 hcp (by decide), fun hm => ?_⟩
      obtain ⟨_, h'⟩ := hTk.lvb_heap hm
      exact ne_types hk.1 h' (by decide) rfl
    · simp only [List.mem_cons, not_or]
      refine ⟨ne_types hcu hTk.1 (by decide), ne_types hcu h.1.1 (by decide), ne_types hcu h.1.2.1 (by decide), Ne.symm ha.2.1, fun hm => ?_⟩
      obtain ⟨_, h'⟩ := hTk.lvb_heap hm
      exact ne_types hcu h' (by decide) rfl
    · intro g hg
      obtain ⟨_, h'⟩ := hk.lvb_heap hg
      simp only [List.mem_cons, not_or]
      exact ⟨ne_types h' hTk.1 (by decide), ne_types h' h.1.1 (by decide), ne_types h' h.1.2.1 (by decide), ne_types h' hcp (by decide), fun hm => ha.2.2 g hm hg⟩
  refine ⟨hM, fun U hU => ?_, pairwise_set (fun a b => Apart.symm) h.2.2 hk (fun j U hj hU => ?_)⟩
  · rcases List.mem_or_eq_of_mem_set hU with hm | rfl
    · by_cases hex : ∃ j, j ≠ k ∧ L[j]? = some U
      · obtain ⟨j, hj, hU'⟩ := hex
        exact keep U hm (apart j U hj hU')
      · -- it is at k alone: then it is not in the new list but as T'
        obtain ⟨i, hi, hiU⟩ := List.getElem_of_mem hU
        simp only [List.length_set] at hi
        by_cases hik : k = i
        · subst hik
          simp only [List.getElem_set_self] at hiU
          exact hiU ▸ hT
        · rw [List.getElem_set_ne hik] at hiU
          exact absurd ⟨i, fun e => hik e.symm, by rw [List.getElem?_eq_getElem hi, hiU]⟩ hex
    · exact hT
  · have ha := apart j U hj hU
    refine ⟨hx ▸ ha.1, hp ▸ ha.2.1, fun g hg' hm => ?_⟩
    rcases hg g hg' with h' | h'
    · exact ha.2.2 g h' hm
    · obtain ⟨_, h''⟩ := (h.member hU).lvb_heap hm
      have := lt_of_heap h''
      omega

/-- A new machine joins. -/
theorem Team.join {w w' : World} {mb cb : Nat} {M : MemS} {L : List Mach} (h : Team w' mb cb M L) {T : Mach} (hT : MachOk w' mb T) (hn : lvb T.lv = []) (ha : ∀ U ∈ L, U.xb ≠ T.xb ∧ U.pb ≠ T.pb) : Team w' mb cb M (L ++ [T]) := by
  refine ⟨h.1, fun U hU => ?_, ?_⟩
  · rw [List.mem_append, List.mem_singleton] at hU
    rcases hU with hU | rfl
    · exact h.2.1 U hU
    · exact hT
  · rw [List.pairwise_append]
    refine ⟨h.2.2, by simp, fun U hU V hV => ?_⟩
    simp only [List.mem_singleton] at hV
    subst hV
    exact ⟨(ha U hU).1, (ha U hU).2, fun g _ hm => by rw [hn] at hm; simp at hm⟩

/-- The state that machine T's function meets. -/
def Mach.st (T : Mach) (M : MemS) : St := ⟨M, T.P⟩
theorem Team.rep {w : World} {mb cb : Nat} {M : MemS} {L : List Mach} (h : Team w mb cb M L) {k : Nat} {T : Mach} (hk : L[k]? = some T) (he : T.m.ended = false) : Rep w (T.ctx mb cb) T.lv (T.st M) :=
  ⟨h.1, (h.member hk).2.2 he⟩

theorem Team.stepped {w w' : World} {mb cb : Nat} {M : MemS} {L : List Mach} (h : Team w mb cb M L) {k : Nat} {T : Mach} (hk : L[k]? = some T) {S1 : St} (hs : Stepped (T.ctx mb cb) T.xb T.fv T.m w T.lv S1 w') :
    ∃ lv', Team w' mb cb S1.M (L.set k { T with lv := lv', P := S1.P, m := { T.m with steps := S1.P.log.length, ended := false } }) ∧ Fr (T.xb :: mb :: cb :: T.pb :: lvb T.lv) w w' := by
  obtain ⟨lv', hR, hf, hg, hm⟩ := hs
  exact ⟨lv', h.turn hk (T' := { T with lv := lv', P := S1.P, m := { T.m with steps := S1.P.log.length, ended := false } }) rfl rfl hR.1 ⟨hm, fun he => by simp at he, fun _ => hR.2⟩ hf hg, hf⟩
theorem Team.finished {w w' : World} {mb cb : Nat} {M : MemS} {L : List Mach} (h : Team w mb cb M L) {k : Nat} {T : Mach} (hk : L[k]? = some T) {S1 : St} {ov : Value} (hs : Finished (T.ctx mb cb) T.xb T.fv ov w T.lv S1 w') :
    Team w' mb cb S1.M (L.set k { T with lv := .slice none 0 0, P := S1.P, m := ⟨ov, S1.P.log.length, true⟩ }) ∧ Fr (T.xb :: mb :: cb :: T.pb :: lvb T.lv) w w' := by
  obtain ⟨hM, hf, hm, hp⟩ := hs
  exact ⟨h.turn hk (T' := { T with lv := .slice none 0 0, P := S1.P, m := ⟨ov, S1.P.log.length, true⟩ }) rfl rfl hM ⟨hm, fun _ => ⟨rfl, hp⟩, fun he => by simp at he⟩ hf (fun g hg => by simp [lvb, Value.ownBlock] at hg), hf⟩
end Go.Proofs.Ytngdmkgbldgmiaa
