/-
  Memory's calls, the rest: cells that are allocated, freed, retired, reaped; what memory tells of itself; memory that is made.
-/
import Derived.Test.YtngdmkgbldgmiaaA3
namespace Go.Proofs.Ytngdmkgbldgmiaa
open Go.RowKit

def MemS.freeAt (M : MemS) (i : Nat) : MemS :=
  { M with l := M.l.set i ⟨none, wrap64 ((M.l.getD i mcell0).gen + 1), 0, false⟩, live := wrap64 (M.live - 1) }

theorem memAt_cell4 {mb cb : Nat} {M : MemS} {w : World} (hM : MemAt w mb cb M) {i : Nat} {c : MCell} (hc : M.l[i]? = some c) (c' : MCell) :
    MemAt ((((w.setCell ⟨cb, i * 4, none⟩ (encV c'.v)).setCell ⟨cb, i * 4 + 1, none⟩ (.int .i64 c'.gen)).setCell ⟨cb, i * 4 + 2, none⟩ (.int .i64 c'.stamp)).setCell ⟨cb, i * 4 + 3, none⟩ (.bool c'.ret)) mb cb
      { M with l := M.l.set i c' } := by
  have hlt : i < M.l.length := by
    rcases Nat.lt_or_ge i M.l.length with h | h
    · exact h
    · rw [List.getElem?_eq_none h] at hc; simp at hc
  have h1 := memAt_cell hM hc 0 (by omega) { c with v := c'.v } (encV c'.v) rfl
  have h2 := memAt_cell (i := i) (c := { c with v := c'.v }) h1 (by simp [hlt]) 1 (by omega) { c with v := c'.v, gen := c'.gen } (.int .i64 c'.gen) rfl
  have h3 := memAt_cell (i := i) (c := { c with v := c'.v, gen := c'.gen }) h2 (by simp [hlt]) 2 (by omega) { c with v := c'.v, gen := c'.gen, stamp := c'.stamp } (.int .i64 c'.stamp) rfl
  have h4 := memAt_cell (i := i) (c := { c with v := c'.v, gen := c'.gen, stamp := c'.stamp }) h3 (by simp [hlt]) 3 (by omega) c' (.bool c'.ret) rfl
  simp only [List.set_set] at h4
  exact h4

theorem free_does {mb cb : Nat} {M : MemS} {w : World} (hM : MemAt w mb cb M) {i : Nat} {c : MCell} (hc : M.l[i]? = some c) :
    Calls Try.prog 191 #[.pointer (some ⟨mb, 0, none⟩), .pointer (some ⟨cb, i * 4, none⟩)] w fun e w' =>
      e = .returned (.tuple #[]) ∧ MemAt w' mb cb (M.freeAt i) ∧ Fr [mb, cb] w w' := by
  obtain ⟨m0, m1, m2, m3, fm, fc⟩ := mcell_facts hM
  have hne : ¬ mb = cb := hM.2.2.1
  have hne' : ¬ cb = mb := fun e => hne e.symm
  obtain ⟨c0, c1, c2, c3⟩ := mcell_row hM hc
  have HM := hid hM
  have Hc := hid hc
  have hf : M.freeAt i = { M with l := M.l.set i ⟨none, wrap64 (c.gen + 1), 0, false⟩, live := wrap64 (M.live - 1) } := by
    unfold MemS.freeAt; simp only [List.getD_eq_getElem?_getD, hc, Option.getD_some]
  have Hf := hid hf
  clear hM hc hf
  generalize encV c.v = cv at c0
  go_enter Try.func191, Try.ntmps191
  go_wp2
  go_end0
  refine ⟨rfl, ?_, ?_⟩
  · rw [Hf.out]
    exact memAt_live (memAt_cell4 HM.out Hc.out ⟨none, wrap64 (c.gen + 1), 0, false⟩) _
  · exact (((((Fr.refl _ _).setCell _ _ (.inl (by simp))).setCell _ _ (.inl (by simp))).setCell _ _ (.inl (by simp))).setCell _ _ (.inl (by simp))).setCell _ _ (.inl (by simp))

/-- 'Free' of memory. -/
def MemS.freeOf (M : MemS) (h : Int) : MemS × Int :=
  match M.content h with
  | none => (M.cellSt h, 5)
  | some (i, _) => ((M.cellSt h).freeAt i, 0)

theorem fr2 {mb cb : Nat} {w w' : World} (h : Fr [mb] w w') : Fr [mb, cb] w w' := h.mono (fun x hx => .inl (by simp at hx; simp [hx]))

theorem mfree_does {mb cb : Nat} {M : MemS} {w : World} (hM : MemAt w mb cb M) (h : Int) :
    Calls Try.prog 175 #[.pointer (some ⟨mb, 0, none⟩), .int .i64 h] w fun e w' =>
      e = .returned (.int .i64 (M.freeOf h).2) ∧ MemAt w' mb cb (M.freeOf h).1 ∧ Fr [mb, cb] w w' := by
  rcases cell_by hM h with ⟨hf, hcd⟩ | ⟨i, c, v, hct, hc, hv, hcd⟩
  · have hw : M.freeOf h = (M.cellSt h, 5) := by unfold MemS.freeOf; rw [hf]
    rw [hw]
    clear hw hf
    go_enter Try.func175, Try.ntmps175
    go_wp2_with (go_at_call 160; refine hcd.mono ?_; rintro e w' ⟨rfl, hM', hfr⟩)
    go_ret
    exact ⟨rfl, hM', fr2 hfr⟩
  · have hw : M.freeOf h = ((M.cellSt h).freeAt i, 0) := by unfold MemS.freeOf; rw [hct]
    rw [hw]
    have Hc := hid hc
    clear hw hct hc hv
    go_enter Try.func175, Try.ntmps175
    go_wp2_with (first | (go_at_call 160; refine hcd.mono ?_; rintro e w' ⟨rfl, hM', hfr⟩) | (go_at_call 191; refine (free_does (by assumption) (i := i) (by rw [cellSt_l]; exact Hc.out)).mono ?_; rintro e w2 ⟨rfl, hM2, hfr2⟩))
    go_ret
    exact ⟨rfl, hM2, (fr2 hfr).trans' hfr2⟩

def MemS.retireAt (M : MemS) (i : Nat) (s : Int) : MemS :=
  let c := M.l.getD i mcell0
  { M with l := M.l.set i { c with stamp := if !c.ret || decide (c.stamp < s) then s else c.stamp, ret := true } }
/-- 'Retire' of memory. -/
def MemS.retireOf (M : MemS) (h s : Int) : MemS × Int :=
  match M.content h with
  | none => (M.cellSt h, 5)
  | some (i, _) => ((M.cellSt h).retireAt i s, 0)

theorem mretire_does {mb cb : Nat} {M : MemS} {w : World} (hM : MemAt w mb cb M) (h s : Int) :
    Calls Try.prog 185 #[.pointer (some ⟨mb, 0, none⟩), .int .i64 h, .int .i64 s] w fun e w' =>
      e = .returned (.int .i64 (M.retireOf h s).2) ∧ MemAt w' mb cb (M.retireOf h s).1 ∧ Fr [mb, cb] w w' := by
  rcases cell_by hM h with ⟨hf, hcd⟩ | ⟨i, c, v, hct, hc, hv, hcd⟩
  · have hw : M.retireOf h s = (M.cellSt h, 5) := by unfold MemS.retireOf; rw [hf]
    rw [hw]
    clear hw hf
    go_enter Try.func185, Try.ntmps185
    go_wp2_with (go_at_call 160; refine hcd.mono ?_; rintro e w' ⟨rfl, hM', hfr⟩)
    go_ret
    exact ⟨rfl, hM', fr2 hfr⟩
  · have hc' : (M.cellSt h).l[i]? = some c := by rw [cellSt_l]; exact hc
    have hlt : i < (M.cellSt h).l.length := by
      rcases Nat.lt_or_ge i (M.cellSt h).l.length with h | h
      · exact h
      · rw [List.getElem?_eq_none h] at hc'; simp at hc'
    have hw : M.retireOf h s = ({ M.cellSt h with l := (M.cellSt h).l.set i { c with stamp := if !c.ret || decide (c.stamp < s) then s else c.stamp, ret := true } }, 0) := by
      unfold MemS.retireOf; rw [hct]; unfold MemS.retireAt; simp only [List.getD_eq_getElem?_getD, hc', Option.getD_some]
    rw [hw]
    have Hc := hid hc'
    clear hw hct hc hv hc'
    obtain ⟨cv, gen, stamp, ret⟩ := c
    dsimp only
    cases ret with
    | false =>
      simp only [Bool.not_false, Bool.true_or, if_true]
      go_enter Try.func185, Try.ntmps185
      go_wp2_with (go_at_call 160; refine hcd.mono ?_; rintro e w' ⟨rfl, hM', hfr⟩; obtain ⟨-, c1, c2, c3⟩ := mcell_row hM' Hc.out; have fc := (mcell_facts hM').2.2.2.2.2)
      go_ret
      refine ⟨rfl, ?_, ((fr2 hfr).setCell _ _ (.inl (by simp))).setCell _ _ (.inl (by simp))⟩
      have h1 := memAt_cell hM' Hc.out 2 (by omega) ⟨cv, gen, s, false⟩ (.int .i64 s) rfl
      have h2 := memAt_cell (i := i) (c := ⟨cv, gen, s, false⟩) h1 (by simp [hlt]) 3 (by omega) ⟨cv, gen, s, true⟩ (.bool true) rfl
      simpa only [List.set_set] using h2
    | true =>
      simp only [Bool.not_true, Bool.false_or]
      by_cases hs : stamp < s
      · rw [if_pos (by simpa using hs)]
        have hs' : decide (stamp < s) = true := by simpa using hs
        go_enter Try.func185, Try.ntmps185
        go_wp2_with (go_at_call 160; refine hcd.mono ?_; rintro e w' ⟨rfl, hM', hfr⟩; obtain ⟨-, c1, c2, c3⟩ := mcell_row hM' Hc.out; have fc := (mcell_facts hM').2.2.2.2.2)
        go_ret
        refine ⟨rfl, ?_, ((fr2 hfr).setCell _ _ (.inl (by simp))).setCell _ _ (.inl (by simp))⟩
        have h1 := memAt_cell hM' Hc.out 2 (by omega) ⟨cv, gen, s, true⟩ (.int .i64 s) rfl
        have h2 := memAt_cell (i := i) (c := ⟨cv, gen, s, true⟩) h1 (by simp [hlt]) 3 (by omega) ⟨cv, gen, s, true⟩ (.bool true) rfl
        simpa only [List.set_set] using h2
      · rw [if_neg (by simpa using hs)]
        have hs' : decide (stamp < s) = false := by simpa using hs
        go_enter Try.func185, Try.ntmps185
        go_wp2_with (go_at_call 160; refine hcd.mono ?_; rintro e w' ⟨rfl, hM', hfr⟩; obtain ⟨-, c1, c2, c3⟩ := mcell_row hM' Hc.out; have fc := (mcell_facts hM').2.2.2.2.2)
        go_ret
        refine ⟨rfl, ?_, (fr2 hfr).setCell _ _ (.inl (by simp))⟩
        exact memAt_cell hM' Hc.out 3 (by omega) ⟨cv, gen, stamp, true⟩ (.bool true) rfl

theorem mallocWord_does {mb cb : Nat} {M : MemS} {w : World} (hM : MemAt w mb cb M) (n : Int) :
    Calls Try.prog 17 #[.pointer (some ⟨mb, 0, none⟩), .int .i64 n] w fun e w' =>
      e = .returned (.tuple #[.int .i64 (M.asked.put (.word n)).1.1, .int .i64 (M.asked.put (.word n)).1.2]) ∧ MemAt w' mb cb (M.asked.put (.word n)).2 ∧ Fr [mb, cb] w w' := by
  obtain ⟨m0, m1, m2, m3, fm, fc⟩ := mcell_facts hM
  have HM : Hid (MemAt (w.setCell ⟨mb, 1, none⟩ (.int .i64 (wrap64 (M.count + 1)))) mb cb M.asked) := memAt_count hM _
  have hp := put_does HM.out (.word n)
  generalize M.asked.put (.word n) = r at hp ⊢
  obtain ⟨⟨a, er⟩, M'⟩ := r
  dsimp only [Cont.ty, Cont.val] at hp ⊢
  go_enter Try.func17, Try.ntmps17
  go_wp2_with (go_at_call 95; refine hp.mono ?_; rintro e w' ⟨rfl, hM', hfr⟩)
  go_ret2
  exact ⟨rfl, hM', ((Fr.refl _ _).setCell _ _ (.inl (by simp))).trans' hfr⟩

/-- 'Alloc' of memory. -/
def MemS.allocOf (M : MemS) : Option Cont → (Int × Int) × MemS
  | none => ((0, 6), M.asked)
  | some c => M.asked.put c

theorem malloc_does {mb cb : Nat} {M : MemS} {w : World} (hM : MemAt w mb cb M) (c : Option Cont) :
    Calls Try.prog 173 #[.pointer (some ⟨mb, 0, none⟩), encV c] w fun e w' =>
      e = .returned (.tuple #[.int .i64 (M.allocOf c).1.1, .int .i64 (M.allocOf c).1.2]) ∧ MemAt w' mb cb (M.allocOf c).2 ∧ Fr [mb, cb] w w' := by
  obtain ⟨m0, m1, m2, m3, fm, fc⟩ := mcell_facts hM
  have HM : Hid (MemAt (w.setCell ⟨mb, 1, none⟩ (.int .i64 (wrap64 (M.count + 1)))) mb cb M.asked) := memAt_count hM _
  cases c with
  | none =>
    simp only [encV, MemS.allocOf]
    go_enter Try.func173, Try.ntmps173
    go_wp2_with fail
    go_ret2
    exact ⟨rfl, HM.out, (Fr.refl _ _).setCell _ _ (.inl (by simp))⟩
  | some c =>
    have hp := put_does HM.out c
    simp only [encV, MemS.allocOf]
    generalize M.asked.put c = r at hp ⊢
    obtain ⟨⟨a, er⟩, M'⟩ := r
    generalize c.ty = t at hp ⊢
    generalize c.val = x at hp ⊢
    dsimp only at hp ⊢
    go_enter Try.func173, Try.ntmps173
    go_wp2_with (go_at_call 95; refine hp.mono ?_; rintro e w' ⟨rfl, hM', hfr⟩)
    go_ret2
    exact ⟨rfl, hM', ((Fr.refl _ _).setCell _ _ (.inl (by simp))).trans' hfr⟩

theorem mcells_does {mb cb : Nat} {M : MemS} {w : World} (hM : MemAt w mb cb M) :
    Calls Try.prog 180 #[.pointer (some ⟨mb, 0, none⟩)] w fun e w' => e = .returned (.int .i64 M.l.length) ∧ w' = w := by
  obtain ⟨m0, m1, m2, m3, fm, fc⟩ := mcell_facts hM
  clear hM
  go_enter Try.func180, Try.ntmps180
  go_wp2
  go_ret
  exact ⟨rfl, rfl⟩
theorem mcount_does {mb cb : Nat} {M : MemS} {w : World} (hM : MemAt w mb cb M) :
    Calls Try.prog 31 #[.pointer (some ⟨mb, 0, none⟩)] w fun e w' => e = .returned (.int .i64 M.count) ∧ w' = w := by
  obtain ⟨m0, m1, m2, m3, fm, fc⟩ := mcell_facts hM
  clear hM
  go_enter Try.func31, Try.ntmps31
  go_wp2
  go_ret
  exact ⟨rfl, rfl⟩
theorem mlive_does {mb cb : Nat} {M : MemS} {w : World} (hM : MemAt w mb cb M) :
    Calls Try.prog 32 #[.pointer (some ⟨mb, 0, none⟩)] w fun e w' => e = .returned (.int .i64 M.live) ∧ w' = w := by
  obtain ⟨m0, m1, m2, m3, fm, fc⟩ := mcell_facts hM
  clear hM
  go_enter Try.func32, Try.ntmps32
  go_wp2
  go_ret
  exact ⟨rfl, rfl⟩
theorem mstale_does {mb cb : Nat} {M : MemS} {w : World} (hM : MemAt w mb cb M) :
    Calls Try.prog 33 #[.pointer (some ⟨mb, 0, none⟩)] w fun e w' => e = .returned (.int .i64 M.stale) ∧ w' = w := by
  obtain ⟨m0, m1, m2, m3, fm, fc⟩ := mcell_facts hM
  clear hM
  go_enter Try.func33, Try.ntmps33
  go_wp2
  go_ret
  exact ⟨rfl, rfl⟩
end Go.Proofs.Ytngdmkgbldgmiaa
