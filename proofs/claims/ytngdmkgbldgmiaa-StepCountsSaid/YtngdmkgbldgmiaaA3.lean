/-
  Memory's calls as functions on a list of cells, and that the program's calls do just that.
-/
import Derived.Test.YtngdmkgbldgmiaaA2
namespace Go.Proofs.Ytngdmkgbldgmiaa
open Go.RowKit

theorem ta_hit (v : Value) (w : World) : (Instr.typeAssert (.iface 155 v) 20 155 true).run Try.prog w = .ok (.tuple #[v, .bool true]) w := by
  simp [Instr.typeAssert, run_underlying Try.underlying155]
theorem ta_miss (t : TypeId) (v : Value) (w : World) (ht : t ≠ 155) : (Instr.typeAssert (.iface t v) 20 155 true).run Try.prog w = .ok (.tuple #[.int .i64 0, .bool false]) w := by
  simp [Instr.typeAssert, run_underlying Try.underlying155, ht]

/-- What a handle's cell holds; none: it is stale. -/
def MemS.content (M : MemS) (h : Int) : Option (Nat × Cont) :=
  (M.find h).bind fun i => ((M.l[i]?).bind (·.v)).map fun c => (i, c)

theorem find_cell {M : MemS} {h : Int} {i : Nat} (hf : M.find h = some i) : ∃ c v, M.l[i]? = some c ∧ c.v = some v ∧ M.content h = some (i, v) := by
  have hf' := hf
  unfold MemS.find at hf
  split at hf
  · split at hf
    · rename_i c hc
      split at hf
      · rename_i hv
        cases hf
        obtain ⟨v, hv'⟩ := Option.isSome_iff_exists.1 hv.1
        exact ⟨c, v, hc, hv', by unfold MemS.content; rw [hf']; simp [hc, hv']⟩
      · simp at hf
    · simp at hf
  · simp at hf
theorem content_none {M : MemS} {h : Int} (hf : M.find h = none) : M.content h = none := by unfold MemS.content; rw [hf]; rfl
theorem cellSt_l (M : MemS) (h : Int) : (M.cellSt h).l = M.l := by unfold MemS.cellSt; split <;> rfl
theorem cellSt_live (M : MemS) (h : Int) : (M.cellSt h).live = M.live := by unfold MemS.cellSt; split <;> rfl
theorem content_cell {M : MemS} {h : Int} {i : Nat} {v : Cont} (hf : M.content h = some (i, v)) : ∃ c, M.l[i]? = some c ∧ c.v = some v := by
  unfold MemS.content at hf
  simp only [Option.bind_eq_some_iff, Option.map_eq_some_iff] at hf
  obtain ⟨j, _, a, ⟨c, hc, hv⟩, he⟩ := hf
  cases he
  exact ⟨c, hc, hv⟩

theorem cell_cont {mb cb : Nat} {M : MemS} {w : World} {i : Nat} {c : MCell} {v : Cont} (hM : MemAt w mb cb M) (hc : M.l[i]? = some c) (hv : c.v = some v) : w.cell? ⟨cb, i * 4, none⟩ = some (.iface v.ty v.val) := by
  rw [(mcell_row hM hc).1, hv]; rfl

/-- What 'cell' answers, by what the cell holds. -/
theorem cell_by {mb cb : Nat} {M : MemS} {w : World} (hM : MemAt w mb cb M) (h : Int) :
    (M.content h = none ∧ Calls Try.prog 160 #[.pointer (some ⟨mb, 0, none⟩), .int .i64 h] w fun e w' =>
      e = .returned (.tuple #[.pointer none, .int .i64 5]) ∧ MemAt w' mb cb (M.cellSt h) ∧ Fr [mb] w w') ∨
    (∃ i c v, M.content h = some (i, v) ∧ M.l[i]? = some c ∧ c.v = some v ∧ Calls Try.prog 160 #[.pointer (some ⟨mb, 0, none⟩), .int .i64 h] w fun e w' =>
      e = .returned (.tuple #[.pointer (some ⟨cb, i * 4, none⟩), .int .i64 0]) ∧ MemAt w' mb cb (M.cellSt h) ∧ Fr [mb] w w') := by
  have hcd := cell_does hM h
  cases hf : M.find h with
  | none => rw [hf] at hcd; exact .inl ⟨content_none hf, hcd⟩
  | some i =>
    rw [hf] at hcd
    obtain ⟨c, v, hc, hv, hct⟩ := find_cell hf
    exact .inr ⟨i, c, v, hct, hc, hv, hcd⟩

/-- 'word' of memory: the cell, its word, the error. -/
def MemS.wordOf (M : MemS) (h : Int) : Option Nat × Int × Int :=
  match M.content h with
  | none => (none, 0, 5)
  | some (i, .word n) => (some i, n, 0)
  | some (_, .block _ _ _) => (none, 0, 6)

set_option maxRecDepth 100000 in
set_option maxHeartbeats 400000 in
theorem word_does {mb cb : Nat} {M : MemS} {w : World} (hM : MemAt w mb cb M) (h : Int) :
    Calls Try.prog 101 #[.pointer (some ⟨mb, 0, none⟩), .int .i64 h] w fun e w' =>
      e = .returned (.tuple #[cellPtr cb (M.wordOf h).1, .int .i64 (M.wordOf h).2.1, .int .i64 (M.wordOf h).2.2]) ∧ MemAt w' mb cb (M.cellSt h) ∧ Fr [mb] w w' := by
  rcases cell_by hM h with ⟨hf, hcd⟩ | ⟨i, c, v, hct, hc, hv, hcd⟩
  · have hw : M.wordOf h = (none, 0, 5) := by unfold MemS.wordOf; rw [hf]
    rw [hw]
    clear hw hf
    simp only [cellPtr]
    go_enter Try.func101, Try.ntmps101
    go_wp2_with (go_at_call 160; refine hcd.mono ?_; rintro e w' ⟨rfl, hM', hfr⟩)
    go_ret3
    exact ⟨rfl, hM', hfr⟩
  · have Hc := hid hc
    have Hv := hid hv
    clear hc hv
    cases v with
    | word n =>
      have hw : M.wordOf h = (some i, n, 0) := by unfold MemS.wordOf; rw [hct]
      rw [hw]
      clear hw hct
      simp only [cellPtr]
      have ta := ta_hit (.int .i64 n)
      go_enter Try.func101, Try.ntmps101
      go_wp2_with (go_at_call 160; refine hcd.mono ?_; rintro e w' ⟨rfl, hM', hfr⟩; have c0 := cell_cont hM' (by rw [cellSt_l]; exact Hc.out) Hv.out; simp only [Cont.ty, Cont.val] at c0)
      go_ret3
      exact ⟨rfl, hM', hfr⟩
    | block t ht x =>
      have hw : M.wordOf h = (none, 0, 6) := by unfold MemS.wordOf; rw [hct]
      rw [hw]
      clear hw hct
      simp only [cellPtr]
      have ta := fun w => ta_miss t x w ht
      go_enter Try.func101, Try.ntmps101
      go_wp2_with (go_at_call 160; refine hcd.mono ?_; rintro e w' ⟨rfl, hM', hfr⟩; have c0 := cell_cont hM' (by rw [cellSt_l]; exact Hc.out) Hv.out; simp only [Cont.ty, Cont.val] at c0)
      go_ret3
      exact ⟨rfl, hM', hfr⟩

theorem mword_does {mb cb : Nat} {M : MemS} {w : World} (hM : MemAt w mb cb M) (h : Int) :
    Calls Try.prog 25 #[.pointer (some ⟨mb, 0, none⟩), .int .i64 h] w fun e w' =>
      e = .returned (.tuple #[.int .i64 (M.wordOf h).2.1, .int .i64 (M.wordOf h).2.2]) ∧ MemAt w' mb cb (M.cellSt h) ∧ Fr [mb] w w' := by
  have hwd := word_does hM h
  generalize M.wordOf h = r at hwd ⊢
  obtain ⟨a, n, er⟩ := r
  dsimp only at hwd ⊢
  generalize cellPtr cb a = v at hwd
  go_enter Try.func25, Try.ntmps25
  go_wp2_with (go_at_call 101; refine hwd.mono ?_; rintro e w' ⟨rfl, hM', hfr⟩)
  go_ret2
  exact ⟨rfl, hM', hfr⟩

/-- 'Load' of memory: the block, the error. -/
def MemS.loadOf (M : MemS) (h : Int) : Option Cont × Int :=
  match M.content h with
  | none => (none, 5)
  | some (_, .word _) => (none, 6)
  | some (_, .block t ht x) => (some (.block t ht x), 0)

set_option maxRecDepth 100000 in
set_option maxHeartbeats 400000 in
theorem mload_does {mb cb : Nat} {M : MemS} {w : World} (hM : MemAt w mb cb M) (h : Int) :
    Calls Try.prog 190 #[.pointer (some ⟨mb, 0, none⟩), .int .i64 h] w fun e w' =>
      e = .returned (.tuple #[encV (M.loadOf h).1, .int .i64 (M.loadOf h).2]) ∧ MemAt w' mb cb (M.cellSt h) ∧ Fr [mb] w w' := by
  rcases cell_by hM h with ⟨hf, hcd⟩ | ⟨i, c, v, hct, hc, hv, hcd⟩
  · have hw : M.loadOf h = (none, 5) := by unfold MemS.loadOf; rw [hf]
    rw [hw]
    clear hw hf
    simp only [encV]
    go_enter Try.func190, Try.ntmps190
    go_wp2_with (go_at_call 160; refine hcd.mono ?_; rintro e w' ⟨rfl, hM', hfr⟩)
    go_ret2
    exact ⟨rfl, hM', hfr⟩
  · have Hc := hid hc
    have Hv := hid hv
    clear hc hv
    cases v with
    | word n =>
      have hw : M.loadOf h = (none, 6) := by unfold MemS.loadOf; rw [hct]
      rw [hw]
      clear hw hct
      simp only [encV]
      have ta := ta_hit (.int .i64 n)
      go_enter Try.func190, Try.ntmps190
      go_wp2_with (go_at_call 160; refine hcd.mono ?_; rintro e w' ⟨rfl, hM', hfr⟩; have c0 := cell_cont hM' (by rw [cellSt_l]; exact Hc.out) Hv.out; simp only [Cont.ty, Cont.val] at c0)
      go_ret2
      exact ⟨rfl, hM', hfr⟩
    | block t ht x =>
      have hw : M.loadOf h = (some (.block t ht x), 0) := by unfold MemS.loadOf; rw [hct]
      rw [hw]
      clear hw hct
      simp only [encV, Cont.ty, Cont.val]
      have ta := fun w => ta_miss t x w ht
      go_enter Try.func190, Try.ntmps190
      go_wp2_with (go_at_call 160; refine hcd.mono ?_; rintro e w' ⟨rfl, hM', hfr⟩; have c0 := cell_cont hM' (by rw [cellSt_l]; exact Hc.out) Hv.out; simp only [Cont.ty, Cont.val] at c0)
      go_ret2
      exact ⟨rfl, hM', hfr⟩

def MemS.setV (M : MemS) (i : Nat) (v : Cont) : MemS := { M with l := M.l.set i { M.l.getD i mcell0 with v := some v } }
theorem memAt_setV {mb cb : Nat} {M : MemS} {w : World} (hM : MemAt w mb cb M) {i : Nat} {c : MCell} (hc : M.l[i]? = some c) (v : Cont) :
    MemAt (w.setCell ⟨cb, i * 4, none⟩ (.iface v.ty v.val)) mb cb (M.setV i v) := by
  have := memAt_cell hM hc 0 (by omega) { c with v := some v } (.iface v.ty v.val) rfl
  unfold MemS.setV
  simp only [List.getD_eq_getElem?_getD, hc, Option.getD_some]
  exact this

/-- 'Store' of memory: the memory behind, the error. -/
def MemS.storeOf (M : MemS) (h n : Int) : MemS × Int :=
  match M.content h with
  | none => (M.cellSt h, 5)
  | some (i, .word _) => ((M.cellSt h).setV i (.word n), 0)
  | some (_, .block _ _ _) => (M.cellSt h, 6)
/-- 'Swap' of memory: the memory behind, whether it was, the error. -/
def MemS.swapOf (M : MemS) (h old n : Int) : MemS × Bool × Int :=
  match M.content h with
  | none => (M.cellSt h, false, 5)
  | some (i, .word m) => if m = old then ((M.cellSt h).setV i (.word n), true, 0) else (M.cellSt h, false, 0)
  | some (_, .block _ _ _) => (M.cellSt h, false, 6)

theorem word_by {mb cb : Nat} {M : MemS} {w : World} (hM : MemAt w mb cb M) (h : Int) :
    (∃ er, er ≠ 0 ∧ (∀ n, M.storeOf h n = (M.cellSt h, er)) ∧ (∀ old n, M.swapOf h old n = (M.cellSt h, false, er)) ∧ Calls Try.prog 101 #[.pointer (some ⟨mb, 0, none⟩), .int .i64 h] w fun e w' =>
      e = .returned (.tuple #[.pointer none, .int .i64 0, .int .i64 er]) ∧ MemAt w' mb cb (M.cellSt h) ∧ Fr [mb] w w') ∨
    (∃ i c n, M.content h = some (i, .word n) ∧ M.l[i]? = some c ∧ c.v = some (.word n) ∧ Calls Try.prog 101 #[.pointer (some ⟨mb, 0, none⟩), .int .i64 h] w fun e w' =>
      e = .returned (.tuple #[.pointer (some ⟨cb, i * 4, none⟩), .int .i64 n, .int .i64 0]) ∧ MemAt w' mb cb (M.cellSt h) ∧ Fr [mb] w w') := by
  have hwd := word_does hM h
  cases hc : M.content h with
  | none =>
    have hw : M.wordOf h = (none, 0, 5) := by unfold MemS.wordOf; rw [hc]
    rw [hw] at hwd
    exact .inl ⟨5, by omega, fun n => by unfold MemS.storeOf; rw [hc], fun o n => by unfold MemS.swapOf; rw [hc], hwd⟩
  | some iv =>
    obtain ⟨i, v⟩ := iv
    cases v with
    | word n =>
      have hw : M.wordOf h = (some i, n, 0) := by unfold MemS.wordOf; rw [hc]
      rw [hw] at hwd
      obtain ⟨c, h1, h2⟩ := content_cell hc
      exact .inr ⟨i, c, n, rfl, h1, h2, hwd⟩
    | block t ht x =>
      have hw : M.wordOf h = (none, 0, 6) := by unfold MemS.wordOf; rw [hc]
      rw [hw] at hwd
      exact .inl ⟨6, by omega, fun n => by unfold MemS.storeOf; rw [hc], fun o n => by unfold MemS.swapOf; rw [hc], hwd⟩

theorem mstore_does {mb cb : Nat} {M : MemS} {w : World} (hM : MemAt w mb cb M) (h n : Int) :
    Calls Try.prog 179 #[.pointer (some ⟨mb, 0, none⟩), .int .i64 h, .int .i64 n] w fun e w' =>
      e = .returned (.int .i64 (M.storeOf h n).2) ∧ MemAt w' mb cb (M.storeOf h n).1 ∧ Fr [mb, cb] w w' := by
  rcases word_by hM h with ⟨er, hne, hs, _, hwd⟩ | ⟨i, c, m, hct, hc, hv, hwd⟩
  · rw [hs]
    clear hs
    have hb : (er == 0) = false := by simpa using hne
    clear hne
    go_enter Try.func179, Try.ntmps179
    go_wp2_with (go_at_call 101; refine hwd.mono ?_; rintro e w' ⟨rfl, hM', hfr⟩)
    go_ret
    exact ⟨rfl, hM', hfr.mono (fun x hx => .inl (by simp at hx; simp [hx]))⟩
  · have hs : M.storeOf h n = ((M.cellSt h).setV i (.word n), 0) := by unfold MemS.storeOf; rw [hct]
    rw [hs]
    have Hc := hid hc
    have Hv := hid hv
    clear hc hv hs hct
    go_enter Try.func179, Try.ntmps179
    go_wp2_with (go_at_call 101; refine hwd.mono ?_; rintro e w' ⟨rfl, hM', hfr⟩; have c0 := cell_cont hM' (by rw [cellSt_l]; exact Hc.out) Hv.out; simp only [Cont.ty, Cont.val] at c0; have fc := (mcell_facts hM').2.2.2.2.2)
    go_ret
    exact ⟨rfl, memAt_setV hM' (by rw [cellSt_l]; exact Hc.out) (.word n), (hfr.mono (fun x hx => .inl (by simp at hx; simp [hx]))).setCell _ _ (.inl (by simp))⟩

theorem mswap_does {mb cb : Nat} {M : MemS} {w : World} (hM : MemAt w mb cb M) (h old n : Int) :
    Calls Try.prog 99 #[.pointer (some ⟨mb, 0, none⟩), .int .i64 h, .int .i64 old, .int .i64 n] w fun e w' =>
      e = .returned (.tuple #[.bool (M.swapOf h old n).2.1, .int .i64 (M.swapOf h old n).2.2]) ∧ MemAt w' mb cb (M.swapOf h old n).1 ∧ Fr [mb, cb] w w' := by
  rcases word_by hM h with ⟨er, hne, _, hs, hwd⟩ | ⟨i, c, m, hct, hc, hv, hwd⟩
  · rw [hs]
    clear hs
    have hb : (er != 0) = true := by simpa using hne
    clear hne
    go_enter Try.func99, Try.ntmps99
    go_wp2_with (go_at_call 101; refine hwd.mono ?_; rintro e w' ⟨rfl, hM', hfr⟩)
    go_ret2
    exact ⟨rfl, hM', hfr.mono (fun x hx => .inl (by simp at hx; simp [hx]))⟩
  · have Hc := hid hc
    have Hv := hid hv
    clear hc hv
    by_cases hm : m = old
    · have hs : M.swapOf h old n = ((M.cellSt h).setV i (.word n), true, 0) := by unfold MemS.swapOf; rw [hct]; simp [hm]
      rw [hs]
      subst hm
      clear hs hct
      go_enter Try.func99, Try.ntmps99
      go_wp2_with (go_at_call 101; refine hwd.mono ?_; rintro e w' ⟨rfl, hM', hfr⟩; have c0 := cell_cont hM' (by rw [cellSt_l]; exact Hc.out) Hv.out; simp only [Cont.ty, Cont.val] at c0; have fc := (mcell_facts hM').2.2.2.2.2)
      go_ret2
      exact ⟨rfl, memAt_setV hM' (by rw [cellSt_l]; exact Hc.out) (.word n), (hfr.mono (fun x hx => .inl (by simp at hx; simp [hx]))).setCell _ _ (.inl (by simp))⟩
    · have hs : M.swapOf h old n = (M.cellSt h, false, 0) := by unfold MemS.swapOf; rw [hct]; simp [hm]
      rw [hs]
      have hb : (m != old) = true := by simpa using hm
      clear hs hct hm
      go_enter Try.func99, Try.ntmps99
      go_wp2_with (go_at_call 101; refine hwd.mono ?_; rintro e w' ⟨rfl, hM', hfr⟩)
      go_ret2
      exact ⟨rfl, hM', hfr.mono (fun x hx => .inl (by simp at hx; simp [hx]))⟩
end Go.Proofs.Ytngdmkgbldgmiaa
