/-
  Memory's calls, the last: a cell at a place that is reaped; memory that is made.
-/
import Derived.Test.YtngdmkgbldgmiaaA4
namespace Go.Proofs.Ytngdmkgbldgmiaa
open Go.RowKit

/-- 'Reap' of memory: the memory behind, whether it was freed, the error. -/
def MemS.reapOf (M : MemS) (p b : Int) : MemS × Bool × Int :=
  if p < 0 ∨ (M.l.length : Int) ≤ p then (M.asked, false, 10)
  else
    let c := M.l.getD p.toNat mcell0
    if c.v.isSome && c.ret && decide (c.stamp < b) then (M.asked.freeAt p.toNat, true, 0) else (M.asked, false, 0)

theorem mreap_does {mb cb : Nat} {M : MemS} {w : World} (hM : MemAt w mb cb M) (p b : Int) :
    Calls Try.prog 187 #[.pointer (some ⟨mb, 0, none⟩), .int .i64 p, .int .i64 b] w fun e w' =>
      e = .returned (.tuple #[.bool (M.reapOf p b).2.1, .int .i64 (M.reapOf p b).2.2]) ∧ MemAt w' mb cb (M.reapOf p b).1 ∧ Fr [mb, cb] w w' := by
  obtain ⟨m0, m1, m2, m3, fm, fc⟩ := mcell_facts hM
  have hne : ¬ mb = cb := hM.2.2.1
  have hne' : ¬ cb = mb := fun e => hne e.symm
  have hlen : M.l.length ≤ 65535 := hM.2.2.2
  have HM : Hid (MemAt (w.setCell ⟨mb, 1, none⟩ (.int .i64 (wrap64 (M.count + 1)))) mb cb M.asked) := memAt_count hM _
  by_cases hp : p < 0
  · have hr : M.reapOf p b = (M.asked, false, 10) := by unfold MemS.reapOf; rw [if_pos (.inl hp)]
    rw [hr]
    clear hr
    have hp' : decide (p < 0) = true := by simpa using hp
    go_enter Try.func187, Try.ntmps187
    go_wp2_with fail
    go_ret2
    exact ⟨rfl, HM.out, (Fr.refl _ _).setCell _ _ (.inl (by simp))⟩
  obtain ⟨i, rfl⟩ := Int.eq_ofNat_of_zero_le (show 0 ≤ p by omega)
  have hp' : decide ((i : Int) < 0) = false := by simp
  clear hp
  by_cases hlt : M.l.length ≤ i
  · have hr : M.reapOf i b = (M.asked, false, 10) := by unfold MemS.reapOf; rw [if_pos (.inr (by omega))]
    rw [hr]
    clear hr
    have g2 : decide (M.l.length ≤ i) = true := by simpa using hlt
    go_enter Try.func187, Try.ntmps187
    go_wp2_with fail
    go_ret2
    exact ⟨rfl, HM.out, (Fr.refl _ _).setCell _ _ (.inl (by simp))⟩
  have g2 : decide (M.l.length ≤ i) = false := by simpa using hlt
  have hlt' : i < M.l.length := by omega
  clear hlt
  have hci : M.l[i]? = some M.l[i] := List.getElem?_eq_getElem hlt'
  generalize M.l[i] = c at hci
  obtain ⟨c0, c1, c2, c3⟩ := mcell_row hM hci
  have hr : M.reapOf i b = if c.v.isSome && c.ret && decide (c.stamp < b) then (M.asked.freeAt i, true, 0) else (M.asked, false, 0) := by
    unfold MemS.reapOf
    rw [if_neg (by omega)]
    simp only [Int.toNat_natCast, List.getD_eq_getElem?_getD, hci, Option.getD_some]
  rw [hr]
  have Hc : Hid (M.asked.l[i]? = some c) := hci
  clear hr hci hM
  obtain ⟨v, gen, stamp, ret⟩ := c
  dsimp only at c1 c2 c3 ⊢
  cases v with
  | none =>
    simp only [encV] at c0
    simp only [Option.isSome_none, Bool.false_and, Bool.false_eq_true, if_false]
    go_enter Try.func187, Try.ntmps187
    go_wp2_with fail
    go_ret2
    exact ⟨rfl, HM.out, (Fr.refl _ _).setCell _ _ (.inl (by simp))⟩
  | some x =>
    simp only [encV] at c0
    generalize x.ty = t at c0
    generalize x.val = y at c0
    simp only [Option.isSome_some, Bool.true_and]
    cases ret with
    | false =>
      simp only [Bool.false_and, Bool.false_eq_true, if_false]
      go_enter Try.func187, Try.ntmps187
      go_wp2_with fail
      go_ret2
      exact ⟨rfl, HM.out, (Fr.refl _ _).setCell _ _ (.inl (by simp))⟩
    | true =>
      simp only [Bool.true_and]
      by_cases hs : stamp < b
      · rw [if_pos (by simpa using hs)]
        have hs' : decide (b ≤ stamp) = false := by simpa using hs
        go_enter Try.func187, Try.ntmps187
        go_wp2_with (go_at_call 191; refine (free_does HM.out (i := i) Hc.out).mono ?_; rintro e w2 ⟨rfl, hM2, hfr2⟩)
        go_ret2
        exact ⟨rfl, hM2, ((Fr.refl _ _).setCell _ _ (.inl (by simp))).trans' hfr2⟩
      · rw [if_neg (by simpa using hs)]
        have hs' : decide (b ≤ stamp) = true := by simpa using hs
        go_enter Try.func187, Try.ntmps187
        go_wp2_with fail
        go_ret2
        exact ⟨rfl, HM.out, (Fr.refl _ _).setCell _ _ (.inl (by simp))⟩

def MemS.new (n : Nat) : MemS := ⟨List.replicate n mcell0, 0, 0, 0⟩

theorem info219 : (Try.prog.info? 219).map (fun i => (i.zero, i.size, i.bytes)) = some (some (.agg #[.nilIface, .int .i64 0, .int .i64 0, .bool false]), 4, 40) := by kernel_rfl

theorem made_cells (k : Nat) : madeCells #[.nilIface, .int .i64 0, .int .i64 0, .bool false] (k * 4) = ((List.replicate k mcell0).flatMap MCell.row).toArray := by
  apply Array.ext'
  apply List.ext_getElem?
  intro j
  by_cases hj : j < k * 4
  · have h4 : j % 4 < 4 := Nat.mod_lt _ (by omega)
    have hg := flat_get (List.replicate k mcell0) (j / 4) (j % 4) mcell0 (by rw [List.getElem?_replicate, if_pos (by omega)]) h4
    rw [show j / 4 * 4 + j % 4 = j by omega] at hg
    rw [show ((List.replicate k mcell0).flatMap MCell.row).toArray.toList[j]? = mcell0.row[j % 4]? from hg]
    have : j % 4 = 0 ∨ j % 4 = 1 ∨ j % 4 = 2 ∨ j % 4 = 3 := by omega
    rcases this with h | h | h | h <;> simp [madeCells, hj, h, MCell.row, mcell0, encV]
  · have : ((List.replicate k mcell0).flatMap MCell.row).length = k * 4 := by
      simp [List.length_flatMap, MCell.row]
    rw [List.getElem?_eq_none (by simp [madeCells]; omega), List.getElem?_eq_none (by simp [this]; omega)]

theorem make_run (k : Nat) (hk : k ≤ 65535) (w : World) : (Instr.makeSlice 151 (.int .i64 k) (.int .i64 k)).run Try.prog w =
    .ok (.slice (some ⟨w.heap.size, 0, none⟩) k k) (w.alloc (.cells ((List.replicate k mcell0).flatMap MCell.row).toArray 219)) := by
  obtain ⟨i, hi, h0, h1, h2⟩ := info_parts info219
  have := run_make (P := Try.prog) w 151 219 i _ Try.underlying151 hi h0 .i64 .i64 (k : Int) (k : Int) (by omega) (by omega) (by rw [h2]; push_cast; omega) (by omega)
  rw [this]
  simp only [Int.toNat_natCast, h1]
  rw [← made_cells]
  rfl

set_option maxRecDepth 100000 in
theorem mnew_does (n : Int) (w : World) (h1 : 1 ≤ n) (h2 : n ≤ 65535) :
    Calls Try.prog 16 #[.int .i64 n] w fun e w' =>
      e = .returned (.tuple #[.pointer (some ⟨w.heap.size + 1, 0, none⟩), .int .i64 0]) ∧ MemAt w' (w.heap.size + 1) w.heap.size (MemS.new n.toNat) ∧ Fr [] w w' := by
  obtain ⟨k, rfl⟩ := Int.eq_ofNat_of_zero_le (show 0 ≤ n by omega)
  have g1 : decide ((k : Int) < 1) = false := by simp; omega
  have g2 : decide (65535 < (k : Int)) = false := by simp; omega
  have hmk := make_run k (by omega)
  go_enter Try.func16, Try.ntmps16
  go_wp2_with fail
  go_ret2
  refine ⟨rfl, ⟨?_, ?_, ?_, ?_⟩, ((Fr.refl _ _).alloc _).alloc _⟩
  · have := heap_new (w.alloc (.cells ((List.replicate k mcell0).flatMap MCell.row).toArray 219)) (.cells #[.slice (some ⟨w.heap.size, 0, none⟩) k k, .int .i64 0, .int .i64 0, .int .i64 0] 153)
    rw [World.size_alloc] at this
    rw [this]
    simp [MemS.new, memRow]
  · have := heap_old (.cells #[.slice (some ⟨w.heap.size, 0, none⟩) k k, .int .i64 0, .int .i64 0, .int .i64 0] 153) (heap_new w (.cells ((List.replicate k mcell0).flatMap MCell.row).toArray 219))
    rw [this]
    simp [MemS.new]
  · omega
  · simp [MemS.new]; omega
end Go.Proofs.Ytngdmkgbldgmiaa
