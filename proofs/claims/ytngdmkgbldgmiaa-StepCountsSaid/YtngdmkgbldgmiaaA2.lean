/-
  What memory's calls that write a cell do: a free cell is taken, freed, retired.
-/
import Derived.Test.YtngdmkgbldgmiaaA1
namespace Go.Proofs.Ytngdmkgbldgmiaa
open Go.RowKit

def mcell0 : MCell := ⟨none, 0, 0, false⟩
def MCell.usable (c : MCell) : Bool := c.v.isNone && decide (c.gen ≤ 16383)
/-- The place of the first cell that is free, and may be used. -/
def MemS.room (M : MemS) : Option Nat := M.l.findIdx? MCell.usable
def MemS.putAt (M : MemS) (i : Nat) (v : Cont) : MemS :=
  { M with l := M.l.set i { M.l.getD i mcell0 with v := some v }, live := wrap64 (M.live + 1) }
def MemS.put (M : MemS) (v : Cont) : (Int × Int) × MemS :=
  match M.room with
  | some i => ((hMake i (M.l.getD i mcell0).gen, 0), M.putAt i v)
  | none => ((0, 3), M)

theorem flat_set (l : List MCell) (i j : Nat) (c c' : MCell) (v : Value) (h : l[i]? = some c) (hj : j < 4) (hv : c'.row = c.row.set j v) :
    (l.flatMap MCell.row).set (i * 4 + j) v = (l.set i c').flatMap MCell.row := by
  induction l generalizing i with
  | nil => simp at h
  | cons a l ih =>
    cases i with
    | zero =>
      simp at h; subst h
      simp only [List.flatMap_cons, List.set_cons_zero, Nat.zero_mul, Nat.zero_add, hv]
      rw [List.set_append_left _ _ (by simpa [MCell.row] using hj)]
    | succ i =>
      simp only [List.flatMap_cons, List.set_cons_succ]
      rw [List.set_append_right _ _ (by simp [MCell.row]; omega)]
      simp at h
      rw [show (i + 1) * 4 + j - a.row.length = i * 4 + j by simp [MCell.row]; omega, ih i h]

theorem memAt_cell {mb cb : Nat} {M : MemS} {w : World} (hM : MemAt w mb cb M) {i : Nat} {c : MCell} (h : M.l[i]? = some c) (j : Nat) (hj : j < 4) (c' : MCell) (v : Value) (hv : c'.row = c.row.set j v) :
    MemAt (w.setCell ⟨cb, i * 4 + j, none⟩ v) mb cb { M with l := M.l.set i c' } := by
  obtain ⟨h1, h2, h3, h4⟩ := hM
  refine ⟨?_, ?_, h3, by simpa using h4⟩
  · rw [heap_set_ne h3, h1]; simp
  · rw [heap_set h2]
    simp only [List.setIfInBounds_toArray, flat_set _ i j c c' v h hj hv]
theorem memAt_live {mb cb : Nat} {M : MemS} {w : World} (hM : MemAt w mb cb M) (n : Int) :
    MemAt (w.setCell ⟨mb, 2, none⟩ (.int .i64 n)) mb cb { M with live := n } := by
  obtain ⟨h1, h2, h3, h4⟩ := hM
  refine ⟨?_, ?_, h3, h4⟩
  · rw [heap_set h1]; rfl
  · rw [heap_set_ne (Ne.symm h3)]; exact h2
theorem memAt_count {mb cb : Nat} {M : MemS} {w : World} (hM : MemAt w mb cb M) (n : Int) :
    MemAt (w.setCell ⟨mb, 1, none⟩ (.int .i64 n)) mb cb { M with count := n } := by
  obtain ⟨h1, h2, h3, h4⟩ := hM
  refine ⟨?_, ?_, h3, h4⟩
  · rw [heap_set h1]; rfl
  · rw [heap_set_ne (Ne.symm h3)]; exact h2
theorem memAt_drewN {mb cb : Nat} {M : MemS} {w : World} (hM : MemAt w mb cb M) (n : Nat) : MemAt (w.drewN n) mb cb M := hM

theorem room_some {M : MemS} {k : Nat} {c : MCell} (hc : M.l[k]? = some c) (hu : c.usable = true) (hno : ∀ j c, j < k → M.l[j]? = some c → c.usable = false) : M.room = some k := by
  unfold MemS.room
  rw [List.findIdx?_eq_some_iff_getElem]
  have hlt : k < M.l.length := by
    rcases Nat.lt_or_ge k M.l.length with h | h
    · exact h
    · rw [List.getElem?_eq_none h] at hc; simp at hc
  refine ⟨hlt, ?_, ?_⟩
  · rw [List.getElem?_eq_getElem hlt] at hc; simp at hc; rw [hc]; exact hu
  · intro j hj
    have := hno j (M.l[j]'(by omega)) hj (List.getElem?_eq_getElem (by omega))
    simp [this]
theorem room_none {M : MemS} (hno : ∀ j c, j < M.l.length → M.l[j]? = some c → c.usable = false) : M.room = none := by
  unfold MemS.room
  rw [List.findIdx?_eq_none_iff]
  intro c hc
  obtain ⟨j, hj, rfl⟩ := List.getElem_of_mem hc
  simp [hno j _ hj (List.getElem?_eq_getElem hj)]

theorem put_step {M : MemS} {k : Nat} {c : MCell} (hc : M.l[k]? = some c) (hu : c.usable = false) (hno : ∀ j c, j < k → M.l[j]? = some c → c.usable = false) :
    ∀ j c, j < k + 1 → M.l[j]? = some c → c.usable = false := by
  intro j c' hj h
  rcases Nat.lt_or_ge j k with h' | h'
  · exact hno j c' h' h
  · obtain rfl : j = k := by omega
    rw [hc] at h; cases h; exact hu

set_option maxHeartbeats 400000 in
theorem put_does {mb cb : Nat} {M : MemS} {w : World} (hM : MemAt w mb cb M) (cv : Cont) :
    Calls Try.prog 95 #[.pointer (some ⟨mb, 0, none⟩), .iface cv.ty cv.val] w fun e w' =>
      e = .returned (.tuple #[.int .i64 (M.put cv).1.1, .int .i64 (M.put cv).1.2]) ∧ MemAt w' mb cb (M.put cv).2 ∧ Fr [mb, cb] w w' := by
  obtain ⟨m0, m1, m2, m3, fm, fc⟩ := mcell_facts hM
  have hne : ¬ mb = cb := hM.2.2.1
  have hne' : ¬ cb = mb := fun e => hne e.symm
  have hlen : M.l.length ≤ 65535 := hM.2.2.2
  have HM := hid hM
  obtain ⟨t, ht⟩ : ∃ t, t = cv.ty := ⟨_, rfl⟩
  obtain ⟨x, hx⟩ : ∃ x, x = cv.val := ⟨_, rfl⟩
  have Hv : Hid (encV (some cv) = .iface t x) := by rw [ht, hx]; rfl
  rw [← ht, ← hx]
  clear ht hx
  go_enter Try.func95, Try.ntmps95
  go_wp2_with fail
  go_loop [13] (fun i => ∃ k : Nat, k ≤ M.l.length ∧ i = .int .i64 k ∧ Hid (∀ j c, j < k → M.l[j]? = some c → c.usable = false)) (fun i => M.l.length - (intOf i).toNat)
  case atStart => exact ⟨0, Nat.zero_le _, rfl, hid (fun j c h => absurd h (Nat.not_lt_zero _))⟩
  case round =>
    obtain ⟨k, hk, rfl, hno⟩ := hrel
    by_cases hlt : k < M.l.length
    · have hck : M.l[k]? = some M.l[k] := List.getElem?_eq_getElem hlt
      generalize M.l[k] = c at hck
      obtain ⟨c0, c1, _, _⟩ := mcell_row hM hck
      have Hck := hid hck
      clear hck
      obtain ⟨v, gen, stamp, ret⟩ := c
      dsimp only at c1
      cases v with
      | none =>
        simp only [encV] at c0
        by_cases hg : gen ≤ 16383
        · have hfin : M.put cv = ((hMake k gen, 0), M.putAt k cv) := by
            unfold MemS.put
            rw [room_some Hck.out (by simpa [MCell.usable] using hg) hno.out]
            simp only [List.getD_eq_getElem?_getD, Hck.out, Option.getD_some]
          have hpa : M.putAt k cv = { M with l := M.l.set k ⟨some cv, gen, stamp, ret⟩, live := wrap64 (M.live + 1) } := by
            unfold MemS.putAt
            simp only [List.getD_eq_getElem?_getD, Hck.out, Option.getD_some]
          have Hfin := hid hfin
          have Hpa := hid hpa
          clear hfin hpa hno
          go_wp2_with (first | (go_at_call 158; refine (handle_any _ _ _).mono ?_; rintro e w' ⟨rfl, rfl⟩))
          go_ret2
          refine ⟨by rw [Hfin.out]; rfl, ?_, ?_⟩
          · rw [Hfin.out, Hpa.out]
            exact memAt_live (memAt_cell HM.out Hck.out 0 (by omega) ⟨some cv, gen, stamp, ret⟩ (.iface t x) (by simp only [MCell.row, Hv.out]; rfl)) _
          · exact ((Fr.refl _ _).setCell _ _ (.inl (by simp))).setCell _ _ (.inl (by simp))
        · have hg' : decide (gen ≤ 16383) = false := by simpa using hg
          go_wp2_with (first | (go_at_call 158; refine (handle_any _ _ _).mono ?_; rintro e w' ⟨rfl, rfl⟩))
          exact ⟨⟨k + 1, by omega, by go_num, hid (put_step Hck.out (by simpa [MCell.usable] using hg) hno.out)⟩, by simp [intOf]; omega⟩
      | some tx =>
        simp only [encV] at c0
        generalize tx.ty = t' at c0
        generalize tx.val = x' at c0
        go_wp2_with (first | (go_at_call 158; refine (handle_any _ _ _).mono ?_; rintro e w' ⟨rfl, rfl⟩))
        exact ⟨⟨k + 1, by omega, by go_num, hid (put_step Hck.out (by simp [MCell.usable]) hno.out)⟩, by simp [intOf]; omega⟩
    · have hfin : M.put cv = ((0, 3), M) := by
        unfold MemS.put
        rw [room_none (fun j c hj h => hno.out j c (by omega) h)]
      have Hfin := hid hfin
      clear hfin hno
      go_wp2_with fail
      go_ret2
      exact ⟨by rw [Hfin.out]; rfl, by rw [Hfin.out]; exact HM.out, Fr.refl _ _⟩
end Go.Proofs.Ytngdmkgbldgmiaa
