/-
  StepCounts: the third loop; the law's walk.
-/
import Derived.Test.YtngdmkgbldgmiaaSc4
namespace Go.Proofs.Ytngdmkgbldgmiaa
open Go.RowKit

def seenRow (sn : Nat → Bool) : Array Value := #[.bool (sn 0), .bool (sn 1), .bool (sn 2), .bool (sn 3), .bool (sn 4), .bool (sn 5)]
theorem seen_get (sn : Nat → Bool) (u : Nat) (hu : u < 6) : (seenRow sn)[u]? = some (.bool (sn u)) := by
  have : u = 0 ∨ u = 1 ∨ u = 2 ∨ u = 3 ∨ u = 4 ∨ u = 5 := by omega
  rcases this with rfl | rfl | rfl | rfl | rfl | rfl <;> rfl
theorem seen_set (sn : Nat → Bool) (u : Nat) (hu : u < 6) : (seenRow sn).setIfInBounds u (.bool true) = seenRow (fun i => if i = u then true else sn i) := by
  have : u = 0 ∨ u = 1 ∨ u = 2 ∨ u = 3 ∨ u = 4 ∨ u = 5 := by omega
  rcases this with rfl | rfl | rfl | rfl | rfl | rfl <;> rfl

def Rel3 (w0 : World) (mb cb hb sb : Nat) (v : Value) (n k c : Nat) (w : World) : Prop :=
  ∃ (L : List Mach) (M : MemS) (W : Int) (j : Nat) (sn : Nat → Bool), L.length = n ∧ Band w0 w mb cb M L ∧ Inv hb M L W j ∧ boxed w hb ∧ w0.heap.size ≤ hb ∧ w.ownsRow w0.heap.size 31 1 v n (L.map mptr) ∧
    w.heap[sb]? = some (.cells (seenRow sn) 37 (0, 0)) ∧ w0.heap.size ≤ sb ∧ c = (L.take k).countP (fun T => T.m.ended) ∧ (∀ u : Nat, sn u = true → ∃ (a : Nat) (T : Mach), a < k ∧ L[a]? = some T ∧ T.m.ended = true ∧ T.m.out = .iface 3 (.int .i64 u))

theorem rel3_start {w0 w : World} {mb cb hb : Nat} {v : Value} {n j : Nat} (h : Rel2 w0 mb cb hb v n j w) : Rel3 w0 mb cb hb w.heap.size v n 0 0 (w.alloc (.cells (seenRow (fun _ => false)) 37)) := by
  obtain ⟨L, M, W, hL, hbd, hI, hbx, hhb, hown⟩ := h
  have hf : Fr [] w (w.alloc (.cells (seenRow (fun _ => false)) 37)) := (Fr.refl _ _).alloc _
  exact ⟨L, M, W, j, fun _ => false, hL, hbd.other hf (fun x hx => by simp at hx), hI, hf.keep hbx (by simp), hhb, row_fr hown hf (fun _ _ => by simp), heap_new w _, hbd.fr.size, rfl, fun u hu => by simp at hu⟩

theorem rel3_read {w0 w : World} {mb cb hb sb : Nat} {v : Value} {n k c : Nat} (h : Rel3 w0 mb cb hb sb v n k c w) (hn : n ≤ 6) (hk : k < n) :
    ∃ xb g cap m pb fv, v = .slice (some ⟨g, 0, none⟩) n cap ∧ w.cell? ⟨g, k, none⟩ = some (.pointer (some ⟨xb, 0, none⟩)) ∧ MachAt w pb xb fv m ∧ c ≤ 6 ∧
      ((m.ended = false ∧ Rel3 w0 mb cb hb sb v n (k + 1) c w) ∨
       (m.ended = true ∧ ∃ u : Nat, u < 6 ∧ m.out = .iface 3 (.int .i64 u) ∧ w.cell? ⟨sb, u, none⟩ = some (.bool false) ∧ w.frozen? ⟨sb, u, none⟩ = false ∧ Rel3 w0 mb cb hb sb v n (k + 1) (c + 1) (w.setCell ⟨sb, u, none⟩ (.bool true)))) := by
  obtain ⟨L, M, W, j, sn, hL, hbd, hI, hbx, hhb, hown, hsb, hsb0, hc, hsn⟩ := h
  have hkq : L[k]? = some L[k] := List.getElem?_eq_getElem (by omega)
  have htk : L.take (k + 1) = L.take k ++ [L[k]] := by rw [List.take_add_one, hkq]; rfl
  have hkl : L[k] ∈ L := List.getElem_mem _
  generalize L[k] = T at hkq htk hkl
  have hc6 : c ≤ 6 := by
    have := List.countP_le_length (p := fun T : Mach => T.m.ended) (l := L.take k)
    rw [List.length_take] at this
    omega
  rcases hown.2 with ⟨hv, h0⟩ | ⟨g, cap, cur, hv, hbg, hg, _⟩
  · omega
  have hrow := hown
  rw [hv] at hown
  refine ⟨T.xb, g, cap, T.m, T.pb, T.fv, hv, ?_, hbd.at hkq, hc6, ?_⟩
  · rw [hown.cellAt k (by omega), List.getElem?_map, hkq]
    rfl
  · cases he : T.m.ended with
    | false =>
      refine .inl ⟨rfl, L, M, W, j, sn, hL, hbd, hI, hbx, hhb, hrow, hsb, hsb0, ?_, fun u hu => ?_⟩
      · rw [htk, List.countP_append, List.countP_singleton, he]
        simpa using hc
      · obtain ⟨a, U, h1, h2⟩ := hsn u hu
        exact ⟨a, U, by omega, h2⟩
    | true =>
      obtain ⟨z, z0, zW, zo⟩ := hI.out T hkl he
      obtain ⟨u, rfl⟩ := Int.eq_ofNat_of_zero_le z0
      have hcnt : L.countP (fun T => T.m.ended) ≤ n := by rw [← hL]; exact List.countP_le_length
      have hu6 : u < 6 := by have := hI.count; omega
      have hfalse : sn u = false := by
        cases hs : sn u with
        | false => rfl
        | true =>
          obtain ⟨a, U, h1, h2, h3, h4⟩ := hsn u hs
          have := hI.apart a k U T h2 hkq h3 he (h4.trans zo.symm)
          omega
      have hf : Fr [sb] w (w.setCell ⟨sb, u, none⟩ (.bool true)) := (Fr.refl _ _).setCell _ _ (.inl (by simp))
      refine .inr ⟨rfl, u, hu6, zo, ?_, frozen_heap hsb, L, M, W, j, fun i => if i = u then true else sn i, hL, ?_, hI, hf.keep hbx (by simp; exact ne_types hbx hsb (by decide)), hhb, ?_, ?_, hsb0, ?_, ?_⟩
      · rw [cell_heap hsb, seen_get sn u hu6, hfalse]
      · refine hbd.other hf (fun x hx => ?_)
        simp only [List.mem_singleton] at hx
        subst hx
        exact .inr ⟨hsb0, _, 37, (0, 0), hsb, by decide, by decide, by decide, by decide, by decide⟩
      · refine row_fr hrow hf (fun y hy => ?_)
        obtain ⟨_, cur', h2⟩ := row_block hrow hy
        simp only [List.mem_singleton]
        exact ne_types h2 hsb (by decide)
      · rw [heap_set hsb, seen_set sn u hu6]
      · rw [htk, List.countP_append, List.countP_singleton, he, ← hc]
        simp
      · intro u' hu'
        dsimp only at hu'
        split at hu'
        · rename_i e; subst e; exact ⟨k, T, by omega, hkq, he, zo⟩
        · obtain ⟨a, U, h1, h2⟩ := hsn u' hu'
          exact ⟨a, U, by omega, h2⟩

theorem rel3_end {w0 w : World} {mb cb hb sb : Nat} {v : Value} {n c : Nat} (h : Rel3 w0 mb cb hb sb v n n c w) :
    w.cell? ⟨hb, 0, none⟩ = some (.int .i64 hWord) ∧ Calls Try.prog 25 #[.pointer (some ⟨mb, 0, none⟩), .int .i64 hWord] w fun e w' => e = .returned (.tuple #[.int .i64 c, .int .i64 0]) ∧ Fr [] w0 w' := by
  obtain ⟨L, M, W, j, sn, hL, hbd, hI, hbx, hhb, hown, hsb, hsb0, hc, hsn⟩ := h
  have hcW : (c : Int) = W := by rw [hI.count, hc, ← hL, List.take_length]
  refine ⟨box_cell hbx, (mword_does hbd.team.1 hWord).mono ?_⟩
  obtain ⟨i, hi⟩ := hI.good
  have hw : M.wordOf hWord = (some i, W, 0) := by unfold MemS.wordOf; rw [hi]
  rintro e w' ⟨rfl, hM', hf'⟩
  rw [hw, hcW]
  exact ⟨rfl, (hbd.fr.trans hf' (fun x hx => by simp at hx; subst hx; exact .inr hbd.mem.1))⟩
end Go.Proofs.Ytngdmkgbldgmiaa
