/-
  Memory as a list of cells: what it is in the heap, and what (*Mem).cell comes to.
-/
import Derived.Test.YtngdmkgbldgmiaaA0
namespace Go.Proofs.Ytngdmkgbldgmiaa
open Go.RowKit

/-- What a cell holds: a word, or a block of another type. -/
inductive Cont where
  | word (n : Int)
  | block (t : TypeId) (ht : t ≠ 155) (x : Value)
structure MCell where
  v : Option Cont
  gen : Int
  stamp : Int
  ret : Bool
def Cont.ty : Cont → TypeId
  | .word _ => 155
  | .block t _ _ => t
def Cont.val : Cont → Value
  | .word n => .int .i64 n
  | .block _ _ x => x
def encV : Option Cont → Value
  | none => .nilIface
  | some c => .iface c.ty c.val
def MCell.row (c : MCell) : List Value := [encV c.v, .int .i64 c.gen, .int .i64 c.stamp, .bool c.ret]
structure MemS where
  l : List MCell
  count : Int
  live : Int
  stale : Int
def memRow (cb n : Nat) (count live stale : Int) : Array Value := #[.slice (some ⟨cb, 0, none⟩) n n, .int .i64 count, .int .i64 live, .int .i64 stale]
def MemAt (w : World) (mb cb : Nat) (M : MemS) : Prop :=
  w.heap[mb]? = some (.cells (memRow cb M.l.length M.count M.live M.stale) 153 (0, 0)) ∧
  w.heap[cb]? = some (.cells (M.l.flatMap MCell.row).toArray 219 (0, 0)) ∧ mb ≠ cb ∧ M.l.length ≤ 65535

theorem cell_heap {w : World} {b o : Nat} {c : Array Value} {T : TypeId} {fr : Nat × Nat} (h : w.heap[b]? = some (.cells c T fr)) : w.cell? ⟨b, o, none⟩ = c[o]? := by
  simp [World.cell?, h]
theorem frozen_heap {w : World} {b o : Nat} {c : Array Value} {T : TypeId} (h : w.heap[b]? = some (.cells c T (0, 0))) : w.frozen? ⟨b, o, none⟩ = false := by
  simp [World.frozen?, h]

/-- The place of the cell of a handle that isn't stale. -/
def MemS.find (M : MemS) (h : Int) : Option Nat :=
  if 0 ≤ hPlace h then
    match M.l[(hPlace h).toNat]? with
    | some c => if c.v.isSome ∧ c.gen = hGen h then some (hPlace h).toNat else none
    | none => none
  else none
def MemS.asked (M : MemS) : MemS := { M with count := wrap64 (M.count + 1) }
def MemS.staled (M : MemS) : MemS := { M with stale := wrap64 (M.stale + 1) }

theorem flat_get (l : List MCell) (i j : Nat) (c : MCell) (h : l[i]? = some c) (hj : j < 4) : (l.flatMap MCell.row)[i * 4 + j]? = c.row[j]? := by
  induction l generalizing i with
  | nil => simp at h
  | cons a l ih =>
    cases i with
    | zero =>
      simp at h; subst h
      simp only [List.flatMap_cons, Nat.zero_mul, Nat.zero_add]
      rw [List.getElem?_append_left (by simpa [MCell.row] using hj)]
    | succ i =>
      simp only [List.flatMap_cons]
      rw [List.getElem?_append_right (by simp [MCell.row]; omega)]
      simp at h
      rw [show (i + 1) * 4 + j - a.row.length = i * 4 + j by simp [MCell.row]; omega]
      exact ih i h

theorem hid {p : Prop} (h : p) : Hid p := h

/-- But for the blocks of a list all that was there is as it was; what is new lies behind. -/
structure Fr (S : List Nat) (w w' : World) : Prop where
  os : w'.os = w.os
  tape : w'.tape = w.tape
  output : w'.output = w.output
  size : w.heap.size ≤ w'.heap.size
  block : ∀ k, k < w.heap.size → k ∉ S → w'.heap[k]? = w.heap[k]?

theorem Fr.refl (S : List Nat) (w : World) : Fr S w w := ⟨rfl, rfl, rfl, Nat.le_refl _, fun _ _ _ => rfl⟩
theorem Fr.trans {S T : List Nat} {a b c : World} (h : Fr S a b) (k : Fr T b c) (hT : ∀ x, x ∈ T → x ∈ S ∨ a.heap.size ≤ x) : Fr S a c :=
  ⟨k.os.trans h.os, k.tape.trans h.tape, k.output.trans h.output, Nat.le_trans h.size k.size, fun i hi hn =>
    (k.block i (Nat.lt_of_lt_of_le hi h.size) (fun hm => by rcases hT i hm with h' | h'; exact hn h'; omega)).trans (h.block i hi hn)⟩
theorem Fr.trans' {S : List Nat} {a b c : World} (h : Fr S a b) (k : Fr S b c) : Fr S a c := h.trans k (fun _ hx => .inl hx)
theorem Fr.mono {S T : List Nat} {a b : World} (h : Fr S a b) (hT : ∀ x, x ∈ S → x ∈ T ∨ a.heap.size ≤ x) : Fr T a b :=
  ⟨h.os, h.tape, h.output, h.size, fun i hi hn => h.block i hi (fun hm => by rcases hT i hm with h' | h'; exact hn h'; omega)⟩
theorem Fr.drewN {S : List Nat} {a b : World} (h : Fr S a b) (n : Nat) : Fr S a (b.drewN n) := ⟨h.os, h.tape, h.output, h.size, h.block⟩
theorem Fr.drew {S : List Nat} {a b : World} (h : Fr S a b) : Fr S a b.drew := ⟨h.os, h.tape, h.output, h.size, h.block⟩
theorem Fr.alloc {S : List Nat} {a b : World} (h : Fr S a b) (o : Obj) : Fr S a (b.alloc o) :=
  ⟨h.os, h.tape, h.output, Nat.le_trans h.size (by simp), fun k hk hn => by rw [Below.heap_alloc _ _ _ (by have := h.size; omega)]; exact h.block k hk hn⟩
theorem Fr.setCell {S : List Nat} {a b : World} (h : Fr S a b) (p : Addr) (u : Value) (hp : p.block ∈ S ∨ a.heap.size ≤ p.block) : Fr S a (b.setCell p u) :=
  ⟨h.os, h.tape, h.output, Nat.le_trans h.size (by simp), fun k hk hn => by
    rw [Below.heap_setCell _ _ _ _ (by rintro rfl; rcases hp with h' | h'; exact hn h'; omega)]; exact h.block k hk hn⟩
theorem Fr.keep {S : List Nat} {a b : World} (h : Fr S a b) {k : Nat} {o : Obj} (hk : a.heap[k]? = some o) (hn : k ∉ S) : b.heap[k]? = some o := by
  rw [h.block k (by rcases Nat.lt_or_ge k a.heap.size with h' | h'; exact h'; rw [Array.getElem?_eq_none h'] at hk; simp at hk) hn]; exact hk
theorem lt_of_heap {w : World} {k : Nat} {o : Obj} (hk : w.heap[k]? = some o) : k < w.heap.size := by
  rcases Nat.lt_or_ge k w.heap.size with h' | h'
  · exact h'
  · rw [Array.getElem?_eq_none h'] at hk; simp at hk
theorem heap_set {w : World} {b o : Nat} {c : Array Value} {T : TypeId} {fr : Nat × Nat} (h : w.heap[b]? = some (.cells c T fr)) (v : Value) :
    (w.setCell ⟨b, o, none⟩ v).heap[b]? = some (.cells (c.setIfInBounds o v) T fr) := by
  simp [World.setCell, Array.getElem?_modify, h]
theorem heap_set_ne {w : World} {b k o : Nat} (h : k ≠ b) (v : Value) : (w.setCell ⟨b, o, none⟩ v).heap[k]? = w.heap[k]? := Below.heap_setCell _ _ _ _ h
theorem heap_new (w : World) (o : Obj) : (w.alloc o).heap[w.heap.size]? = some o := by
  show (w.heap.push o)[w.heap.size]? = some o
  simp
theorem heap_old {w : World} {k : Nat} {x : Obj} (o : Obj) (h : w.heap[k]? = some x) : (w.alloc o).heap[k]? = some x := by
  rw [Below.heap_alloc _ _ _ (lt_of_heap h)]; exact h

theorem mcell_facts {mb cb : Nat} {M : MemS} {w : World} (hM : MemAt w mb cb M) :
    w.cell? ⟨mb, 0, none⟩ = some (.slice (some ⟨cb, 0, none⟩) M.l.length M.l.length) ∧ w.cell? ⟨mb, 1, none⟩ = some (.int .i64 M.count) ∧ w.cell? ⟨mb, 2, none⟩ = some (.int .i64 M.live) ∧ w.cell? ⟨mb, 3, none⟩ = some (.int .i64 M.stale) ∧ (∀ o, w.frozen? ⟨mb, o, none⟩ = false) ∧ (∀ o, w.frozen? ⟨cb, o, none⟩ = false) := by
  obtain ⟨hm, hc, hne, hlen⟩ := hM
  exact ⟨by rw [cell_heap hm]; rfl, by rw [cell_heap hm]; rfl, by rw [cell_heap hm]; rfl, by rw [cell_heap hm]; rfl, fun o => frozen_heap hm, fun o => frozen_heap hc⟩
theorem mcell_row {mb cb : Nat} {M : MemS} {w : World} (hM : MemAt w mb cb M) {i : Nat} {c : MCell} (h : M.l[i]? = some c) :
    w.cell? ⟨cb, i * 4, none⟩ = some (encV c.v) ∧ w.cell? ⟨cb, i * 4 + 1, none⟩ = some (.int .i64 c.gen) ∧ w.cell? ⟨cb, i * 4 + 2, none⟩ = some (.int .i64 c.stamp) ∧ w.cell? ⟨cb, i * 4 + 3, none⟩ = some (.bool c.ret) := by
  obtain ⟨hm, hc, hne, hlen⟩ := hM
  refine ⟨?_, ?_, ?_, ?_⟩ <;> rw [cell_heap hc]
  · exact (by rw [List.getElem?_toArray]; exact flat_get M.l i 0 c h (by omega))
  · exact (by rw [List.getElem?_toArray]; exact flat_get M.l i 1 c h (by omega))
  · exact (by rw [List.getElem?_toArray]; exact flat_get M.l i 2 c h (by omega))
  · exact (by rw [List.getElem?_toArray]; exact flat_get M.l i 3 c h (by omega))

def CellPost (mb cb : Nat) (M : MemS) (h : Int) (w : World) (e : Ending) (w' : World) : Prop :=
  match M.find h with
  | some i => e = .returned (.tuple #[.pointer (some ⟨cb, i * 4, none⟩), .int .i64 0]) ∧ ∃ n, w' = (w.setCell ⟨mb, 1, none⟩ (.int .i64 (wrap64 (M.count + 1)))).drewN n
  | none => e = .returned (.tuple #[.pointer none, .int .i64 5]) ∧ ∃ n, w' = ((w.setCell ⟨mb, 1, none⟩ (.int .i64 (wrap64 (M.count + 1)))).drewN n).setCell ⟨mb, 3, none⟩ (.int .i64 (wrap64 (M.stale + 1)))


theorem mcell_c1 (mb cb : Nat) (M : MemS) (h : Int) (w : World) (hM : MemAt w mb cb M) (hp : hPlace h < 0) :
    Calls Try.prog 160 #[.pointer (some ⟨mb, 0, none⟩), .int .i64 h] w (CellPost mb cb M h w) := by
  obtain ⟨m0, m1, _, m3, fm, _⟩ := mcell_facts hM
  have hf : M.find h = none := by unfold MemS.find; rw [if_neg (by omega)]
  unfold CellPost; rw [hf]; clear hf hM
  go_enter Try.func160, Try.ntmps160
  go_wp2_with (first | (go_at_call 182; refine (place_any h _).mono ?_; rintro e w' ⟨rfl, rfl⟩) | (go_at_call 183; refine (gen_any h _).mono ?_; rintro e w' ⟨rfl, rfl⟩))
  go_quiet (fail)
  go_wp2
  go_ret2
  exact ⟨rfl, _, rfl⟩

theorem mcell_c2 (mb cb : Nat) (M : MemS) (h : Int) (w : World) (hM : MemAt w mb cb M) (i : Nat) (hi : hPlace h = i) (hlt : M.l.length ≤ i) :
    Calls Try.prog 160 #[.pointer (some ⟨mb, 0, none⟩), .int .i64 h] w (CellPost mb cb M h w) := by
  obtain ⟨m0, m1, _, m3, fm, _⟩ := mcell_facts hM
  have hf : M.find h = none := by
    unfold MemS.find; rw [if_pos (by omega), hi, List.getElem?_eq_none (by simpa using hlt)]
  unfold CellPost; rw [hf]; clear hf hM
  have hpl := place_any h
  rw [hi] at hpl
  clear hi
  have g2 : decide (M.l.length ≤ i) = true := by simp; omega
  have g0 : decide ((i : Int) < 0) = false := by simp
  go_enter Try.func160, Try.ntmps160
  go_wp2_with (first | (go_at_call 182; refine (hpl _).mono ?_; rintro e w' ⟨rfl, rfl⟩) | (go_at_call 183; refine (gen_any h _).mono ?_; rintro e w' ⟨rfl, rfl⟩))
  clear hpl
  go_quiet (fail)
  go_wp2
  go_ret2
  exact ⟨rfl, _, rfl⟩

theorem mcell_c3 (mb cb : Nat) (M : MemS) (h : Int) (w : World) (hM : MemAt w mb cb M) (i : Nat) (hi : hPlace h = i) (c : MCell) (hc : M.l[i]? = some c) :
    Calls Try.prog 160 #[.pointer (some ⟨mb, 0, none⟩), .int .i64 h] w (CellPost mb cb M h w) := by
  obtain ⟨m0, m1, _, m3, fm, fc⟩ := mcell_facts hM
  obtain ⟨c0, c1, _, _⟩ := mcell_row hM hc
  have hne : ¬ mb = cb := hM.2.2.1
  have hne' : ¬ cb = mb := fun e => hne e.symm
  have hlt : i < M.l.length := by
    rcases Nat.lt_or_ge i M.l.length with h | h
    · exact h
    · rw [List.getElem?_eq_none h] at hc; simp at hc
  have hf : M.find h = if c.v.isSome ∧ c.gen = hGen h then some i else none := by
    unfold MemS.find; rw [if_pos (by omega), hi, Int.toNat_natCast, hc]
  unfold CellPost; rw [hf]; clear hf hM hc
  have hpl := place_any h
  rw [hi] at hpl
  clear hi
  have g2 : decide (M.l.length ≤ i) = false := by simp; omega
  have g0 : decide ((i : Int) < 0) = false := by simp
  obtain ⟨v, gen, stamp, ret⟩ := c
  cases v with
  | none =>
    simp only [encV] at c0
    dsimp only at c1
    rw [if_neg (by simp)]
    go_enter Try.func160, Try.ntmps160
    go_wp2_with (first | (go_at_call 182; refine (hpl _).mono ?_; rintro e w' ⟨rfl, rfl⟩))
    clear hpl
    go_quiet (fail)
    go_wp2
    go_ret2
    exact ⟨rfl, _, rfl⟩
  | some tx =>
    simp only [encV] at c0
    generalize tx.ty = t at c0
    generalize tx.val = x at c0
    dsimp only at c1
    by_cases hg : gen = hGen h
    · have g3 : (gen != hGen h) = false := by simp [hg]
      rw [if_pos ⟨rfl, hg⟩]
      clear hg
      go_enter Try.func160, Try.ntmps160
      go_wp2_with (first | (go_at_call 182; refine (hpl _).mono ?_; rintro e w' ⟨rfl, rfl⟩))
      clear hpl
      go_quiet ((go_at_call 183; exact Calls.quiet_of_same (gen_any _ _)))
      go_wp2
      go_ret2
      exact ⟨rfl, _, rfl⟩
    · have g3 : (gen != hGen h) = true := by simp [hg]
      rw [if_neg (fun e => hg e.2)]
      clear hg
      go_enter Try.func160, Try.ntmps160
      go_wp2_with (first | (go_at_call 182; refine (hpl _).mono ?_; rintro e w' ⟨rfl, rfl⟩))
      clear hpl
      go_quiet ((go_at_call 183; exact Calls.quiet_of_same (gen_any _ _)))
      go_wp2
      go_ret2
      exact ⟨rfl, _, rfl⟩
theorem mcell_any (mb cb : Nat) (M : MemS) (h : Int) (w : World) (hM : MemAt w mb cb M) :
    Calls Try.prog 160 #[.pointer (some ⟨mb, 0, none⟩), .int .i64 h] w (CellPost mb cb M h w) := by
  by_cases hp : hPlace h < 0
  · exact mcell_c1 mb cb M h w hM hp
  obtain ⟨i, hi⟩ := Int.eq_ofNat_of_zero_le (show 0 ≤ hPlace h by omega)
  cases hc : M.l[i]? with
  | none => exact mcell_c2 mb cb M h w hM i hi (by simpa using hc)
  | some c => exact mcell_c3 mb cb M h w hM i hi c hc

/-- Memory behind an ask of a cell. -/
def MemS.cellSt (M : MemS) (h : Int) : MemS := if (M.find h).isSome then M.asked else M.asked.staled
def cellPtr (cb : Nat) : Option Nat → Value
  | some i => .pointer (some ⟨cb, i * 4, none⟩)
  | none => .pointer none
def cellErr : Option Nat → Int
  | some _ => 0
  | none => 5

theorem memAt_asked {mb cb : Nat} {M : MemS} {w : World} (hM : MemAt w mb cb M) (n : Nat) :
    MemAt ((w.setCell ⟨mb, 1, none⟩ (.int .i64 (wrap64 (M.count + 1)))).drewN n) mb cb M.asked := by
  obtain ⟨h1, h2, h3, h4⟩ := hM
  refine ⟨?_, ?_, h3, h4⟩
  · rw [World.heap_drewN, heap_set h1]; rfl
  · rw [World.heap_drewN, heap_set_ne (Ne.symm h3)]; exact h2
theorem memAt_staled {mb cb : Nat} {M : MemS} {w : World} (hM : MemAt w mb cb M) :
    MemAt (w.setCell ⟨mb, 3, none⟩ (.int .i64 (wrap64 (M.stale + 1)))) mb cb M.staled := by
  obtain ⟨h1, h2, h3, h4⟩ := hM
  refine ⟨?_, ?_, h3, h4⟩
  · rw [heap_set h1]; rfl
  · rw [heap_set_ne (Ne.symm h3)]; exact h2

theorem cell_does {mb cb : Nat} {M : MemS} {w : World} (hM : MemAt w mb cb M) (h : Int) :
    Calls Try.prog 160 #[.pointer (some ⟨mb, 0, none⟩), .int .i64 h] w fun e w' =>
      e = .returned (.tuple #[cellPtr cb (M.find h), .int .i64 (cellErr (M.find h))]) ∧ MemAt w' mb cb (M.cellSt h) ∧ Fr [mb] w w' := by
  refine (mcell_any mb cb M h w hM).mono ?_
  intro e w' hp
  unfold CellPost at hp
  unfold MemS.cellSt
  split at hp
  · rename_i i hf
    rw [hf]
    obtain ⟨he, n, rfl⟩ := hp
    exact ⟨he, memAt_asked hM n, ((Fr.refl _ _).setCell _ _ (.inl (by simp))).drewN n⟩
  · rename_i hf
    rw [hf]
    obtain ⟨he, n, rfl⟩ := hp
    exact ⟨he, memAt_staled (memAt_asked hM n), (((Fr.refl _ _).setCell _ _ (.inl (by simp))).drewN n).setCell _ _ (.inl (by simp))⟩
end Go.Proofs.Ytngdmkgbldgmiaa
