/-
  A port in the heap: by what a function asks memory; its log.
-/
import Derived.Test.YtngdmkgbldgmiaaA5
namespace Go.Proofs.Ytngdmkgbldgmiaa
open Go.RowKit

/-- What memory answers. -/
structure Ans where
  b : Option Cont
  n : Int
  ok : Bool
  e : Int
def Ans.row (a : Ans) : List Value := [encV a.b, .int .i64 a.n, .bool a.ok, .int .i64 a.e]
def Ans.val (a : Ans) : Value := .agg #[encV a.b, .int .i64 a.n, .bool a.ok, .int .i64 a.e]
def ans0 : Ans := ⟨none, 0, false, 0⟩

structure PortS where
  log : List Ans
  pos : Nat
  left : Int
  note : Int
structure Ctx where
  mb : Nat
  cb : Nat
  pb : Nat
structure St where
  M : MemS
  P : PortS

def PortAt (w : World) (mb pb : Nat) (lv : Value) (P : PortS) : Prop :=
  w.heap[pb]? = some (.cells #[.pointer (some ⟨mb, 0, none⟩), lv, .int .i64 P.pos, .int .i64 P.left, .int .i64 P.note] 158 (0, 0)) ∧
  w.ownsRow 0 162 4 lv P.log.length (P.log.flatMap Ans.row) ∧ P.log.length + P.left.toNat ≤ 1000000 ∧ P.pos ≤ P.log.length ∧ -1 ≤ P.left ∧ P.left ≤ 1
def Rep (w : World) (C : Ctx) (lv : Value) (S : St) : Prop := MemAt w C.mb C.cb S.M ∧ PortAt w C.mb C.pb lv S.P
def lvb (lv : Value) : List Nat := lv.ownBlock.toList

theorem PortAt.facts {w : World} {mb pb : Nat} {lv : Value} {P : PortS} (h : PortAt w mb pb lv P) :
    w.cell? ⟨pb, 0, none⟩ = some (.pointer (some ⟨mb, 0, none⟩)) ∧ w.cell? ⟨pb, 1, none⟩ = some lv ∧ w.cell? ⟨pb, 2, none⟩ = some (.int .i64 P.pos) ∧ w.cell? ⟨pb, 3, none⟩ = some (.int .i64 P.left) ∧ w.cell? ⟨pb, 4, none⟩ = some (.int .i64 P.note) ∧ (∀ o, w.frozen? ⟨pb, o, none⟩ = false) := by
  obtain ⟨hm, _⟩ := h
  exact ⟨by rw [cell_heap hm]; rfl, by rw [cell_heap hm]; rfl, by rw [cell_heap hm]; rfl, by rw [cell_heap hm]; rfl, by rw [cell_heap hm]; rfl, fun o => frozen_heap hm⟩

theorem flat_ans (l : List Ans) (i j : Nat) (c : Ans) (h : l[i]? = some c) (hj : j < 4) : (l.flatMap Ans.row)[i * 4 + j]? = c.row[j]? := by
  induction l generalizing i with
  | nil => simp at h
  | cons a l ih =>
    cases i with
    | zero =>
      simp at h; subst h
      simp only [List.flatMap_cons, Nat.zero_mul, Nat.zero_add]
      rw [List.getElem?_append_left (by simpa [Ans.row] using hj)]
    | succ i =>
      simp only [List.flatMap_cons]
      rw [List.getElem?_append_right (by simp [Ans.row]; omega)]
      simp at h
      rw [show (i + 1) * 4 + j - a.row.length = i * 4 + j by simp [Ans.row]; omega]
      exact ih i h

/-- The log's slice, and an answer in it. -/
theorem log_get {w : World} {mb pb : Nat} {lv : Value} {P : PortS} (h : PortAt w mb pb lv P) {i : Nat} {a : Ans} (ha : P.log[i]? = some a) :
    ∃ g cap cur, lv = .slice (some ⟨g, 0, none⟩) P.log.length cap ∧ w.heap[g]? = some (.cells cur 162 (0, 0)) ∧ w.cell? ⟨g, i * 4, none⟩ = some (encV a.b) ∧ w.cell? ⟨g, i * 4 + 1, none⟩ = some (.int .i64 a.n) ∧ w.cell? ⟨g, i * 4 + 2, none⟩ = some (.bool a.ok) ∧ w.cell? ⟨g, i * 4 + 3, none⟩ = some (.int .i64 a.e) := by
  have hlt : i < P.log.length := by
    rcases Nat.lt_or_ge i P.log.length with h | h
    · exact h
    · rw [List.getElem?_eq_none h] at ha; simp at ha
  obtain ⟨_, hown, _⟩ := h
  rcases hown.2 with ⟨_, hn⟩ | ⟨g, cap, cur, hv, _, hg, _⟩
  · omega
  · subst hv
    refine ⟨g, cap, cur, rfl, hg, ?_, ?_, ?_, ?_⟩
    · rw [hown.cellAt _ (by omega)]; exact flat_ans _ i 0 a ha (by omega)
    · rw [hown.cellAt _ (by omega)]; exact flat_ans _ i 1 a ha (by omega)
    · rw [hown.cellAt _ (by omega)]; exact flat_ans _ i 2 a ha (by omega)
    · rw [hown.cellAt _ (by omega)]; exact flat_ans _ i 3 a ha (by omega)

theorem lv_len {w : World} {mb pb : Nat} {lv : Value} {P : PortS} (h : PortAt w mb pb lv P) :
    ∃ ao cap, lv = .slice ao P.log.length cap := by
  obtain ⟨_, hown, _⟩ := h
  rcases hown.2 with ⟨hv, hn⟩ | ⟨g, cap, cur, hv, _⟩
  · exact ⟨none, 0, by rw [hv, hn]⟩
  · exact ⟨_, cap, hv⟩

theorem encV_cases (b : Option Cont) : encV b = .nilIface ∨ ∃ t x, encV b = .iface t x := by
  cases b with
  | none => exact .inl rfl
  | some c => exact .inr ⟨_, _, rfl⟩

theorem MemAt.fr {w w' : World} {mb cb : Nat} {M : MemS} {S : List Nat} (h : MemAt w mb cb M) (hf : Fr S w w') (h1 : mb ∉ S) (h2 : cb ∉ S) : MemAt w' mb cb M :=
  ⟨hf.keep h.1 h1, hf.keep h.2.1 h2, h.2.2⟩
theorem ownsRow_fr {w w' : World} {S : List Nat} {lv : Value} {n : Nat} {xs : List Value} (h : w.ownsRow 0 162 4 lv n xs) (hf : Fr S w w') (h2 : ∀ g ∈ lvb lv, g ∉ S) : w'.ownsRow 0 162 4 lv n xs := by
  refine ⟨h.1, ?_⟩
  rcases h.2 with h' | ⟨g, cap, cur, hv, hb, hg, r⟩
  · exact .inl h'
  · exact .inr ⟨g, cap, cur, hv, hb, hf.keep hg (h2 g (by rw [hv]; simp [lvb, Value.ownBlock])), r⟩
theorem PortAt.fr {w w' : World} {mb pb : Nat} {lv : Value} {P : PortS} {S : List Nat} (h : PortAt w mb pb lv P) (hf : Fr S w w') (h1 : pb ∉ S) (h2 : ∀ g ∈ lvb lv, g ∉ S) : PortAt w' mb pb lv P :=
  ⟨hf.keep h.1 h1, ownsRow_fr h.2.1 hf h2, h.2.2⟩
theorem lvb_heap {w : World} {mb pb : Nat} {lv : Value} {P : PortS} (h : PortAt w mb pb lv P) {g : Nat} (hg : g ∈ lvb lv) : ∃ cur, w.heap[g]? = some (.cells cur 162 (0, 0)) := by
  rcases h.2.1.2 with ⟨hv, _⟩ | ⟨g', cap, cur, hv, _, hh, _⟩
  · rw [hv] at hg; simp [lvb, Value.ownBlock] at hg
  · rw [hv] at hg; simp [lvb, Value.ownBlock] at hg; subst hg; exact ⟨cur, hh⟩
theorem lvb_lt {w : World} {mb pb : Nat} {lv : Value} {P : PortS} (h : PortAt w mb pb lv P) {g : Nat} (hg : g ∈ lvb lv) : g < w.heap.size :=
  let ⟨_, h'⟩ := lvb_heap h hg; lt_of_heap h'
theorem lvb_ne {w : World} {mb pb : Nat} {lv : Value} {P : PortS} (h : PortAt w mb pb lv P) : pb ∉ lvb lv := by
  intro hg
  obtain ⟨c, h'⟩ := lvb_heap h hg
  rw [h.1] at h'; simp at h'
theorem ne_types {w : World} {a b : Nat} {c c' : Array Value} {T T' : TypeId} {f f' : Nat × Nat} (h : w.heap[a]? = some (.cells c T f)) (h' : w.heap[b]? = some (.cells c' T' f')) (hT : T ≠ T') : a ≠ b := by
  rintro rfl
  rw [h] at h'
  simp only [Option.some.injEq, Obj.cells.injEq] at h'
  exact hT h'.2.1

theorem ownsRow_set {w : World} {b o : Nat} {u : Value} {lv : Value} {n : Nat} {xs : List Value} (h : w.ownsRow 0 162 4 lv n xs) (hb : b ∉ lvb lv) : (w.setCell ⟨b, o, none⟩ u).ownsRow 0 162 4 lv n xs :=
  ownsRow_fr (S := [b]) h ((Fr.refl _ _).setCell _ _ (.inl (by simp))) (fun g hg => by simp; rintro rfl; exact hb hg)
theorem PortAt.setPos {w : World} {mb pb : Nat} {lv : Value} {P : PortS} (h : PortAt w mb pb lv P) (n : Nat) (hn : n ≤ P.log.length) : PortAt (w.setCell ⟨pb, 2, none⟩ (.int .i64 n)) mb pb lv { P with pos := n } :=
  ⟨by rw [heap_set h.1]; rfl, ownsRow_set h.2.1 (lvb_ne h), h.2.2.1, hn, h.2.2.2.2⟩
theorem PortAt.setLeft {w : World} {mb pb : Nat} {lv : Value} {P : PortS} (h : PortAt w mb pb lv P) (n : Int) (h0 : P.log.length + n.toNat ≤ 1000000) (h1 : -1 ≤ n) (h2 : n ≤ 1) : PortAt (w.setCell ⟨pb, 3, none⟩ (.int .i64 n)) mb pb lv { P with left := n } :=
  ⟨by rw [heap_set h.1]; rfl, ownsRow_set h.2.1 (lvb_ne h), h0, h.2.2.2.1, h1, h2⟩
theorem PortAt.setNote {w : World} {mb pb : Nat} {lv : Value} {P : PortS} (h : PortAt w mb pb lv P) (n : Int) : PortAt (w.setCell ⟨pb, 4, none⟩ (.int .i64 n)) mb pb lv { P with note := n } :=
  ⟨by rw [heap_set h.1]; rfl, ownsRow_set h.2.1 (lvb_ne h), h.2.2⟩

/-- From one state of memory and of a port to another one. -/
def Moves (C : Ctx) (w : World) (lv : Value) (w' : World) (lv' : Value) (S' : St) : Prop :=
  Rep w' C lv' S' ∧ Fr (C.mb :: C.cb :: C.pb :: lvb lv) w w' ∧ (∀ g ∈ lvb lv', g ∈ lvb lv ∨ w.heap.size ≤ g)

theorem Moves.trans {C : Ctx} {w w1 w2 : World} {lv lv1 lv2 : Value} {S1 S2 : St} (h : Moves C w lv w1 lv1 S1) (k : Moves C w1 lv1 w2 lv2 S2) : Moves C w lv w2 lv2 S2 :=
  ⟨k.1, h.2.1.trans k.2.1 (fun x hx => by
    simp only [List.mem_cons] at hx ⊢
    rcases hx with rfl | rfl | rfl | hx
    · simp
    · simp
    · simp
    · rcases h.2.2 x hx with h' | h'
      · exact .inl (.inr (.inr (.inr h')))
      · exact .inr h'), fun g hg => by
    rcases k.2.2 g hg with h' | h'
    · exact h.2.2 g h'
    · exact .inr (Nat.le_trans h.2.1.size h')⟩
theorem Moves.refl {C : Ctx} {w : World} {lv : Value} {S : St} (h : Rep w C lv S) : Moves C w lv w lv S := ⟨h, Fr.refl _ _, fun _ hg => .inl hg⟩
/-- Ahead of the move, and behind it, other blocks alone may turn. -/
theorem Rep.fr {w w' : World} {C : Ctx} {lv : Value} {S : St} (h : Rep w C lv S) (hf : Fr [] w w') : Rep w' C lv S :=
  ⟨h.1.fr hf (by simp) (by simp), h.2.fr hf (by simp) (fun _ _ => by simp)⟩
theorem Moves.of_fr {C : Ctx} {w w' : World} {lv : Value} {S : St} (h : Rep w C lv S) (hf : Fr [] w w') : Moves C w lv w' lv S :=
  ⟨h.fr hf, hf.mono (fun _ hx => by simp at hx), fun _ hg => .inl hg⟩
theorem Moves.pre {C : Ctx} {w w1 w2 : World} {lv lv2 : Value} {S2 : St} (hf : Fr [] w w1) (h : Moves C w1 lv w2 lv2 S2) : Moves C w lv w2 lv2 S2 :=
  ⟨h.1, (hf.mono (fun x hx => by simp at hx)).trans' h.2.1, fun g hg => by
    rcases h.2.2 g hg with h' | h'
    · exact .inl h'
    · exact .inr (Nat.le_trans hf.size h')⟩
/-- Behind a move only blocks that are new since then turn. -/
theorem Moves.post {C : Ctx} {w w1 w2 : World} {lv lv1 : Value} {S1 : St} {T : List Nat} (h : Moves C w lv w1 lv1 S1) (hf : Fr T w1 w2) (hT : ∀ x ∈ T, w.heap.size ≤ x ∧ x ≠ C.mb ∧ x ≠ C.cb ∧ x ≠ C.pb ∧ x ∉ lvb lv1) : Moves C w lv w2 lv1 S1 :=
  ⟨⟨h.1.1.fr hf (fun hm => (hT _ hm).2.1 rfl) (fun hm => (hT _ hm).2.2.1 rfl), h.1.2.fr hf (fun hm => (hT _ hm).2.2.2.1 rfl) (fun g hg hm => (hT _ hm).2.2.2.2 hg)⟩,
    h.2.1.trans hf (fun x hx => .inr (hT x hx).1), h.2.2⟩
end Go.Proofs.Ytngdmkgbldgmiaa
