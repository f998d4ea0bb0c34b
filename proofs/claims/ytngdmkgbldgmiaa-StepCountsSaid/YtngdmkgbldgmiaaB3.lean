/-
  What the closures do by which a port asks memory: an ask each. (Printed by gen_ports.py.)
-/
import Derived.Test.YtngdmkgbldgmiaaB2
namespace Go.Proofs.Ytngdmkgbldgmiaa
open Go.RowKit

theorem box_cell {w : World} {b : Nat} {v : Value} {T : TypeId} (h : w.heap[b]? = some (.cells #[v] T (0, 0))) : w.cell? ⟨b, 0, none⟩ = some v := by rw [cell_heap h]; rfl
theorem Fr.cellOf {S : List Nat} {w w' : World} {b o : Nat} {v : Value} (hf : Fr S w w') (h : w.cell? ⟨b, o, none⟩ = some v) (hb : b ∉ S) : w'.cell? ⟨b, o, none⟩ = some v := by
  have hlt : b < w.heap.size := by
    rcases Nat.lt_or_ge b w.heap.size with h' | h'
    · exact h'
    · simp [World.cell?, Array.getElem?_eq_none h'] at h
  rw [← h]
  exact World.cell?_of_block (a := ⟨b, o, none⟩) (hf.block b hlt hb)
def MemS.loadM (M : MemS) (h : Int) : (Option Cont × Int) × MemS := (M.loadOf h, M.cellSt h)
def MemS.wordM (M : MemS) (h : Int) : (Int × Int) × MemS := ((M.wordOf h).2, M.cellSt h)
def zero4 : Array Value := #[.nilIface, .int .i64 0, .bool false, .int .i64 0]
/-- What is kept while memory is asked: the block of the answer. -/
theorem slot_kept {mb cb : Nat} {w w' : World} {M : MemS} (hM : MemAt w mb cb M) (hf : Fr [mb, cb] ((w.alloc (.cells #[.nilIface, .int .i64 0, .bool false, .int .i64 0] 162)).drew) w') :
    w'.heap[w.heap.size]? = some (.cells #[.nilIface, .int .i64 0, .bool false, .int .i64 0] 162 (0, 0)) ∧ w.heap.size < w'.heap.size := by
  refine ⟨hf.keep (k := w.heap.size) (heap_new w _) ?_, ?_⟩
  · simp
    exact ⟨Nat.ne_of_gt (lt_of_heap hM.1), Nat.ne_of_gt (lt_of_heap hM.2.1)⟩
  · have := hf.size
    simp at this
    omega
theorem lit_end {mb cb : Nat} {w w1 : World} {M M' : MemS} (hM : MemAt w mb cb M) (hM1 : MemAt w1 mb cb M') (hf : Fr [mb, cb] ((w.alloc (.cells #[.nilIface, .int .i64 0, .bool false, .int .i64 0] 162)).drew) w1) (u0 u1 u2 u3 : Value) :
    MemAt ((((w1.setCell ⟨w.heap.size, 0, none⟩ u0).setCell ⟨w.heap.size, 1, none⟩ u1).setCell ⟨w.heap.size, 2, none⟩ u2).setCell ⟨w.heap.size, 3, none⟩ u3) mb cb M' ∧
      Fr [mb, cb] w ((((w1.setCell ⟨w.heap.size, 0, none⟩ u0).setCell ⟨w.heap.size, 1, none⟩ u1).setCell ⟨w.heap.size, 2, none⟩ u2).setCell ⟨w.heap.size, 3, none⟩ u3) := by
  have h1 := lt_of_heap hM.1
  have h2 := lt_of_heap hM.2.1
  exact ⟨hM1.fr (fr_set4 _ _ _ _ _ _) (by simp; omega) (by simp; omega), (((Fr.refl _ _).alloc _).drew.trans' hf).trans (fr_set4 _ _ _ _ _ _) (fun x hx => by simp at hx; subst hx; exact .inr (Nat.le_refl _))⟩

def askAllocWord (x1 : Int) (M : MemS) : Ans × MemS :=
  let r := (M.asked.put (.word x1))
  (⟨none, r.1.1, false, r.1.2⟩, r.2)

set_option maxRecDepth 100000 in
theorem litAllocWord {mb cb pb bp b1 : Nat} {M : MemS} {x1 : Int} {w : World} (hM : MemAt w mb cb M) {pc : Array Value} (hp : w.heap[pb]? = some (.cells pc 158 (0, 0))) (hp0 : pc[0]? = some (.pointer (some ⟨mb, 0, none⟩)))
    (h0 : w.heap[bp]? = some (.cells #[.pointer (some ⟨pb, 0, none⟩)] 33 (0, 0))) (h1 : w.heap[b1]? = some (.cells #[.int .i64 x1] 3 (0, 0))) :
    Calls Try.prog 157 #[.pointer (some ⟨bp, 0, none⟩), .pointer (some ⟨b1, 0, none⟩)] w fun e w' => e = .returned (askAllocWord x1 M).1.val ∧ MemAt w' mb cb (askAllocWord x1 M).2 ∧ Fr [mb, cb] w w' := by
  have cp : w.cell? ⟨pb, 0, none⟩ = some (.pointer (some ⟨mb, 0, none⟩)) := by rw [cell_heap hp]; exact hp0
  have c0 := box_cell h0
  have c1 := box_cell h1
  have sp := lt_of_heap hp
  have s0 := lt_of_heap h0
  have s1 := lt_of_heap h1
  have HM := hid hM
  have Hn : Hid (pb ∉ [mb, cb] ∧ bp ∉ [mb, cb] ∧ b1 ∉ [mb, cb]) := by
    refine ⟨?_, ?_, ?_⟩
    · simp; exact ⟨ne_types hp hM.1 (by decide), ne_types hp hM.2.1 (by decide)⟩
    · simp; exact ⟨ne_types h0 hM.1 (by decide), ne_types h0 hM.2.1 (by decide)⟩
    · simp; exact ⟨ne_types h1 hM.1 (by decide), ne_types h1 hM.2.1 (by decide)⟩
  have Hc : Hid (∀ W, Fr [] w W → Calls Try.prog 17 #[.pointer (some ⟨mb, 0, none⟩), .int .i64 x1] W fun e w' =>
      e = .returned (.tuple #[.int .i64 (M.asked.put (.word x1)).1.1, .int .i64 (M.asked.put (.word x1)).1.2]) ∧ MemAt w' mb cb ((M.asked.put (.word x1)).2) ∧ Fr [mb, cb] W w') := fun W hf => mallocWord_does (hM.fr hf (by simp) (by simp)) x1
  have Hk : Hid (∀ W W', Fr [] w W → Fr [mb, cb] W W' → W'.cell? ⟨bp, 0, none⟩ = some (.pointer (some ⟨pb, 0, none⟩)) ∧ W'.cell? ⟨b1, 0, none⟩ = some (.int .i64 x1) ∧ W'.cell? ⟨pb, 0, none⟩ = some (.pointer (some ⟨mb, 0, none⟩))) := fun W W' hf hf' =>
    ⟨hf'.cellOf (hf.cellOf c0 (by simp)) Hn.out.2.1, hf'.cellOf (hf.cellOf c1 (by simp)) Hn.out.2.2, hf'.cellOf (hf.cellOf cp (by simp)) Hn.out.1⟩
  clear hM h0 h1 hp hp0
  unfold askAllocWord
  dsimp only
  generalize (M.asked.put (.word x1)) = r at Hc ⊢
  obtain ⟨⟨n, er⟩, M'⟩ := r
  dsimp only at Hc ⊢
  go_enter Try.func157, Try.ntmps157
  go_wp2_with fail
  go_region_held3 (fun W => W.cell? ⟨bp, 0, none⟩ = some (.pointer (some ⟨pb, 0, none⟩)) ∧ W.cell? ⟨b1, 0, none⟩ = some (.int .i64 x1) ∧ W.cell? ⟨pb, 0, none⟩ = some (.pointer (some ⟨mb, 0, none⟩))) (go_keep) (first | (go_at_call 17; refine (Hc.out _ (((Fr.refl _ _).alloc _).drew)).mono ?_; rintro e w1 ⟨rfl, hM', hfr⟩; obtain ⟨k0, k1, k2⟩ := Hk.out _ _ (((Fr.refl _ _).alloc _).drew) hfr; obtain ⟨hr4, hs1⟩ := slot_kept HM.out hfr; obtain ⟨r0, r1, r2, r3, fr⟩ := cells4 hr4))
  have Hend := hid (fun u0 u1 u2 u3 => lit_end HM.out hM' hfr u0 u1 u2 u3)
  clear hM' hfr hr4
  go_wp2_with fail
  refine bodyPost_ret (by simp [results, Try.results157, go_sem, r0, r1, r2, r3]; rfl) rfl ⟨rfl, (Hend.out _ _ _ _).1, (Hend.out _ _ _ _).2⟩
theorem cf157 (caps : Array Value) (w : World) : (callFunc 157 caps).run Try.prog w = .ok (.enter 157 caps) w := by kernel_rfl

def askAlloc (x1 : Option Cont) (M : MemS) : Ans × MemS :=
  let r := (M.allocOf x1)
  (⟨none, r.1.1, false, r.1.2⟩, r.2)

set_option maxRecDepth 100000 in
theorem litAlloc {mb cb pb bp b1 : Nat} {M : MemS} {x1 : Option Cont} {w : World} (hM : MemAt w mb cb M) {pc : Array Value} (hp : w.heap[pb]? = some (.cells pc 158 (0, 0))) (hp0 : pc[0]? = some (.pointer (some ⟨mb, 0, none⟩)))
    (h0 : w.heap[bp]? = some (.cells #[.pointer (some ⟨pb, 0, none⟩)] 33 (0, 0))) (h1 : w.heap[b1]? = some (.cells #[encV x1] 20 (0, 0))) :
    Calls Try.prog 172 #[.pointer (some ⟨bp, 0, none⟩), .pointer (some ⟨b1, 0, none⟩)] w fun e w' => e = .returned (askAlloc x1 M).1.val ∧ MemAt w' mb cb (askAlloc x1 M).2 ∧ Fr [mb, cb] w w' := by
  have cp : w.cell? ⟨pb, 0, none⟩ = some (.pointer (some ⟨mb, 0, none⟩)) := by rw [cell_heap hp]; exact hp0
  have c0 := box_cell h0
  have c1 := box_cell h1
  have sp := lt_of_heap hp
  have s0 := lt_of_heap h0
  have s1 := lt_of_heap h1
  have HM := hid hM
  have Hn : Hid (pb ∉ [mb, cb] ∧ bp ∉ [mb, cb] ∧ b1 ∉ [mb, cb]) := by
    refine ⟨?_, ?_, ?_⟩
    · simp; exact ⟨ne_types hp hM.1 (by decide), ne_types hp hM.2.1 (by decide)⟩
    · simp; exact ⟨ne_types h0 hM.1 (by decide), ne_types h0 hM.2.1 (by decide)⟩
    · simp; exact ⟨ne_types h1 hM.1 (by decide), ne_types h1 hM.2.1 (by decide)⟩
  have Hc : Hid (∀ W, Fr [] w W → Calls Try.prog 173 #[.pointer (some ⟨mb, 0, none⟩), encV x1] W fun e w' =>
      e = .returned (.tuple #[.int .i64 (M.allocOf x1).1.1, .int .i64 (M.allocOf x1).1.2]) ∧ MemAt w' mb cb ((M.allocOf x1).2) ∧ Fr [mb, cb] W w') := fun W hf => malloc_does (hM.fr hf (by simp) (by simp)) x1
  have Hk : Hid (∀ W W', Fr [] w W → Fr [mb, cb] W W' → W'.cell? ⟨bp, 0, none⟩ = some (.pointer (some ⟨pb, 0, none⟩)) ∧ W'.cell? ⟨b1, 0, none⟩ = some (encV x1) ∧ W'.cell? ⟨pb, 0, none⟩ = some (.pointer (some ⟨mb, 0, none⟩))) := fun W W' hf hf' =>
    ⟨hf'.cellOf (hf.cellOf c0 (by simp)) Hn.out.2.1, hf'.cellOf (hf.cellOf c1 (by simp)) Hn.out.2.2, hf'.cellOf (hf.cellOf cp (by simp)) Hn.out.1⟩
  clear hM h0 h1 hp hp0
  unfold askAlloc
  dsimp only
  generalize (M.allocOf x1) = r at Hc ⊢
  obtain ⟨⟨n, er⟩, M'⟩ := r
  obtain ⟨y1, hy1⟩ : ∃ y, y = encV x1 := ⟨_, rfl⟩
  rw [← hy1] at c1 Hc Hk
  clear hy1
  dsimp only at Hc ⊢
  go_enter Try.func172, Try.ntmps172
  go_wp2_with fail
  go_region_held3 (fun W => W.cell? ⟨bp, 0, none⟩ = some (.pointer (some ⟨pb, 0, none⟩)) ∧ W.cell? ⟨b1, 0, none⟩ = some y1 ∧ W.cell? ⟨pb, 0, none⟩ = some (.pointer (some ⟨mb, 0, none⟩))) (go_keep) (first | (go_at_call 173; refine (Hc.out _ (((Fr.refl _ _).alloc _).drew)).mono ?_; rintro e w1 ⟨rfl, hM', hfr⟩; obtain ⟨k0, k1, k2⟩ := Hk.out _ _ (((Fr.refl _ _).alloc _).drew) hfr; obtain ⟨hr4, hs1⟩ := slot_kept HM.out hfr; obtain ⟨r0, r1, r2, r3, fr⟩ := cells4 hr4))
  have Hend := hid (fun u0 u1 u2 u3 => lit_end HM.out hM' hfr u0 u1 u2 u3)
  clear hM' hfr hr4
  go_wp2_with fail
  refine bodyPost_ret (by simp [results, Try.results172, go_sem, r0, r1, r2, r3]; rfl) rfl ⟨rfl, (Hend.out _ _ _ _).1, (Hend.out _ _ _ _).2⟩
theorem cf172 (caps : Array Value) (w : World) : (callFunc 172 caps).run Try.prog w = .ok (.enter 172 caps) w := by kernel_rfl

def askLoad (x1 : Int) (M : MemS) : Ans × MemS :=
  let r := (M.loadM x1)
  (⟨r.1.1, 0, false, r.1.2⟩, r.2)

set_option maxRecDepth 100000 in
theorem litLoad {mb cb pb bp b1 : Nat} {M : MemS} {x1 : Int} {w : World} (hM : MemAt w mb cb M) {pc : Array Value} (hp : w.heap[pb]? = some (.cells pc 158 (0, 0))) (hp0 : pc[0]? = some (.pointer (some ⟨mb, 0, none⟩)))
    (h0 : w.heap[bp]? = some (.cells #[.pointer (some ⟨pb, 0, none⟩)] 33 (0, 0))) (h1 : w.heap[b1]? = some (.cells #[.int .i64 x1] 3 (0, 0))) :
    Calls Try.prog 189 #[.pointer (some ⟨bp, 0, none⟩), .pointer (some ⟨b1, 0, none⟩)] w fun e w' => e = .returned (askLoad x1 M).1.val ∧ MemAt w' mb cb (askLoad x1 M).2 ∧ Fr [mb, cb] w w' := by
  have cp : w.cell? ⟨pb, 0, none⟩ = some (.pointer (some ⟨mb, 0, none⟩)) := by rw [cell_heap hp]; exact hp0
  have c0 := box_cell h0
  have c1 := box_cell h1
  have sp := lt_of_heap hp
  have s0 := lt_of_heap h0
  have s1 := lt_of_heap h1
  have HM := hid hM
  have Hn : Hid (pb ∉ [mb, cb] ∧ bp ∉ [mb, cb] ∧ b1 ∉ [mb, cb]) := by
    refine ⟨?_, ?_, ?_⟩
    · simp; exact ⟨ne_types hp hM.1 (by decide), ne_types hp hM.2.1 (by decide)⟩
    · simp; exact ⟨ne_types h0 hM.1 (by decide), ne_types h0 hM.2.1 (by decide)⟩
    · simp; exact ⟨ne_types h1 hM.1 (by decide), ne_types h1 hM.2.1 (by decide)⟩
  have Hc : Hid (∀ W, Fr [] w W → Calls Try.prog 190 #[.pointer (some ⟨mb, 0, none⟩), .int .i64 x1] W fun e w' =>
      e = .returned (.tuple #[encV (M.loadM x1).1.1, .int .i64 (M.loadM x1).1.2]) ∧ MemAt w' mb cb ((M.loadM x1).2) ∧ Fr [mb, cb] W w') := fun W hf => (mload_does (hM.fr hf (by simp) (by simp)) x1).mono fun _ _ ⟨h1, h2, h3⟩ => ⟨h1, h2, fr2 h3⟩
  have Hk : Hid (∀ W W', Fr [] w W → Fr [mb, cb] W W' → W'.cell? ⟨bp, 0, none⟩ = some (.pointer (some ⟨pb, 0, none⟩)) ∧ W'.cell? ⟨b1, 0, none⟩ = some (.int .i64 x1) ∧ W'.cell? ⟨pb, 0, none⟩ = some (.pointer (some ⟨mb, 0, none⟩))) := fun W W' hf hf' =>
    ⟨hf'.cellOf (hf.cellOf c0 (by simp)) Hn.out.2.1, hf'.cellOf (hf.cellOf c1 (by simp)) Hn.out.2.2, hf'.cellOf (hf.cellOf cp (by simp)) Hn.out.1⟩
  clear hM h0 h1 hp hp0
  unfold askLoad
  dsimp only
  generalize (M.loadM x1) = r at Hc ⊢
  obtain ⟨⟨bk, er⟩, M'⟩ := r
  dsimp only at Hc ⊢
  have hbv := encV_cases bk
  generalize hbe : encV bk = bv at hbv Hc
  have Hbe := hid hbe
  clear hbe
  rcases hbv with rfl | ⟨t, x, rfl⟩
  all_goals
   go_enter Try.func189, Try.ntmps189
   go_wp2_with fail
   go_region_held3 (fun W => W.cell? ⟨bp, 0, none⟩ = some (.pointer (some ⟨pb, 0, none⟩)) ∧ W.cell? ⟨b1, 0, none⟩ = some (.int .i64 x1) ∧ W.cell? ⟨pb, 0, none⟩ = some (.pointer (some ⟨mb, 0, none⟩))) (go_keep) (first | (go_at_call 190; refine (Hc.out _ (((Fr.refl _ _).alloc _).drew)).mono ?_; rintro e w1 ⟨rfl, hM', hfr⟩; obtain ⟨k0, k1, k2⟩ := Hk.out _ _ (((Fr.refl _ _).alloc _).drew) hfr; obtain ⟨hr4, hs1⟩ := slot_kept HM.out hfr; obtain ⟨r0, r1, r2, r3, fr⟩ := cells4 hr4))
   have Hend := hid (fun u0 u1 u2 u3 => lit_end HM.out hM' hfr u0 u1 u2 u3)
   clear hM' hfr hr4
   go_wp2_with fail
   refine bodyPost_ret (v := .agg #[encV bk, .int .i64 0, .bool false, .int .i64 er]) (by rw [Hbe.out]; simp [results, Try.results189, go_sem, r0, r1, r2, r3]) rfl ⟨rfl, (Hend.out _ _ _ _).1, (Hend.out _ _ _ _).2⟩
theorem cf189 (caps : Array Value) (w : World) : (callFunc 189 caps).run Try.prog w = .ok (.enter 189 caps) w := by kernel_rfl

def askWord (x1 : Int) (M : MemS) : Ans × MemS :=
  let r := (M.wordM x1)
  (⟨none, r.1.1, false, r.1.2⟩, r.2)

set_option maxRecDepth 100000 in
theorem litWord {mb cb pb bp b1 : Nat} {M : MemS} {x1 : Int} {w : World} (hM : MemAt w mb cb M) {pc : Array Value} (hp : w.heap[pb]? = some (.cells pc 158 (0, 0))) (hp0 : pc[0]? = some (.pointer (some ⟨mb, 0, none⟩)))
    (h0 : w.heap[bp]? = some (.cells #[.pointer (some ⟨pb, 0, none⟩)] 33 (0, 0))) (h1 : w.heap[b1]? = some (.cells #[.int .i64 x1] 3 (0, 0))) :
    Calls Try.prog 97 #[.pointer (some ⟨bp, 0, none⟩), .pointer (some ⟨b1, 0, none⟩)] w fun e w' => e = .returned (askWord x1 M).1.val ∧ MemAt w' mb cb (askWord x1 M).2 ∧ Fr [mb, cb] w w' := by
  have cp : w.cell? ⟨pb, 0, none⟩ = some (.pointer (some ⟨mb, 0, none⟩)) := by rw [cell_heap hp]; exact hp0
  have c0 := box_cell h0
  have c1 := box_cell h1
  have sp := lt_of_heap hp
  have s0 := lt_of_heap h0
  have s1 := lt_of_heap h1
  have HM := hid hM
  have Hn : Hid (pb ∉ [mb, cb] ∧ bp ∉ [mb, cb] ∧ b1 ∉ [mb, cb]) := by
    refine ⟨?_, ?_, ?_⟩
    · simp; exact ⟨ne_types hp hM.1 (by decide), ne_types hp hM.2.1 (by decide)⟩
    · simp; exact ⟨ne_types h0 hM.1 (by decide), ne_types h0 hM.2.1 (by decide)⟩
    · simp; exact ⟨ne_types h1 hM.1 (by decide), ne_types h1 hM.2.1 (by decide)⟩
  have Hc : Hid (∀ W, Fr [] w W → Calls Try.prog 25 #[.pointer (some ⟨mb, 0, none⟩), .int .i64 x1] W fun e w' =>
      e = .returned (.tuple #[.int .i64 (M.wordM x1).1.1, .int .i64 (M.wordM x1).1.2]) ∧ MemAt w' mb cb ((M.wordM x1).2) ∧ Fr [mb, cb] W w') := fun W hf => (mword_does (hM.fr hf (by simp) (by simp)) x1).mono fun _ _ ⟨h1, h2, h3⟩ => ⟨h1, h2, fr2 h3⟩
  have Hk : Hid (∀ W W', Fr [] w W → Fr [mb, cb] W W' → W'.cell? ⟨bp, 0, none⟩ = some (.pointer (some ⟨pb, 0, none⟩)) ∧ W'.cell? ⟨b1, 0, none⟩ = some (.int .i64 x1) ∧ W'.cell? ⟨pb, 0, none⟩ = some (.pointer (some ⟨mb, 0, none⟩))) := fun W W' hf hf' =>
    ⟨hf'.cellOf (hf.cellOf c0 (by simp)) Hn.out.2.1, hf'.cellOf (hf.cellOf c1 (by simp)) Hn.out.2.2, hf'.cellOf (hf.cellOf cp (by simp)) Hn.out.1⟩
  clear hM h0 h1 hp hp0
  unfold askWord
  dsimp only
  generalize (M.wordM x1) = r at Hc ⊢
  obtain ⟨⟨n, er⟩, M'⟩ := r
  dsimp only at Hc ⊢
  go_enter Try.func97, Try.ntmps97
  go_wp2_with fail
  go_region_held3 (fun W => W.cell? ⟨bp, 0, none⟩ = some (.pointer (some ⟨pb, 0, none⟩)) ∧ W.cell? ⟨b1, 0, none⟩ = some (.int .i64 x1) ∧ W.cell? ⟨pb, 0, none⟩ = some (.pointer (some ⟨mb, 0, none⟩))) (go_keep) (first | (go_at_call 25; refine (Hc.out _ (((Fr.refl _ _).alloc _).drew)).mono ?_; rintro e w1 ⟨rfl, hM', hfr⟩; obtain ⟨k0, k1, k2⟩ := Hk.out _ _ (((Fr.refl _ _).alloc _).drew) hfr; obtain ⟨hr4, hs1⟩ := slot_kept HM.out hfr; obtain ⟨r0, r1, r2, r3, fr⟩ := cells4 hr4))
  have Hend := hid (fun u0 u1 u2 u3 => lit_end HM.out hM' hfr u0 u1 u2 u3)
  clear hM' hfr hr4
  go_wp2_with fail
  refine bodyPost_ret (by simp [results, Try.results97, go_sem, r0, r1, r2, r3]; rfl) rfl ⟨rfl, (Hend.out _ _ _ _).1, (Hend.out _ _ _ _).2⟩
theorem cf97 (caps : Array Value) (w : World) : (callFunc 97 caps).run Try.prog w = .ok (.enter 97 caps) w := by kernel_rfl

def askStore (x1 : Int) (x2 : Int) (M : MemS) : Ans × MemS :=
  let r := (M.storeOf x1 x2)
  (⟨none, 0, false, r.2⟩, r.1)

set_option maxRecDepth 100000 in
theorem litStore {mb cb pb bp b1 b2 : Nat} {M : MemS} {x1 : Int} {x2 : Int} {w : World} (hM : MemAt w mb cb M) {pc : Array Value} (hp : w.heap[pb]? = some (.cells pc 158 (0, 0))) (hp0 : pc[0]? = some (.pointer (some ⟨mb, 0, none⟩)))
    (h0 : w.heap[bp]? = some (.cells #[.pointer (some ⟨pb, 0, none⟩)] 33 (0, 0))) (h1 : w.heap[b1]? = some (.cells #[.int .i64 x1] 3 (0, 0))) (h2 : w.heap[b2]? = some (.cells #[.int .i64 x2] 3 (0, 0))) :
    Calls Try.prog 178 #[.pointer (some ⟨bp, 0, none⟩), .pointer (some ⟨b1, 0, none⟩), .pointer (some ⟨b2, 0, none⟩)] w fun e w' => e = .returned (askStore x1 x2 M).1.val ∧ MemAt w' mb cb (askStore x1 x2 M).2 ∧ Fr [mb, cb] w w' := by
  have cp : w.cell? ⟨pb, 0, none⟩ = some (.pointer (some ⟨mb, 0, none⟩)) := by rw [cell_heap hp]; exact hp0
  have c0 := box_cell h0
  have c1 := box_cell h1
  have c2 := box_cell h2
  have sp := lt_of_heap hp
  have s0 := lt_of_heap h0
  have s1 := lt_of_heap h1
  have s2 := lt_of_heap h2
  have dbp : ¬ bp = w.heap.size := by omega
  have ebp : ¬ w.heap.size = bp := by omega
  have db1 : ¬ b1 = w.heap.size := by omega
  have eb1 : ¬ w.heap.size = b1 := by omega
  have db2 : ¬ b2 = w.heap.size := by omega
  have eb2 : ¬ w.heap.size = b2 := by omega
  have dpb : ¬ pb = w.heap.size := by omega
  have epb : ¬ w.heap.size = pb := by omega
  have HM := hid hM
  have Hn : Hid (pb ∉ [mb, cb] ∧ bp ∉ [mb, cb] ∧ b1 ∉ [mb, cb] ∧ b2 ∉ [mb, cb]) := by
    refine ⟨?_, ?_, ?_, ?_⟩
    · simp; exact ⟨ne_types hp hM.1 (by decide), ne_types hp hM.2.1 (by decide)⟩
    · simp; exact ⟨ne_types h0 hM.1 (by decide), ne_types h0 hM.2.1 (by decide)⟩
    · simp; exact ⟨ne_types h1 hM.1 (by decide), ne_types h1 hM.2.1 (by decide)⟩
    · simp; exact ⟨ne_types h2 hM.1 (by decide), ne_types h2 hM.2.1 (by decide)⟩
  have Hc : Hid (∀ W, Fr [] w W → Calls Try.prog 179 #[.pointer (some ⟨mb, 0, none⟩), .int .i64 x1, .int .i64 x2] W fun e w' =>
      e = .returned (.int .i64 (M.storeOf x1 x2).2) ∧ MemAt w' mb cb ((M.storeOf x1 x2).1) ∧ Fr [mb, cb] W w') := fun W hf => mstore_does (hM.fr hf (by simp) (by simp)) x1 x2
  have Hk : Hid (∀ W W', Fr [] w W → Fr [mb, cb] W W' → W'.cell? ⟨bp, 0, none⟩ = some (.pointer (some ⟨pb, 0, none⟩)) ∧ W'.cell? ⟨b1, 0, none⟩ = some (.int .i64 x1) ∧ W'.cell? ⟨b2, 0, none⟩ = some (.int .i64 x2) ∧ W'.cell? ⟨pb, 0, none⟩ = some (.pointer (some ⟨mb, 0, none⟩))) := fun W W' hf hf' =>
    ⟨hf'.cellOf (hf.cellOf c0 (by simp)) Hn.out.2.1, hf'.cellOf (hf.cellOf c1 (by simp)) Hn.out.2.2.1, hf'.cellOf (hf.cellOf c2 (by simp)) Hn.out.2.2.2, hf'.cellOf (hf.cellOf cp (by simp)) Hn.out.1⟩
  clear hM h0 h1 h2 hp hp0
  unfold askStore
  dsimp only
  generalize (M.storeOf x1 x2) = r at Hc ⊢
  obtain ⟨M', er⟩ := r
  dsimp only at Hc ⊢
  go_enter Try.func178, Try.ntmps178
  go_wp2_with fail
  go_region_held3 (fun W => W.cell? ⟨bp, 0, none⟩ = some (.pointer (some ⟨pb, 0, none⟩)) ∧ W.cell? ⟨b1, 0, none⟩ = some (.int .i64 x1) ∧ W.cell? ⟨b2, 0, none⟩ = some (.int .i64 x2) ∧ W.cell? ⟨pb, 0, none⟩ = some (.pointer (some ⟨mb, 0, none⟩))) (go_keep) (first | (go_at_call 179; refine (Hc.out _ (((Fr.refl _ _).alloc _).drew)).mono ?_; rintro e w1 ⟨rfl, hM', hfr⟩; obtain ⟨k0, k1, k2, k3⟩ := Hk.out _ _ (((Fr.refl _ _).alloc _).drew) hfr; obtain ⟨hr4, hs1⟩ := slot_kept HM.out hfr; obtain ⟨r0, r1, r2, r3, fr⟩ := cells4 hr4))
  have Hend := hid (fun u0 u1 u2 u3 => lit_end HM.out hM' hfr u0 u1 u2 u3)
  clear hM' hfr hr4
  go_wp2_with fail
  refine bodyPost_ret (by simp [results, Try.results178, go_sem, r0, r1, r2, r3]; rfl) rfl ⟨rfl, (Hend.out _ _ _ _).1, (Hend.out _ _ _ _).2⟩
theorem cf178 (caps : Array Value) (w : World) : (callFunc 178 caps).run Try.prog w = .ok (.enter 178 caps) w := by kernel_rfl

def askSwap (x1 : Int) (x2 : Int) (x3 : Int) (M : MemS) : Ans × MemS :=
  let r := (M.swapOf x1 x2 x3)
  (⟨none, 0, r.2.1, r.2.2⟩, r.1)

set_option maxRecDepth 100000 in
theorem litSwap {mb cb pb bp b1 b2 b3 : Nat} {M : MemS} {x1 : Int} {x2 : Int} {x3 : Int} {w : World} (hM : MemAt w mb cb M) {pc : Array Value} (hp : w.heap[pb]? = some (.cells pc 158 (0, 0))) (hp0 : pc[0]? = some (.pointer (some ⟨mb, 0, none⟩)))
    (h0 : w.heap[bp]? = some (.cells #[.pointer (some ⟨pb, 0, none⟩)] 33 (0, 0))) (h1 : w.heap[b1]? = some (.cells #[.int .i64 x1] 3 (0, 0))) (h2 : w.heap[b2]? = some (.cells #[.int .i64 x2] 3 (0, 0))) (h3 : w.heap[b3]? = some (.cells #[.int .i64 x3] 3 (0, 0))) :
    Calls Try.prog 98 #[.pointer (some ⟨bp, 0, none⟩), .pointer (some ⟨b1, 0, none⟩), .pointer (some ⟨b2, 0, none⟩), .pointer (some ⟨b3, 0, none⟩)] w fun e w' => e = .returned (askSwap x1 x2 x3 M).1.val ∧ MemAt w' mb cb (askSwap x1 x2 x3 M).2 ∧ Fr [mb, cb] w w' := by
  have cp : w.cell? ⟨pb, 0, none⟩ = some (.pointer (some ⟨mb, 0, none⟩)) := by rw [cell_heap hp]; exact hp0
  have c0 := box_cell h0
  have c1 := box_cell h1
  have c2 := box_cell h2
  have c3 := box_cell h3
  have sp := lt_of_heap hp
  have s0 := lt_of_heap h0
  have s1 := lt_of_heap h1
  have s2 := lt_of_heap h2
  have s3 := lt_of_heap h3
  have HM := hid hM
  have Hn : Hid (pb ∉ [mb, cb] ∧ bp ∉ [mb, cb] ∧ b1 ∉ [mb, cb] ∧ b2 ∉ [mb, cb] ∧ b3 ∉ [mb, cb]) := by
    refine ⟨?_, ?_, ?_, ?_, ?_⟩
    · simp; exact ⟨ne_types hp hM.1 (by decide), ne_types hp hM.2.1 (by decide)⟩
    · simp; exact ⟨ne_types h0 hM.1 (by decide), ne_types h0 hM.2.1 (by decide)⟩
    · simp; exact ⟨ne_types h1 hM.1 (by decide), ne_types h1 hM.2.1 (by decide)⟩
    · simp; exact ⟨ne_types h2 hM.1 (by decide), ne_types h2 hM.2.1 (by decide)⟩
    · simp; exact ⟨ne_types h3 hM.1 (by decide), ne_types h3 hM.2.1 (by decide)⟩
  have Hc : Hid (∀ W, Fr [] w W → Calls Try.prog 99 #[.pointer (some ⟨mb, 0, none⟩), .int .i64 x1, .int .i64 x2, .int .i64 x3] W fun e w' =>
      e = .returned (.tuple #[.bool (M.swapOf x1 x2 x3).2.1, .int .i64 (M.swapOf x1 x2 x3).2.2]) ∧ MemAt w' mb cb ((M.swapOf x1 x2 x3).1) ∧ Fr [mb, cb] W w') := fun W hf => mswap_does (hM.fr hf (by simp) (by simp)) x1 x2 x3
  have Hk : Hid (∀ W W', Fr [] w W → Fr [mb, cb] W W' → W'.cell? ⟨bp, 0, none⟩ = some (.pointer (some ⟨pb, 0, none⟩)) ∧ W'.cell? ⟨b1, 0, none⟩ = some (.int .i64 x1) ∧ W'.cell? ⟨b2, 0, none⟩ = some (.int .i64 x2) ∧ W'.cell? ⟨b3, 0, none⟩ = some (.int .i64 x3) ∧ W'.cell? ⟨pb, 0, none⟩ = some (.pointer (some ⟨mb, 0, none⟩))) := fun W W' hf hf' =>
    ⟨hf'.cellOf (hf.cellOf c0 (by simp)) Hn.out.2.1, hf'.cellOf (hf.cellOf c1 (by simp)) Hn.out.2.2.1, hf'.cellOf (hf.cellOf c2 (by simp)) Hn.out.2.2.2.1, hf'.cellOf (hf.cellOf c3 (by simp)) Hn.out.2.2.2.2, hf'.cellOf (hf.cellOf cp (by simp)) Hn.out.1⟩
  clear hM h0 h1 h2 h3 hp hp0
  unfold askSwap
  dsimp only
  generalize (M.swapOf x1 x2 x3) = r at Hc ⊢
  obtain ⟨M', ok, er⟩ := r
  dsimp only at Hc ⊢
  go_enter Try.func98, Try.ntmps98
  go_wp2_with fail
  go_region_held3 (fun W => W.cell? ⟨bp, 0, none⟩ = some (.pointer (some ⟨pb, 0, none⟩)) ∧ W.cell? ⟨b1, 0, none⟩ = some (.int .i64 x1) ∧ W.cell? ⟨b2, 0, none⟩ = some (.int .i64 x2) ∧ W.cell? ⟨b3, 0, none⟩ = some (.int .i64 x3) ∧ W.cell? ⟨pb, 0, none⟩ = some (.pointer (some ⟨mb, 0, none⟩))) (go_keep) (first | (go_at_call 99; refine (Hc.out _ (((Fr.refl _ _).alloc _).drew)).mono ?_; rintro e w1 ⟨rfl, hM', hfr⟩; obtain ⟨k0, k1, k2, k3, k4⟩ := Hk.out _ _ (((Fr.refl _ _).alloc _).drew) hfr; obtain ⟨hr4, hs1⟩ := slot_kept HM.out hfr; obtain ⟨r0, r1, r2, r3, fr⟩ := cells4 hr4))
  have Hend := hid (fun u0 u1 u2 u3 => lit_end HM.out hM' hfr u0 u1 u2 u3)
  clear hM' hfr hr4
  go_wp2_with fail
  refine bodyPost_ret (by simp [results, Try.results98, go_sem, r0, r1, r2, r3]; rfl) rfl ⟨rfl, (Hend.out _ _ _ _).1, (Hend.out _ _ _ _).2⟩
theorem cf98 (caps : Array Value) (w : World) : (callFunc 98 caps).run Try.prog w = .ok (.enter 98 caps) w := by kernel_rfl

def askFree (x1 : Int) (M : MemS) : Ans × MemS :=
  let r := (M.freeOf x1)
  (⟨none, 0, false, r.2⟩, r.1)

set_option maxRecDepth 100000 in
theorem litFree {mb cb pb bp b1 : Nat} {M : MemS} {x1 : Int} {w : World} (hM : MemAt w mb cb M) {pc : Array Value} (hp : w.heap[pb]? = some (.cells pc 158 (0, 0))) (hp0 : pc[0]? = some (.pointer (some ⟨mb, 0, none⟩)))
    (h0 : w.heap[bp]? = some (.cells #[.pointer (some ⟨pb, 0, none⟩)] 33 (0, 0))) (h1 : w.heap[b1]? = some (.cells #[.int .i64 x1] 3 (0, 0))) :
    Calls Try.prog 174 #[.pointer (some ⟨bp, 0, none⟩), .pointer (some ⟨b1, 0, none⟩)] w fun e w' => e = .returned (askFree x1 M).1.val ∧ MemAt w' mb cb (askFree x1 M).2 ∧ Fr [mb, cb] w w' := by
  have cp : w.cell? ⟨pb, 0, none⟩ = some (.pointer (some ⟨mb, 0, none⟩)) := by rw [cell_heap hp]; exact hp0
  have c0 := box_cell h0
  have c1 := box_cell h1
  have sp := lt_of_heap hp
  have s0 := lt_of_heap h0
  have s1 := lt_of_heap h1
  have dbp : ¬ bp = w.heap.size := by omega
  have ebp : ¬ w.heap.size = bp := by omega
  have db1 : ¬ b1 = w.heap.size := by omega
  have eb1 : ¬ w.heap.size = b1 := by omega
  have dpb : ¬ pb = w.heap.size := by omega
  have epb : ¬ w.heap.size = pb := by omega
  have HM := hid hM
  have Hn : Hid (pb ∉ [mb, cb] ∧ bp ∉ [mb, cb] ∧ b1 ∉ [mb, cb]) := by
    refine ⟨?_, ?_, ?_⟩
    · simp; exact ⟨ne_types hp hM.1 (by decide), ne_types hp hM.2.1 (by decide)⟩
    · simp; exact ⟨ne_types h0 hM.1 (by decide), ne_types h0 hM.2.1 (by decide)⟩
    · simp; exact ⟨ne_types h1 hM.1 (by decide), ne_types h1 hM.2.1 (by decide)⟩
  have Hc : Hid (∀ W, Fr [] w W → Calls Try.prog 175 #[.pointer (some ⟨mb, 0, none⟩), .int .i64 x1] W fun e w' =>
      e = .returned (.int .i64 (M.freeOf x1).2) ∧ MemAt w' mb cb ((M.freeOf x1).1) ∧ Fr [mb, cb] W w') := fun W hf => mfree_does (hM.fr hf (by simp) (by simp)) x1
  have Hk : Hid (∀ W W', Fr [] w W → Fr [mb, cb] W W' → W'.cell? ⟨bp, 0, none⟩ = some (.pointer (some ⟨pb, 0, none⟩)) ∧ W'.cell? ⟨b1, 0, none⟩ = some (.int .i64 x1) ∧ W'.cell? ⟨pb, 0, none⟩ = some (.pointer (some ⟨mb, 0, none⟩))) := fun W W' hf hf' =>
    ⟨hf'.cellOf (hf.cellOf c0 (by simp)) Hn.out.2.1, hf'.cellOf (hf.cellOf c1 (by simp)) Hn.out.2.2, hf'.cellOf (hf.cellOf cp (by simp)) Hn.out.1⟩
  clear hM h0 h1 hp hp0
  unfold askFree
  dsimp only
  generalize (M.freeOf x1) = r at Hc ⊢
  obtain ⟨M', er⟩ := r
  dsimp only at Hc ⊢
  go_enter Try.func174, Try.ntmps174
  go_wp2_with fail
  go_region_held3 (fun W => W.cell? ⟨bp, 0, none⟩ = some (.pointer (some ⟨pb, 0, none⟩)) ∧ W.cell? ⟨b1, 0, none⟩ = some (.int .i64 x1) ∧ W.cell? ⟨pb, 0, none⟩ = some (.pointer (some ⟨mb, 0, none⟩))) (go_keep) (first | (go_at_call 175; refine (Hc.out _ (((Fr.refl _ _).alloc _).drew)).mono ?_; rintro e w1 ⟨rfl, hM', hfr⟩; obtain ⟨k0, k1, k2⟩ := Hk.out _ _ (((Fr.refl _ _).alloc _).drew) hfr; obtain ⟨hr4, hs1⟩ := slot_kept HM.out hfr; obtain ⟨r0, r1, r2, r3, fr⟩ := cells4 hr4))
  have Hend := hid (fun u0 u1 u2 u3 => lit_end HM.out hM' hfr u0 u1 u2 u3)
  clear hM' hfr hr4
  go_wp2_with fail
  refine bodyPost_ret (by simp [results, Try.results174, go_sem, r0, r1, r2, r3]; rfl) rfl ⟨rfl, (Hend.out _ _ _ _).1, (Hend.out _ _ _ _).2⟩
theorem cf174 (caps : Array Value) (w : World) : (callFunc 174 caps).run Try.prog w = .ok (.enter 174 caps) w := by kernel_rfl

def askRetire (x1 : Int) (x2 : Int) (M : MemS) : Ans × MemS :=
  let r := (M.retireOf x1 x2)
  (⟨none, 0, false, r.2⟩, r.1)

set_option maxRecDepth 100000 in
theorem litRetire {mb cb pb bp b1 b2 : Nat} {M : MemS} {x1 : Int} {x2 : Int} {w : World} (hM : MemAt w mb cb M) {pc : Array Value} (hp : w.heap[pb]? = some (.cells pc 158 (0, 0))) (hp0 : pc[0]? = some (.pointer (some ⟨mb, 0, none⟩)))
    (h0 : w.heap[bp]? = some (.cells #[.pointer (some ⟨pb, 0, none⟩)] 33 (0, 0))) (h1 : w.heap[b1]? = some (.cells #[.int .i64 x1] 3 (0, 0))) (h2 : w.heap[b2]? = some (.cells #[.int .i64 x2] 3 (0, 0))) :
    Calls Try.prog 184 #[.pointer (some ⟨bp, 0, none⟩), .pointer (some ⟨b1, 0, none⟩), .pointer (some ⟨b2, 0, none⟩)] w fun e w' => e = .returned (askRetire x1 x2 M).1.val ∧ MemAt w' mb cb (askRetire x1 x2 M).2 ∧ Fr [mb, cb] w w' := by
  have cp : w.cell? ⟨pb, 0, none⟩ = some (.pointer (some ⟨mb, 0, none⟩)) := by rw [cell_heap hp]; exact hp0
  have c0 := box_cell h0
  have c1 := box_cell h1
  have c2 := box_cell h2
  have sp := lt_of_heap hp
  have s0 := lt_of_heap h0
  have s1 := lt_of_heap h1
  have s2 := lt_of_heap h2
  have dbp : ¬ bp = w.heap.size := by omega
  have ebp : ¬ w.heap.size = bp := by omega
  have db1 : ¬ b1 = w.heap.size := by omega
  have eb1 : ¬ w.heap.size = b1 := by omega
  have db2 : ¬ b2 = w.heap.size := by omega
  have eb2 : ¬ w.heap.size = b2 := by omega
  have dpb : ¬ pb = w.heap.size := by omega
  have epb : ¬ w.heap.size = pb := by omega
  have HM := hid hM
  have Hn : Hid (pb ∉ [mb, cb] ∧ bp ∉ [mb, cb] ∧ b1 ∉ [mb, cb] ∧ b2 ∉ [mb, cb]) := by
    refine ⟨?_, ?_, ?_, ?_⟩
    · simp; exact ⟨ne_types hp hM.1 (by decide), ne_types hp hM.2.1 (by decide)⟩
    · simp; exact ⟨ne_types h0 hM.1 (by decide), ne_types h0 hM.2.1 (by decide)⟩
    · simp; exact ⟨ne_types h1 hM.1 (by decide), ne_types h1 hM.2.1 (by decide)⟩
    · simp; exact ⟨ne_types h2 hM.1 (by decide), ne_types h2 hM.2.1 (by decide)⟩
  have Hc : Hid (∀ W, Fr [] w W → Calls Try.prog 185 #[.pointer (some ⟨mb, 0, none⟩), .int .i64 x1, .int .i64 x2] W fun e w' =>
      e = .returned (.int .i64 (M.retireOf x1 x2).2) ∧ MemAt w' mb cb ((M.retireOf x1 x2).1) ∧ Fr [mb, cb] W w') := fun W hf => mretire_does (hM.fr hf (by simp) (by simp)) x1 x2
  have Hk : Hid (∀ W W', Fr [] w W → Fr [mb, cb] W W' → W'.cell? ⟨bp, 0, none⟩ = some (.pointer (some ⟨pb, 0, none⟩)) ∧ W'.cell? ⟨b1, 0, none⟩ = some (.int .i64 x1) ∧ W'.cell? ⟨b2, 0, none⟩ = some (.int .i64 x2) ∧ W'.cell? ⟨pb, 0, none⟩ = some (.pointer (some ⟨mb, 0, none⟩))) := fun W W' hf hf' =>
    ⟨hf'.cellOf (hf.cellOf c0 (by simp)) Hn.out.2.1, hf'.cellOf (hf.cellOf c1 (by simp)) Hn.out.2.2.1, hf'.cellOf (hf.cellOf c2 (by simp)) Hn.out.2.2.2, hf'.cellOf (hf.cellOf cp (by simp)) Hn.out.1⟩
  clear hM h0 h1 h2 hp hp0
  unfold askRetire
  dsimp only
  generalize (M.retireOf x1 x2) = r at Hc ⊢
  obtain ⟨M', er⟩ := r
  dsimp only at Hc ⊢
  go_enter Try.func184, Try.ntmps184
  go_wp2_with fail
  go_region_held3 (fun W => W.cell? ⟨bp, 0, none⟩ = some (.pointer (some ⟨pb, 0, none⟩)) ∧ W.cell? ⟨b1, 0, none⟩ = some (.int .i64 x1) ∧ W.cell? ⟨b2, 0, none⟩ = some (.int .i64 x2) ∧ W.cell? ⟨pb, 0, none⟩ = some (.pointer (some ⟨mb, 0, none⟩))) (go_keep) (first | (go_at_call 185; refine (Hc.out _ (((Fr.refl _ _).alloc _).drew)).mono ?_; rintro e w1 ⟨rfl, hM', hfr⟩; obtain ⟨k0, k1, k2, k3⟩ := Hk.out _ _ (((Fr.refl _ _).alloc _).drew) hfr; obtain ⟨hr4, hs1⟩ := slot_kept HM.out hfr; obtain ⟨r0, r1, r2, r3, fr⟩ := cells4 hr4))
  have Hend := hid (fun u0 u1 u2 u3 => lit_end HM.out hM' hfr u0 u1 u2 u3)
  clear hM' hfr hr4
  go_wp2_with fail
  refine bodyPost_ret (by simp [results, Try.results184, go_sem, r0, r1, r2, r3]; rfl) rfl ⟨rfl, (Hend.out _ _ _ _).1, (Hend.out _ _ _ _).2⟩
theorem cf184 (caps : Array Value) (w : World) : (callFunc 184 caps).run Try.prog w = .ok (.enter 184 caps) w := by kernel_rfl

def askReap (x1 : Int) (x2 : Int) (M : MemS) : Ans × MemS :=
  let r := (M.reapOf x1 x2)
  (⟨none, 0, r.2.1, r.2.2⟩, r.1)

set_option maxRecDepth 100000 in
theorem litReap {mb cb pb bp b1 b2 : Nat} {M : MemS} {x1 : Int} {x2 : Int} {w : World} (hM : MemAt w mb cb M) {pc : Array Value} (hp : w.heap[pb]? = some (.cells pc 158 (0, 0))) (hp0 : pc[0]? = some (.pointer (some ⟨mb, 0, none⟩)))
    (h0 : w.heap[bp]? = some (.cells #[.pointer (some ⟨pb, 0, none⟩)] 33 (0, 0))) (h1 : w.heap[b1]? = some (.cells #[.int .i64 x1] 3 (0, 0))) (h2 : w.heap[b2]? = some (.cells #[.int .i64 x2] 3 (0, 0))) :
    Calls Try.prog 186 #[.pointer (some ⟨bp, 0, none⟩), .pointer (some ⟨b1, 0, none⟩), .pointer (some ⟨b2, 0, none⟩)] w fun e w' => e = .returned (askReap x1 x2 M).1.val ∧ MemAt w' mb cb (askReap x1 x2 M).2 ∧ Fr [mb, cb] w w' := by
  have cp : w.cell? ⟨pb, 0, none⟩ = some (.pointer (some ⟨mb, 0, none⟩)) := by rw [cell_heap hp]; exact hp0
  have c0 := box_cell h0
  have c1 := box_cell h1
  have c2 := box_cell h2
  have sp := lt_of_heap hp
  have s0 := lt_of_heap h0
  have s1 := lt_of_heap h1
  have s2 := lt_of_heap h2
  have HM := hid hM
  have Hn : Hid (pb ∉ [mb, cb] ∧ bp ∉ [mb, cb] ∧ b1 ∉ [mb, cb] ∧ b2 ∉ [mb, cb]) := by
    refine ⟨?_, ?_, ?_, ?_⟩
    · simp; exact ⟨ne_types hp hM.1 (by decide), ne_types hp hM.2.1 (by decide)⟩
    · simp; exact ⟨ne_types h0 hM.1 (by decide), ne_types h0 hM.2.1 (by decide)⟩
    · simp; exact ⟨ne_types h1 hM.1 (by decide), ne_types h1 hM.2.1 (by decide)⟩
    · simp; exact ⟨ne_types h2 hM.1 (by decide), ne_types h2 hM.2.1 (by decide)⟩
  have Hc : Hid (∀ W, Fr [] w W → Calls Try.prog 187 #[.pointer (some ⟨mb, 0, none⟩), .int .i64 x1, .int .i64 x2] W fun e w' =>
      e = .returned (.tuple #[.bool (M.reapOf x1 x2).2.1, .int .i64 (M.reapOf x1 x2).2.2]) ∧ MemAt w' mb cb ((M.reapOf x1 x2).1) ∧ Fr [mb, cb] W w') := fun W hf => mreap_does (hM.fr hf (by simp) (by simp)) x1 x2
  have Hk : Hid (∀ W W', Fr [] w W → Fr [mb, cb] W W' → W'.cell? ⟨bp, 0, none⟩ = some (.pointer (some ⟨pb, 0, none⟩)) ∧ W'.cell? ⟨b1, 0, none⟩ = some (.int .i64 x1) ∧ W'.cell? ⟨b2, 0, none⟩ = some (.int .i64 x2) ∧ W'.cell? ⟨pb, 0, none⟩ = some (.pointer (some ⟨mb, 0, none⟩))) := fun W W' hf hf' =>
    ⟨hf'.cellOf (hf.cellOf c0 (by simp)) Hn.out.2.1, hf'.cellOf (hf.cellOf c1 (by simp)) Hn.out.2.2.1, hf'.cellOf (hf.cellOf c2 (by simp)) Hn.out.2.2.2, hf'.cellOf (hf.cellOf cp (by simp)) Hn.out.1⟩
  clear hM h0 h1 h2 hp hp0
  unfold askReap
  dsimp only
  generalize (M.reapOf x1 x2) = r at Hc ⊢
  obtain ⟨M', ok, er⟩ := r
  dsimp only at Hc ⊢
  go_enter Try.func186, Try.ntmps186
  go_wp2_with fail
  go_region_held3 (fun W => W.cell? ⟨bp, 0, none⟩ = some (.pointer (some ⟨pb, 0, none⟩)) ∧ W.cell? ⟨b1, 0, none⟩ = some (.int .i64 x1) ∧ W.cell? ⟨b2, 0, none⟩ = some (.int .i64 x2) ∧ W.cell? ⟨pb, 0, none⟩ = some (.pointer (some ⟨mb, 0, none⟩))) (go_keep) (first | (go_at_call 187; refine (Hc.out _ (((Fr.refl _ _).alloc _).drew)).mono ?_; rintro e w1 ⟨rfl, hM', hfr⟩; obtain ⟨k0, k1, k2, k3⟩ := Hk.out _ _ (((Fr.refl _ _).alloc _).drew) hfr; obtain ⟨hr4, hs1⟩ := slot_kept HM.out hfr; obtain ⟨r0, r1, r2, r3, fr⟩ := cells4 hr4))
  have Hend := hid (fun u0 u1 u2 u3 => lit_end HM.out hM' hfr u0 u1 u2 u3)
  clear hM' hfr hr4
  go_wp2_with fail
  refine bodyPost_ret (by simp [results, Try.results186, go_sem, r0, r1, r2, r3]; rfl) rfl ⟨rfl, (Hend.out _ _ _ _).1, (Hend.out _ _ _ _).2⟩
theorem cf186 (caps : Array Value) (w : World) : (callFunc 186 caps).run Try.prog w = .ok (.enter 186 caps) w := by kernel_rfl
end Go.Proofs.Ytngdmkgbldgmiaa
