/-
  What (*Port).ask does: an answer that is in the log is told again; else it stops, or asks.
-/
import Derived.Test.YtngdmkgbldgmiaaB0
import Derived.Deep.RegionHeld3
import Derived.Deep.RegionLaw
import Derived.Deep.AppendLies
import Derived.RegionTactic
namespace Go.Proofs.Ytngdmkgbldgmiaa
open Go.RowKit

theorem getElem?_lt {α : Type} {l : List α} {i : Nat} {a : α} (h : l[i]? = some a) : i < l.length := by
  rcases Nat.lt_or_ge i l.length with h' | h'
  · exact h'
  · rw [List.getElem?_eq_none h'] at h; simp at h

def St.setPos (S : St) (n : Nat) : St := { S with P := { S.P with pos := n } }

set_option maxHeartbeats 800000 in
theorem ask_replay {C : Ctx} {lv : Value} {S : St} {w : World} (hR : Rep w C lv S) (f : Value) (a : Ans) (ha : S.P.log[S.P.pos]? = some a) :
    Calls Try.prog 96 #[.pointer (some ⟨C.pb, 0, none⟩), f] w fun e w' => e = .returned a.val ∧ Moves C w lv w' lv (S.setPos (S.P.pos + 1)) := by
  have HR := hid hR
  obtain ⟨hM, hP⟩ := hR
  obtain ⟨p0, p1, p2, p3, p4, fp⟩ := hP.facts
  obtain ⟨g, cap, cur, hlv, hg, l0, l1, l2, l3⟩ := log_get hP ha
  have hlt := getElem?_lt ha
  have hmb := lt_of_heap hM.1
  have hcb := lt_of_heap hM.2.1
  obtain ⟨hp, hown, hb, hle, _⟩ := hP
  have hsz := lt_of_heap hp
  have hgs := lt_of_heap hg
  have hgp : ¬ g = C.pb := fun e => ne_types hg hp (by decide) e
  have hpg : ¬ C.pb = g := fun e => hgp e.symm
  have hfin : ∀ (o : Obj) (n : Nat) (u0 u1 u2 u3 : Value), Moves C w lv
      ((((((((w.alloc o).drewN n).setCell ⟨C.pb, 2, none⟩ (.int .i64 (S.P.pos + 1 : Nat))).setCell ⟨w.heap.size, 0, none⟩ u0).setCell ⟨w.heap.size, 1, none⟩ u1).setCell ⟨w.heap.size, 2, none⟩ u2).setCell ⟨w.heap.size, 3, none⟩ u3).drew) lv (S.setPos (S.P.pos + 1)) := by
    intro o n u0 u1 u2 u3
    have h1 : Rep ((w.alloc o).drewN n) C lv S := HR.out.fr (((Fr.refl _ _).alloc o).drewN n)
    have h2 : Moves C ((w.alloc o).drewN n) lv (((w.alloc o).drewN n).setCell ⟨C.pb, 2, none⟩ (.int .i64 (S.P.pos + 1 : Nat))) lv (S.setPos (S.P.pos + 1)) :=
      ⟨⟨h1.1.fr ((Fr.refl [C.pb] _).setCell _ _ (.inl (by simp))) (by simp; exact ne_types hM.1 hp (by decide)) (by simp; exact ne_types hM.2.1 hp (by decide)), h1.2.setPos _ hlt⟩, (Fr.refl _ _).setCell _ _ (.inl (by simp)), fun _ hg => .inl hg⟩
    refine (h2.pre (((Fr.refl _ _).alloc o).drewN n)).post (T := [w.heap.size]) (((((Fr.refl _ _).setCell _ _ (.inl (by simp))).setCell _ _ (.inl (by simp))).setCell _ _ (.inl (by simp))).setCell _ _ (.inl (by simp))).drew ?_
    intro x hx
    simp only [List.mem_singleton] at hx
    subst hx
    exact ⟨Nat.le_refl _, by omega, by omega, by omega, fun hm => by have := lvb_lt HR.out.2 hm; omega⟩
  have hn : S.P.log.length ≤ 1000000 := by omega
  have Hfin := hid hfin
  clear hfin hM hp hown hb hle ha
  subst hlv
  generalize S.P.log.length = n at *
  have hbv := encV_cases a.b
  have hval : a.val = .agg #[encV a.b, .int .i64 a.n, .bool a.ok, .int .i64 a.e] := rfl
  rw [hval]
  clear hval
  generalize encV a.b = bv at hbv l0 ⊢
  generalize hk : S.P.pos = k at *
  have Hk := hid hk
  clear hk
  generalize hpb : C.pb = pb at *
  have Hpb := hid hpb
  clear hpb
  rcases hbv with rfl | ⟨t, x, rfl⟩
  all_goals
    go_enter Try.func96, Try.ntmps96
    go_wp2_with fail
    go_quiet (fail)
    go_wp2_with fail
    go_region
    go_wp2_with fail
    refine bodyPost_ret (by simp [results, Try.results96, go_sem]) rfl ⟨rfl, ?_⟩
    exact Hfin.out _ _ _ _ _ _

def pz : List PanicEntry := [{ v := .iface 222 (.agg #[]), recovered := false }]

set_option maxRecDepth 100000 in
set_option maxHeartbeats 800000 in
theorem ask_pause {C : Ctx} {lv : Value} {S : St} {w : World} (hR : Rep w C lv S) (f : Value) (ha : S.P.pos = S.P.log.length) (hl : S.P.left = 0) :
    Calls Try.prog 96 #[.pointer (some ⟨C.pb, 0, none⟩), f] w fun e w' => e = .panicked pz ∧ Moves C w lv w' lv S := by
  have HR := hid hR
  obtain ⟨hM, hP⟩ := hR
  obtain ⟨p0, p1, p2, p3, p4, fp⟩ := hP.facts
  obtain ⟨ao, cap, hlv⟩ := lv_len hP
  have hsz := lt_of_heap hP.1
  clear hM hP
  have Hlv := hid hlv
  rw [ha] at p2
  rw [hl] at p3
  rw [hlv] at p1
  clear ha hl hlv
  generalize S.P.log.length = n at *
  go_enter Try.func96, Try.ntmps96
  go_wp2_with fail
  go_quiet (fail)
  go_wp2_with fail
  exact ⟨rfl, rfl, Moves.of_fr HR.out (((Fr.refl _ _).alloc _).drewN _)⟩

theorem Fr.of_grown {w w' : World} {v : Value} (h : w.grownBy w' v.ownBlock) : Fr (lvb v) w w' :=
  ⟨h.os, h.tape, h.output, h.size, fun k hk hn => h.block k hk (fun e => hn (by simp [lvb, ← e]))⟩

theorem info162 : (Try.prog.info? 162).map (fun i => (i.zero, i.size, i.bytes)) = some (some (.agg #[.nilIface, .int .i64 0, .bool false, .int .i64 0]), 4, 40) := by kernel_rfl

/-- The state behind a new answer. -/
def St.told (S : St) (a : Ans) (M' : MemS) : St :=
  if 0 < S.P.left then ⟨M', { S.P with log := S.P.log ++ [a], pos := S.P.pos + 1, left := S.P.left - 1 }⟩ else ⟨M', S.P⟩

theorem ask_fin {C : Ctx} {lv : Value} {S : St} {w w0 w1 X w3 : World} (hR : Rep w C lv S) (ha : S.P.pos = S.P.log.length) (hl : S.P.left = 1) {a : Ans} {M' : MemS}
    (h0 : Fr [] w w0) (hs0 : w0.heap.size = w.heap.size + 1) (h1 : Fr [C.mb, C.cb] w0 w1) (hM1 : MemAt w1 C.mb C.cb M')
    (hX : Fr [C.pb] w1 X) (hXs : X.heap.size = w1.heap.size + 2) (hXp : X.heap[C.pb]? = some (.cells #[.pointer (some ⟨C.mb, 0, none⟩), lv, .int .i64 S.P.pos, .int .i64 0, .int .i64 S.P.note] 158 (0, 0)))
    (h3 : Fr (lvb lv) X w3) {g cap : Nat} (hown : w3.ownsRow 0 162 4 (.slice (some ⟨g, 0, none⟩) (S.P.log.length + 1) cap) (S.P.log.length + 1) (S.P.log.flatMap Ans.row ++ a.row))
    (hat : lv.ownBlock = some g ∨ g = w1.heap.size + 2) (hlt : g < w3.heap.size) (u0 u1 u2 u3 : Value) :
    Moves C w lv ((((((w3.setCell ⟨C.pb, 1, none⟩ (.slice (some ⟨g, 0, none⟩) (S.P.log.length + 1) cap)).setCell ⟨C.pb, 2, none⟩ (.int .i64 (S.P.log.length + 1 : Nat))).setCell ⟨w.heap.size, 0, none⟩ u0).setCell ⟨w.heap.size, 1, none⟩ u1).setCell ⟨w.heap.size, 2, none⟩ u2).setCell ⟨w.heap.size, 3, none⟩ u3)
      (.slice (some ⟨g, 0, none⟩) (S.P.log.length + 1) cap) (S.told a M') := by
  obtain ⟨hM, hP⟩ := hR
  have hst : S.told a M' = ⟨M', { S.P with log := S.P.log ++ [a], pos := S.P.log.length + 1, left := 0 }⟩ := by
    unfold St.told; rw [if_pos (by omega), ha, hl]; rfl
  rw [hst]
  have hmp := ne_types hM.1 hP.1 (by decide)
  have hcp := ne_types hM.2.1 hP.1 (by decide)
  have hml := fun g (hg : g ∈ lvb lv) => let ⟨_, h⟩ := lvb_heap hP hg; ne_types hM.1 h (by decide)
  have hcl := fun g (hg : g ∈ lvb lv) => let ⟨_, h⟩ := lvb_heap hP hg; ne_types hM.2.1 h (by decide)
  have hpl := lvb_ne hP
  have hmb := lt_of_heap hM.1
  have hcb := lt_of_heap hM.2.1
  have hpb := lt_of_heap hP.1
  have hs1 := h1.size
  have hg1 : g ≠ C.pb := by
    rintro rfl
    rcases hat with h | h
    · exact hpl (by simp [lvb, h])
    · omega
  have hg2 : g ≠ w.heap.size := by
    rcases hat with h | h
    · have := lvb_lt hP (g := g) (by simp [lvb, h]); omega
    · omega
  have fin : Fr [C.pb, w.heap.size] w3 ((((((w3.setCell ⟨C.pb, 1, none⟩ (.slice (some ⟨g, 0, none⟩) (S.P.log.length + 1) cap)).setCell ⟨C.pb, 2, none⟩ (.int .i64 (S.P.log.length + 1 : Nat))).setCell ⟨w.heap.size, 0, none⟩ u0).setCell ⟨w.heap.size, 1, none⟩ u1).setCell ⟨w.heap.size, 2, none⟩ u2).setCell ⟨w.heap.size, 3, none⟩ u3) :=
    ((((((Fr.refl _ _).setCell _ _ (.inl (by simp))).setCell _ _ (.inl (by simp))).setCell _ _ (.inl (by simp))).setCell _ _ (.inl (by simp))).setCell _ _ (.inl (by simp))).setCell _ _ (.inl (by simp))
  have hM3 : MemAt w3 C.mb C.cb M' := (hM1.fr hX (by simpa using hmp) (by simpa using hcp)).fr h3 (fun hm => hml _ hm rfl) (fun hm => hcl _ hm rfl)
  have hp3 := h3.keep hXp hpl
  refine ⟨⟨hM3.fr fin (by simp; omega) (by simp; omega), ?_, ?_, ?_, ?_, by simp, by simp⟩, ?_, ?_⟩
  · have hk : C.pb ≠ w.heap.size := by omega
    rw [heap_set_ne hk, heap_set_ne hk, heap_set_ne hk, heap_set_ne hk, heap_set (heap_set hp3 _)]
    simp
  · have : (S.P.log ++ [a]).flatMap Ans.row = S.P.log.flatMap Ans.row ++ a.row := by simp
    rw [this]
    simp only [List.length_append, List.length_singleton]
    refine ownsRow_fr hown fin ?_
    intro x hx
    simp [lvb, Value.ownBlock] at hx
    subst hx
    simp [hg1, hg2]
  · have := hP.2.2.1; simp; omega
  · simp
  · have a1 : Fr (C.mb :: C.cb :: C.pb :: lvb lv) w w1 := (h0.mono (fun x hx => by simp at hx)).trans h1 (fun x hx => by simp at hx; rcases hx with rfl | rfl <;> simp)
    have a2 : Fr (C.mb :: C.cb :: C.pb :: lvb lv) w X := a1.trans hX (fun x hx => by simp at hx; subst hx; simp)
    have a3 : Fr (C.mb :: C.cb :: C.pb :: lvb lv) w w3 := a2.trans h3 (fun x hx => .inl (by simp [hx]))
    exact a3.trans fin (fun x hx => by
      simp at hx
      rcases hx with rfl | rfl
      · exact .inl (by simp)
      · exact .inr (Nat.le_refl _))
  · intro x hx
    simp [lvb, Value.ownBlock] at hx
    subst hx
    rcases hat with h | h
    · exact .inl (by simp [lvb, h])
    · exact .inr (by omega)

theorem cells4 {w : World} {b : Nat} {x0 x1 x2 x3 : Value} {T : TypeId} (h : w.heap[b]? = some (.cells #[x0, x1, x2, x3] T (0, 0))) :
    w.cell? ⟨b, 0, none⟩ = some x0 ∧ w.cell? ⟨b, 1, none⟩ = some x1 ∧ w.cell? ⟨b, 2, none⟩ = some x2 ∧ w.cell? ⟨b, 3, none⟩ = some x3 ∧ (∀ o, w.frozen? ⟨b, o, none⟩ = false) :=
  ⟨by rw [cell_heap h]; rfl, by rw [cell_heap h]; rfl, by rw [cell_heap h]; rfl, by rw [cell_heap h]; rfl, fun o => frozen_heap h⟩
theorem cells5 {w : World} {b : Nat} {x0 x1 x2 x3 x4 : Value} {T : TypeId} (h : w.heap[b]? = some (.cells #[x0, x1, x2, x3, x4] T (0, 0))) :
    w.cell? ⟨b, 0, none⟩ = some x0 ∧ w.cell? ⟨b, 1, none⟩ = some x1 ∧ w.cell? ⟨b, 2, none⟩ = some x2 ∧ w.cell? ⟨b, 3, none⟩ = some x3 ∧ w.cell? ⟨b, 4, none⟩ = some x4 ∧ (∀ o, w.frozen? ⟨b, o, none⟩ = false) :=
  ⟨by rw [cell_heap h]; rfl, by rw [cell_heap h]; rfl, by rw [cell_heap h]; rfl, by rw [cell_heap h]; rfl, by rw [cell_heap h]; rfl, fun o => frozen_heap h⟩

set_option maxRecDepth 100000 in
set_option maxHeartbeats 1600000 in
theorem ask_step {C : Ctx} {lv : Value} {S : St} {w : World} (hR : Rep w C lv S) (fid : Nat) (caps : Array Value) (ha : S.P.pos = S.P.log.length) (hl : S.P.left = 1)
    (a : Ans) (M' : MemS) (hcf : ∀ W, (callFunc fid caps).run Try.prog W = .ok (.enter fid caps) W) (hdo : ∀ W, Fr [] w W → Calls Try.prog fid caps W fun e W' => e = .returned a.val ∧ MemAt W' C.mb C.cb M' ∧ Fr [C.mb, C.cb] W W') :
    Calls Try.prog 96 #[.pointer (some ⟨C.pb, 0, none⟩), .func (.func fid) #[] caps] w fun e w' => e = .returned a.val ∧ ∃ lv', Moves C w lv w' lv' (S.told a M') := by
  have HR := hid hR
  obtain ⟨hM, hP⟩ := hR
  obtain ⟨p0, p1, p2, p3, p4, fp⟩ := hP.facts
  obtain ⟨ao, cap, hlv⟩ := lv_len hP
  have hsz := lt_of_heap hP.1
  have hn : S.P.log.length ≤ 1000000 := by have := hP.2.2.1; omega
  have hmp := ne_types hM.1 hP.1 (by decide)
  have hcp := ne_types hM.2.1 hP.1 (by decide)
  have Hmp := hid hmp
  have Hcp := hid hcp
  have Hml : Hid (∀ g ∈ lvb lv, g ∉ [C.mb, C.cb]) := fun g hg => by
    obtain ⟨_, h⟩ := lvb_heap hP hg
    have h1 := ne_types hM.1 h (by decide)
    have h2 := ne_types hM.2.1 h (by decide)
    simp; omega
  have hmb := lt_of_heap hM.1
  have hcb := lt_of_heap hM.2.1
  have Hpl : Hid (C.pb ∉ lvb lv) := lvb_ne hP
  have Hlt : Hid (∀ g ∈ lvb lv, g < w.heap.size) := fun g hg => lvb_lt hP hg
  have HP := hid hP
  have HM := hid hM
  clear hM hP hmp hcp
  have Hlv := hid hlv
  have Ha := hid ha
  have Hl := hid hl
  rw [ha] at p2
  rw [hl] at p3
  rw [hlv] at p1
  clear ha hl hlv
  obtain ⟨n, hnn⟩ : ∃ n, n = S.P.log.length := ⟨_, rfl⟩
  have Hnn := hid hnn
  rw [← hnn] at p1 p2 hn Hlv
  clear hnn
  obtain ⟨i0, hi0, hz0, hz1, hz2⟩ := info_parts info162
  have Hdo := hid hdo
  clear hdo
  have hval : a.val = .agg #[encV a.b, .int .i64 a.n, .bool a.ok, .int .i64 a.e] := rfl
  have hrow : a.row = [encV a.b, .int .i64 a.n, .bool a.ok, .int .i64 a.e] := rfl
  have Hrow := hid hrow
  rw [hval] at Hdo ⊢
  clear hval hrow
  have hbv := encV_cases a.b
  generalize encV a.b = bv at hbv Hdo Hrow ⊢
  rcases hbv with rfl | ⟨t, x, rfl⟩
  all_goals
    go_enter Try.func96, Try.ntmps96
    go_wp2_with fail
    go_quiet (fail)
    go_wp2_with fail
    refine (Hdo.out _ (((Fr.refl _ _).alloc _).drewN _)).mono ?_
    rintro e w1 ⟨rfl, hM1, hfr1⟩
    have HM1 := hid hM1
    have hfr0 : Fr [] w ((w.alloc (.cells #[.nilIface, .int .i64 0, .bool false, .int .i64 0] 162)).drewN nq) := ((Fr.refl _ _).alloc _).drewN _
    have hp1 := (HP.out.fr hfr0 (by simp) (by simp)).fr hfr1 (by simp; exact ⟨Ne.symm Hmp.out, Ne.symm Hcp.out⟩) Hml.out
    have HP1 := hid hp1
    have hr4 := hfr1.keep (k := w.heap.size) (heap_new w (.cells #[.nilIface, .int .i64 0, .bool false, .int .i64 0] 162)) (by simp; omega)
    have hs1 : w.heap.size < w1.heap.size := by have := hfr1.size; simp at this; omega
    have hs2 : C.pb < w1.heap.size := by omega
    have Hfr := hid hfr1
    have Hr4 := hid hr4
    obtain ⟨q0, q1, q2, q3, q4, fq⟩ := hp1.facts
    rw [Hlv.out] at q1
    rw [Ha.out, ← Hnn.out] at q2
    rw [Hl.out] at q3
    obtain ⟨r0, r1, r2, r3, fr⟩ := cells4 hr4
    have Hpx : Hid (∀ o1 o2, (((w1.setCell ⟨C.pb, 3, none⟩ (.int .i64 0)).alloc o1).alloc o2).heap[C.pb]? = some (.cells #[.pointer (some ⟨C.mb, 0, none⟩), lv, .int .i64 S.P.pos, .int .i64 0, .int .i64 S.P.note] 158 (0, 0))) := fun o1 o2 =>
      heap_old _ (heap_old _ (heap_set hp1.1 _))
    have Hown : Hid (∀ o1 o2, (((w1.setCell ⟨C.pb, 3, none⟩ (.int .i64 0)).alloc o1).alloc o2).ownsRow 0 162 4 lv S.P.log.length (S.P.log.flatMap Ans.row)) := fun o1 o2 =>
      ((ownsRow_set hp1.2.1 Hpl.out).alloc o1).alloc o2
    have Hnew : Hid (∀ o1 cs, (((w1.setCell ⟨C.pb, 3, none⟩ (.int .i64 0)).alloc o1).alloc (.cells cs 162)).heap[w1.heap.size + 1]? = some (.cells cs 162 (0, 0))) := fun o1 cs => by
      have := heap_new ((w1.setCell ⟨C.pb, 3, none⟩ (.int .i64 0)).alloc o1) (.cells cs 162)
      rwa [World.size_alloc, World.size_setCell] at this
    have Hw4 : Hid (∀ o1 o2, (((w1.setCell ⟨C.pb, 3, none⟩ (.int .i64 0)).alloc o1).alloc o2).heap[w.heap.size]? = some (.cells #[.nilIface, .int .i64 0, .bool false, .int .i64 0] 162 (0, 0))) := fun o1 o2 =>
      heap_old _ (heap_old _ (by rw [heap_set_ne (by omega)]; exact hr4))
    have Hw5 : Hid (∀ cs o2, (((w1.setCell ⟨C.pb, 3, none⟩ (.int .i64 0)).alloc (.cells cs 162)).alloc o2).heap[w1.heap.size]? = some (.cells cs 162 (0, 0))) := fun cs o2 => by
      have := heap_old o2 (heap_new (w1.setCell ⟨C.pb, 3, none⟩ (.int .i64 0)) (.cells cs 162))
      rwa [World.size_setCell] at this
    have HX : Hid (∀ o1 o2, Fr [C.pb] w1 ((((w1.setCell ⟨C.pb, 3, none⟩ (.int .i64 0)).alloc o1).alloc o2).drew)) := fun o1 o2 =>
      ((((Fr.refl _ _).setCell _ _ (.inl (by simp))).alloc _).alloc _).drew
    clear hfr1 hfr0 hM1 hp1 hr4 p0 p1 p2 p3 p4 fp
    rw [Hlv.out, ← Hnn.out] at Hown
    go_wp2_with fail
    go_region_law (refine step_append_lies _ rfl (.tmp 59) (.tmp 61) 156 rfl 0 162 i0 _ 4 40 Try.underlying156 hi0 hz0 hz1 hz2 rfl (by decide) (.slice ao n cap) n (S.P.log.flatMap Ans.row) (by simp [Act.eval, Act.put]) (by exact Hown.out _ _) ⟨w1.heap.size + 1, 0, none⟩ 1 1 _ (by simp [Act.eval, Act.put]) rfl (by exact World.news_of_block (Hnew.out _ _)) (by simp [Value.oneCell']) (by decide) (by unfold maxLen; omega) (by omega) (Nat.zero_le _) _ rfl ?_; intro g cap' w3 hown3 hgrow3 hat hlt; have HG := Fr.of_grown hgrow3; rw [← Hlv.out] at HG; have hp3 := HG.keep (Hpx.out _ _) Hpl.out; have h43 := HG.keep (Hw4.out _ _) (fun hm => by have := Hlt.out _ hm; omega); have h53 := HG.keep (Hw5.out _ _) (fun hm => by have := Hlt.out _ hm; omega); have hs3 := HG.size; obtain ⟨s0, s1, s2, s3, s4, fs⟩ := cells5 hp3; obtain ⟨t0, t1, t2, t3, ft⟩ := cells4 h43; obtain ⟨v0, v1, v2, v3, fv⟩ := cells4 h53; rw [Hlv.out] at s1; rw [Ha.out, ← Hnn.out] at s2; have HG' := hid HG; have Hat := hid hat; have Hown3 := hid hown3; clear hgrow3 HG hat hown3 hp3 h43 h53)
    all_goals
      go_wp2_with fail
      have ne1 : ¬ w.heap.size = C.pb := by omega
      refine bodyPost_ret (by simp [results, Try.results96, go_sem, t0, t1, t2, t3, ne1]) rfl ⟨rfl, .slice (some ⟨g, 0, none⟩) (n + 1) cap', ?_⟩
      have hown' := Hown3.out
      have hat' := Hat.out
      rw [← Hlv.out] at hat'
      rw [← Hrow.out] at hown'
      rw [Hnn.out] at hown'
      have hfin := fun u0 u1 u2 u3 => ask_fin HR.out Ha.out Hl.out (((Fr.refl _ _).alloc _).drewN _) (by simp) Hfr.out HM1.out (HX.out _ _) (by simp) (by exact Hpx.out _ _) HG'.out hown' (by simpa using hat') hlt u0 u1 u2 u3
      rw [← Hnn.out] at hfin
      exact hfin _ _ _ _
end Go.Proofs.Ytngdmkgbldgmiaa
