/-
  Machines: made, stepped, asked; a function that is done at once.
-/
import Derived.Test.YtngdmkgbldgmiaaB5
namespace Go.Proofs.Ytngdmkgbldgmiaa
open Go.RowKit

theorem mnew_machine (mb : Nat) (fv : Value) (w : World) (hfv : ∃ fn first cap, fv = .func fn first cap) :
    Calls Try.prog 18 #[.pointer (some ⟨mb, 0, none⟩), fv] w fun e w' => e = .returned (.pointer (some ⟨w.heap.size + 1, 0, none⟩)) ∧
      w' = (w.alloc (.cells #[.pointer (some ⟨mb, 0, none⟩), .slice none 0 0, .int .i64 0, .int .i64 0, .int .i64 0] 158)).alloc (.cells #[.pointer (some ⟨w.heap.size, 0, none⟩), fv, .nilIface, .int .i64 0, .bool false] 160) := by
  obtain ⟨fn, first, cap, rfl⟩ := hfv
  go_enter Try.func18, Try.ntmps18
  go_wp2
  go_ret
  exact ⟨rfl, rfl⟩
theorem mended_does {pb xb : Nat} {fv : Value} {m : MachS} {w : World} (hx : MachAt w pb xb fv m) :
    Calls Try.prog 23 #[.pointer (some ⟨xb, 0, none⟩)] w fun e w' => e = .returned (.bool m.ended) ∧ w' = w := by
  obtain ⟨x0, x1, x2, x3, x4, fx⟩ := cells5 hx
  clear hx
  go_enter Try.func23, Try.ntmps23
  go_wp2
  go_ret
  exact ⟨rfl, rfl⟩
theorem mout_does {pb xb : Nat} {fv : Value} {m : MachS} {w : World} (hx : MachAt w pb xb fv m) :
    Calls Try.prog 24 #[.pointer (some ⟨xb, 0, none⟩)] w fun e w' => e = .returned m.out ∧ w' = w := by
  obtain ⟨x0, x1, x2, x3, x4, fx⟩ := cells5 hx
  clear hx
  go_enter Try.func24, Try.ntmps24
  go_wp2
  go_ret
  exact ⟨rfl, rfl⟩
theorem msteps_does {pb xb : Nat} {fv : Value} {m : MachS} {w : World} (hx : MachAt w pb xb fv m) :
    Calls Try.prog 34 #[.pointer (some ⟨xb, 0, none⟩)] w fun e w' => e = .returned (.int .i64 m.steps) ∧ w' = w := by
  obtain ⟨x0, x1, x2, x3, x4, fx⟩ := cells5 hx
  clear hx
  go_enter Try.func34, Try.ntmps34
  go_wp2
  go_ret
  exact ⟨rfl, rfl⟩
theorem mnoted_does {pb xb : Nat} {fv : Value} {m : MachS} {w : World} {note : Int} (hx : MachAt w pb xb fv m) (hn : w.cell? ⟨pb, 4, none⟩ = some (.int .i64 note)) :
    Calls Try.prog 36 #[.pointer (some ⟨xb, 0, none⟩)] w fun e w' => e = .returned (.int .i64 note) ∧ w' = w := by
  obtain ⟨x0, x1, x2, x3, x4, fx⟩ := cells5 hx
  clear hx
  go_enter Try.func36, Try.ntmps36
  go_wp2
  go_ret
  exact ⟨rfl, rfl⟩
theorem step_idle {pb xb : Nat} {fv : Value} {m : MachS} {w : World} (hx : MachAt w pb xb fv m) (he : m.ended = true) :
    Calls Try.prog 22 #[.pointer (some ⟨xb, 0, none⟩)] w fun e w' => e = .returned (.bool true) ∧ w' = w := by
  obtain ⟨x0, x1, x2, x3, x4, fx⟩ := cells5 hx
  rw [he] at x4
  clear hx he
  go_enter Try.func22, Try.ntmps22
  go_wp2_with fail
  go_ret
  exact ⟨rfl, rfl⟩

def St.again (S : St) : St := ⟨S.M, { S.P with pos := 0, left := 1 }⟩
theorem again_at {C : Ctx} {lv fv : Value} {S : St} {w : World} {xb : Nat} {m : MachS} (hR : Rep w C lv S) (hx : MachAt w C.pb xb fv m) (hlen : S.P.log.length + 1 ≤ 1000000) :
    Rep (((w.setCell ⟨C.pb, 2, none⟩ (.int .i64 0)).setCell ⟨C.pb, 3, none⟩ (.int .i64 1)).drew) C lv S.again ∧
    MachAt (((w.setCell ⟨C.pb, 2, none⟩ (.int .i64 0)).setCell ⟨C.pb, 3, none⟩ (.int .i64 1)).drew) C.pb xb fv m ∧
    Fr [C.pb] w (((w.setCell ⟨C.pb, 2, none⟩ (.int .i64 0)).setCell ⟨C.pb, 3, none⟩ (.int .i64 1)).drew) := by
  have f1 : Fr [C.pb] w ((w.setCell ⟨C.pb, 2, none⟩ (.int .i64 0)).setCell ⟨C.pb, 3, none⟩ (.int .i64 1)) := ((Fr.refl _ _).setCell _ _ (.inl (by simp))).setCell _ _ (.inl (by simp))
  have nxp : xb ≠ C.pb := ne_types hx hR.2.1 (by decide)
  have n1 : C.mb ≠ C.pb := ne_types hR.1.1 hR.2.1 (by decide)
  have n2 : C.cb ≠ C.pb := ne_types hR.1.2.1 hR.2.1 (by decide)
  refine ⟨⟨hR.1.fr f1.drew (by simpa using n1) (by simpa using n2), ?_⟩, f1.drew.keep hx (by simpa using nxp), f1.drew⟩
  have h1 := hR.2.setPos 0 (Nat.zero_le _)
  have h2 := h1.setLeft 1 (by simpa using hlen) (by omega) (by omega)
  exact h2

/-- Behind a step in which the function stopped. -/
def Stepped (C : Ctx) (xb : Nat) (fv : Value) (m : MachS) (w : World) (lv : Value) (S1 : St) (w' : World) : Prop :=
  ∃ lv', Rep w' C lv' S1 ∧ Fr (xb :: C.mb :: C.cb :: C.pb :: lvb lv) w w' ∧ (∀ g ∈ lvb lv', g ∈ lvb lv ∨ w.heap.size ≤ g) ∧
    MachAt w' C.pb xb fv { m with steps := S1.P.log.length, ended := false }
/-- Behind a step in which it ended. -/
def Finished (C : Ctx) (xb : Nat) (fv : Value) (ov : Value) (w : World) (lv : Value) (S1 : St) (w' : World) : Prop :=
  MemAt w' C.mb C.cb S1.M ∧ Fr (xb :: C.mb :: C.cb :: C.pb :: lvb lv) w w' ∧ MachAt w' C.pb xb fv { out := ov, steps := S1.P.log.length, ended := true } ∧
    w'.heap[C.pb]? = some (.cells #[.pointer (some ⟨C.mb, 0, none⟩), .slice none 0 0, .int .i64 S1.P.pos, .int .i64 S1.P.left, .int .i64 S1.P.note] 158 (0, 0))

theorem set2 {w : World} {b : Nat} {x0 x1 x2 x3 x4 : Value} {T : TypeId} (h : w.heap[b]? = some (.cells #[x0, x1, x2, x3, x4] T (0, 0))) (u v : Value) :
    ((w.setCell ⟨b, 4, none⟩ u).setCell ⟨b, 3, none⟩ v).heap[b]? = some (.cells #[x0, x1, x2, v, u] T (0, 0)) := by
  rw [heap_set (heap_set h _)]; rfl

theorem stepped_end {C : Ctx} {lv lv' fv : Value} {S1 : St} {w W1 w1 : World} {xb : Nat} {m : MachS} (h0 : Fr [C.pb] w W1) (hmv : Moves C W1 lv w1 lv' S1) (hap : xb ∉ C.mb :: C.cb :: C.pb :: lvb lv) (hx1 : MachAt w1 C.pb xb fv m) :
    Stepped C xb fv m w lv S1 ((w1.setCell ⟨xb, 4, none⟩ (.bool false)).setCell ⟨xb, 3, none⟩ (.int .i64 S1.P.log.length)) := by
  have f1 : Fr [xb] w1 ((w1.setCell ⟨xb, 4, none⟩ (.bool false)).setCell ⟨xb, 3, none⟩ (.int .i64 S1.P.log.length)) := ((Fr.refl _ _).setCell _ _ (.inl (by simp))).setCell _ _ (.inl (by simp))
  have n := mach_apart hmv.1 hx1
  simp only [List.mem_cons, not_or] at n
  refine ⟨lv', ⟨hmv.1.1.fr f1 (by simp; exact Ne.symm n.1) (by simp; exact Ne.symm n.2.1), hmv.1.2.fr f1 (by simp; exact Ne.symm n.2.2.1) (fun g hg => by simp; rintro rfl; exact n.2.2.2 hg)⟩, ?_, ?_, set2 hx1 _ _⟩
  · have g1 : Fr (xb :: C.mb :: C.cb :: C.pb :: lvb lv) w w1 := (h0.mono (fun x hx => by simp at hx; subst hx; simp)).trans hmv.2.1 (fun x hx => .inl (by simp only [List.mem_cons] at hx ⊢; exact .inr hx))
    exact g1.trans f1 (fun x hx => .inl (by simp only [List.mem_singleton] at hx; subst hx; simp))
  · intro g hg
    rcases hmv.2.2 g hg with h | h
    · exact .inl h
    · exact .inr (Nat.le_trans h0.size h)

theorem finished_end {C : Ctx} {lv lv' fv ov : Value} {S1 : St} {w W1 w1 : World} {xb : Nat} {m : MachS} (h0 : Fr [C.pb] w W1) (hR : Rep w1 C lv' S1) (hf : Fr (xb :: C.mb :: C.cb :: C.pb :: lvb lv) W1 w1) (hx1 : MachAt w1 C.pb xb fv { m with out := ov }) :
    Finished C xb fv ov w lv S1 (((w1.setCell ⟨xb, 4, none⟩ (.bool true)).setCell ⟨xb, 3, none⟩ (.int .i64 S1.P.log.length)).setCell ⟨C.pb, 1, none⟩ (.slice none 0 0)) := by
  have f1 : Fr [xb, C.pb] w1 (((w1.setCell ⟨xb, 4, none⟩ (.bool true)).setCell ⟨xb, 3, none⟩ (.int .i64 S1.P.log.length)).setCell ⟨C.pb, 1, none⟩ (.slice none 0 0)) := (((Fr.refl _ _).setCell _ _ (.inl (by simp))).setCell _ _ (.inl (by simp))).setCell _ _ (.inl (by simp))
  have n := mach_apart hR hx1
  simp only [List.mem_cons, not_or] at n
  have n1 : C.mb ≠ C.pb := ne_types hR.1.1 hR.2.1 (by decide)
  have n2 : C.cb ≠ C.pb := ne_types hR.1.2.1 hR.2.1 (by decide)
  refine ⟨hR.1.fr f1 (by simp; exact ⟨Ne.symm n.1, n1⟩) (by simp; exact ⟨Ne.symm n.2.1, n2⟩), ?_, ?_, ?_⟩
  · have g1 : Fr (xb :: C.mb :: C.cb :: C.pb :: lvb lv) w w1 := (h0.mono (fun x hx => by simp at hx; subst hx; simp)).trans' hf
    exact g1.trans f1 (fun x hx => .inl (by simp only [List.mem_cons, List.not_mem_nil, or_false] at hx; rcases hx with rfl | rfl <;> simp))
  · unfold MachAt
    rw [heap_set_ne n.2.2.1]
    exact set2 hx1 _ _
  · have hpx : C.pb ≠ xb := Ne.symm n.2.2.1
    rw [heap_set (by rw [heap_set_ne hpx, heap_set_ne hpx]; exact hR.2.1)]
    rfl

set_option maxRecDepth 100000 in
set_option maxHeartbeats 800000 in
theorem step_pause {C : Ctx} {lv : Value} {S S1 : St} {w : World} {xb fid : Nat} {caps : Array Value} {m : MachS} (hR : Rep w C lv S) (hx : MachAt w C.pb xb (.func (.func fid) #[] caps) m) (he : m.ended = false) (hlen : S.P.log.length + 1 ≤ 1000000)
    (hcf : ∀ W, (callFunc fid (#[.pointer (some ⟨C.pb, 0, none⟩)] ++ caps)).run Try.prog W = .ok (.enter fid (#[.pointer (some ⟨C.pb, 0, none⟩)] ++ caps)) W)
    (hcl : ∀ W, Fr [C.pb] w W → Rep W C lv S.again → Calls Try.prog fid (#[.pointer (some ⟨C.pb, 0, none⟩)] ++ caps) W fun e w' => e = .panicked pz ∧ ∃ lv', Moves C W lv w' lv' S1) :
    Calls Try.prog 22 #[.pointer (some ⟨xb, 0, none⟩)] w fun e w' => e = .returned (.bool false) ∧ Stepped C xb (.func (.func fid) #[] caps) m w lv S1 w' := by
  obtain ⟨x0, x1, x2, x3, x4, fx⟩ := cells5 hx
  obtain ⟨p0, p1, p2, p3, p4, fp⟩ := hR.2.facts
  have nxp : ¬ xb = C.pb := ne_types hx hR.2.1 (by decide)
  have npx : ¬ C.pb = xb := fun e => nxp e.symm
  rw [he] at x4
  have HW := hid (again_at hR hx hlen)
  have Hrun := hid (run_pause HW.out.1 HW.out.2.1 hcf (fun W hf => hcl W (HW.out.2.2.trans hf (fun _ h => by simp at h)) (HW.out.1.fr hf)))
  have Hap := hid (mach_apart hR hx)
  have Hx := hid hx
  clear hcl hx hR hcf
  go_enter Try.func22, Try.ntmps22
  go_wp2_with fail
  go_region
  go_wp2_with (go_at_call 100; refine Hrun.out.mono ?_; rintro e w1 ⟨rfl, lv', hmv⟩; have Hmv := hid hmv; obtain ⟨q0, q1, q2, q3, q4, fq⟩ := hmv.1.2.facts; obtain ⟨ao, cap, hlv⟩ := lv_len hmv.1.2; rw [hlv] at q1; have hx1 := hmv.2.1.keep HW.out.2.1 Hap.out; have Hx1 := hid hx1; obtain ⟨y0, y1, y2, y3, y4, fy⟩ := cells5 hx1; rw [he] at y4; clear hmv hlv hx1)
  go_ret
  exact ⟨rfl, stepped_end HW.out.2.2 Hmv.out Hap.out Hx1.out⟩

set_option maxRecDepth 100000 in
set_option maxHeartbeats 800000 in
theorem step_done {C : Ctx} {lv : Value} {S S1 : St} {w : World} {xb fid : Nat} {caps : Array Value} {m : MachS} {ov : Value} (hov : ov = .nilIface ∨ ∃ t x, ov = .iface t x) (hR : Rep w C lv S) (hx : MachAt w C.pb xb (.func (.func fid) #[] caps) m) (he : m.ended = false) (hlen : S.P.log.length + 1 ≤ 1000000)
    (hcf : ∀ W, (callFunc fid (#[.pointer (some ⟨C.pb, 0, none⟩)] ++ caps)).run Try.prog W = .ok (.enter fid (#[.pointer (some ⟨C.pb, 0, none⟩)] ++ caps)) W)
    (hcl : ∀ W, Fr [C.pb] w W → Rep W C lv S.again → Calls Try.prog fid (#[.pointer (some ⟨C.pb, 0, none⟩)] ++ caps) W fun e w' => e = .returned ov ∧ ∃ lv', Moves C W lv w' lv' S1) :
    Calls Try.prog 22 #[.pointer (some ⟨xb, 0, none⟩)] w fun e w' => e = .returned (.bool true) ∧ Finished C xb (.func (.func fid) #[] caps) ov w lv S1 w' := by
  obtain ⟨x0, x1, x2, x3, x4, fx⟩ := cells5 hx
  obtain ⟨p0, p1, p2, p3, p4, fp⟩ := hR.2.facts
  have nxp : ¬ xb = C.pb := ne_types hx hR.2.1 (by decide)
  have npx : ¬ C.pb = xb := fun e => nxp e.symm
  rw [he] at x4
  have HW := hid (again_at hR hx hlen)
  have Hrun := hid (run_done hov HW.out.1 HW.out.2.1 hcf (fun W hf => hcl W (HW.out.2.2.trans hf (fun _ h => by simp at h)) (HW.out.1.fr hf)))
  have Hap := hid (mach_apart hR hx)
  have Hx := hid hx
  clear hcl hx hR hcf hov
  go_enter Try.func22, Try.ntmps22
  go_wp2_with fail
  go_region
  go_wp2_with (go_at_call 100; refine Hrun.out.mono ?_; rintro e w1 ⟨rfl, lv', hR1, hf1, hg1, hx1⟩; have HR1 := hid hR1; have Hf1 := hid hf1; obtain ⟨q0, q1, q2, q3, q4, fq⟩ := hR1.2.facts; obtain ⟨ao, cap, hlv⟩ := lv_len hR1.2; rw [hlv] at q1; have Hx1 := hid hx1; obtain ⟨y0, y1, y2, y3, y4, fy⟩ := cells5 hx1; dsimp only at y2 y3 y4; rw [he] at y4; clear hR1 hf1 hg1 hlv hx1)
  go_ret
  exact ⟨rfl, finished_end HW.out.2.2 HR1.out Hf1.out Hx1.out⟩

/-- A function that is done at once: what it answers. -/
theorem do_does {mb fid : Nat} {caps : Array Value} {w : World} {R : Value → World → Prop}
    (hcf : ∀ W, (callFunc fid (#[.pointer (some ⟨w.heap.size, 0, none⟩)] ++ caps)).run Try.prog W = .ok (.enter fid (#[.pointer (some ⟨w.heap.size, 0, none⟩)] ++ caps)) W)
    (hcl : Calls Try.prog fid (#[.pointer (some ⟨w.heap.size, 0, none⟩)] ++ caps) (w.alloc (.cells #[.pointer (some ⟨mb, 0, none⟩), .slice none 0 0, .int .i64 0, .int .i64 (-1), .int .i64 0] 158)) fun e w' => ∃ v, e = .returned v ∧ R v w') :
    Calls Try.prog 37 #[.pointer (some ⟨mb, 0, none⟩), .func (.func fid) #[] caps] w fun e w' => ∃ v, e = .returned v ∧ R v w' := by
  have Hcl := hid hcl
  clear hcl
  go_enter Try.func37, Try.ntmps37
  go_wp2_with fail
  refine Hcl.out.mono ?_
  rintro e w' ⟨v, rfl, hR⟩
  go_wp2_with fail
  go_ret
  exact ⟨v, rfl, hR⟩

/-- The port that Do makes. -/
theorem do_port {mb cb : Nat} {M : MemS} {w : World} (hM : MemAt w mb cb M) :
    Rep (w.alloc (.cells #[.pointer (some ⟨mb, 0, none⟩), .slice none 0 0, .int .i64 0, .int .i64 (-1), .int .i64 0] 158)) ⟨mb, cb, w.heap.size⟩ (.slice none 0 0) ⟨M, ⟨[], 0, -1, 0⟩⟩ := by
  refine ⟨hM.fr ((Fr.refl [] _).alloc _) (by simp) (by simp), heap_new _ _, ?_, by simp, by simp, by simp, by simp⟩
  exact ⟨rfl, .inl ⟨rfl, rfl⟩⟩

def St.noted (S : St) (n : Int) : St := { S with P := { S.P with note := n } }
theorem pNote {C : Ctx} {lv : Value} {S : St} {w : World} (hR : Rep w C lv S) (n : Int) :
    Calls Try.prog 85 #[.pointer (some ⟨C.pb, 0, none⟩), .int .i64 n] w fun e w' => e = .returned (.tuple #[]) ∧ Moves C w lv w' lv (S.noted n) := by
  obtain ⟨p0, p1, p2, p3, p4, fp⟩ := hR.2.facts
  have HR := hid hR
  clear hR
  go_enter Try.func85, Try.ntmps85
  go_wp2
  go_end0
  have f1 : Fr [C.pb] w (w.setCell ⟨C.pb, 4, none⟩ (.int .i64 n)) := (Fr.refl _ _).setCell _ _ (.inl (by simp))
  refine ⟨rfl, ⟨HR.out.1.fr f1 ?_ ?_, HR.out.2.setNote n⟩, f1.mono (fun x hx => .inl (by simp at hx; subst hx; simp)), fun _ hg => .inl hg⟩
  · simpa using ne_types HR.out.1.1 HR.out.2.1 (by decide)
  · simpa using ne_types HR.out.1.2.1 HR.out.2.1 (by decide)
theorem pCells {C : Ctx} {lv : Value} {S : St} {w : World} (hR : Rep w C lv S) :
    Calls Try.prog 154 #[.pointer (some ⟨C.pb, 0, none⟩)] w fun e w' => e = .returned (.int .i64 S.M.l.length) ∧ w' = w := by
  obtain ⟨p0, p1, p2, p3, p4, fp⟩ := hR.2.facts
  have hc := mcells_does hR.1
  have Hc := hid hc
  clear hR hc
  go_enter Try.func154, Try.ntmps154
  go_wp2_with (go_at_call 180; refine Hc.out.mono ?_; rintro e w' ⟨rfl, rfl⟩)
  go_ret
  exact ⟨rfl, rfl⟩
end Go.Proofs.Ytngdmkgbldgmiaa
