/-
  A machine's run: its function is done anew; where it may ask no more it stops, and is recovered.
-/
import Derived.Test.YtngdmkgbldgmiaaB4
import Derived.Defers
import Derived.Recover
import Derived.StillTailTactics
namespace Go.Proofs.Ytngdmkgbldgmiaa
open Go.RowKit

theorem ta222 (w : World) : (Instr.typeAssert (.iface 222 (.agg #[])) 20 222 true).run Try.prog w = .ok (.tuple #[.agg #[], .bool true]) w := by kernel_rfl
theorem frame159 (p X : Value) : #[p] ++ ((Array.replicate 14 undef).setIfInBounds 3 X).setIfInBounds 0 X = #[p, X, undef, undef, X, undef, undef, undef, undef, undef, undef, undef, undef, undef, undef] := rfl
theorem catch_idle (p : Addr) (w : World) :
    CallsD Try.prog 159 #[.pointer (some p)] .returning w fun e u' w' => e = .returned (.tuple #[]) ∧ u' = .returning ∧ w' = w := by
  refine callsD_of_wpS Try.func159 rfl fun c₀ cs hu => ?_
  apply wpS_seq
  apply wpS_region
  simp [wpOpsS, go_sem, recoverD, hu, Try.ntmps159, Exit.thenS]
  rw [frame159]
  refine wpS_of_wp ?_
  go_wp2_with fail
  cases c₀
  simp_all [bodyPostS, results, Try.results159]
theorem catch_pause (b : Nat) (x : Bool) (older : List PanicEntry) (w : World) (hc : w.cell? ⟨b, 0, none⟩ = some (.bool x)) (hz : w.frozen? ⟨b, 0, none⟩ = false) :
    CallsD Try.prog 159 #[.pointer (some ⟨b, 0, none⟩)] (.panicking ({ v := .iface 222 (.agg #[]), recovered := false } :: older)) w fun e u' w' =>
      e = .returned (.tuple #[]) ∧ u' = .panicking ({ v := .iface 222 (.agg #[]), recovered := true } :: older) ∧ w' = (w.setCell ⟨b, 0, none⟩ (.bool false)).alloc (.cells #[] 222) := by
  have ta := ta222
  have hb : b < w.heap.size := by
    rcases Nat.lt_or_ge b w.heap.size with h' | h'
    · exact h'
    · simp [World.cell?, Array.getElem?_eq_none h'] at hc
  refine callsD_of_wpS Try.func159 rfl fun c₀ cs hu => ?_
  apply wpS_seq
  apply wpS_region
  simp [wpOpsS, go_sem, recoverD, hu, Try.ntmps159, Exit.thenS]
  rw [frame159]
  refine wpS_of_wp ?_
  go_wp2_with fail
  simp [bodyPostS, results, Try.results159]

structure MachS where
  out : Value
  steps : Int
  ended : Bool
def MachAt (w : World) (pb xb : Nat) (fv : Value) (m : MachS) : Prop :=
  w.heap[xb]? = some (.cells #[.pointer (some ⟨pb, 0, none⟩), fv, m.out, .int .i64 m.steps, .bool m.ended] 160 (0, 0))

theorem results100_put (tmps : Array Value) (d : Nat) (v : Value) (hd : d ≠ 2) : results Try.f100 (tmps.setIfInBounds d v) = results Try.f100 tmps := by
  have : (tmps.setIfInBounds d v).getD 2 undef = tmps.getD 2 undef := by
    simp [Array.getD_eq_getD_getElem?, Array.getElem?_setIfInBounds, hd]
  unfold results
  rw [Try.results100]
  simp only [List.mapM_toArray, List.mapM_cons, List.mapM_nil, this]
theorem leaves_put {tmps : Array Value} {d : Nat} {v : Value} (hd : d ≠ 2) {R : Ending → World → Prop} {ds : List Deferred} {u : FrameMode} {w : World} (h : Leaves Try.prog Try.f100 (tmps.setIfInBounds d v) R ds u w) : Leaves Try.prog Try.f100 tmps R ds u w := by
  induction ds generalizing u w with
  | nil =>
    cases u with
    | returning => simp only [Leaves] at h ⊢; rwa [results100_put _ _ _ hd] at h
    | _ => exact h
  | cons x ds ih =>
    obtain ⟨h1, fv, cap, f, args, h2, h3, h4⟩ := h
    refine ⟨h1, fv, cap, f, args, h2, h3, ?_⟩
    intro c cs hc
    obtain ⟨e, u', w', fr, hR, rest⟩ := h4 c cs hc
    refine ⟨e, u', w', fr, ?_, rest⟩
    cases e with
    | returned v => exact ih hR
    | panicked ch => exact ih hR
    | outgrown => exact hR

/-- The block of a result is none of the port's. -/
theorem slot_apart {C : Ctx} {lv lv' : Value} {S S1 : St} {w w1 : World} {o : Obj} (hR : Rep w C lv S) (hmv : Moves C ((w.alloc o).drew) lv w1 lv' S1) :
    w1.heap[w.heap.size]? = some o ∧ w.heap.size < w1.heap.size ∧ w.heap.size ≠ C.mb ∧ w.heap.size ≠ C.cb ∧ w.heap.size ≠ C.pb ∧ w.heap.size ∉ lvb lv' := by
  have h1 := lt_of_heap hR.1.1
  have h2 := lt_of_heap hR.1.2.1
  have h3 := lt_of_heap hR.2.1
  have h4 : w.heap.size ∉ lvb lv := fun hm => by have := lvb_lt hR.2 hm; omega
  refine ⟨hmv.2.1.keep (k := w.heap.size) (heap_new w o) ?_, ?_, by omega, by omega, by omega, ?_⟩
  · simp
    exact ⟨by omega, by omega, by omega, h4⟩
  · have := hmv.2.1.size
    simp at this
    omega
  · intro hm
    rcases hmv.2.2 _ hm with h | h
    · exact h4 h
    · simp at h; omega

theorem mach_apart {C : Ctx} {lv fv : Value} {S : St} {w : World} {xb : Nat} {m : MachS} (hR : Rep w C lv S) (hx : MachAt w C.pb xb fv m) : xb ∉ C.mb :: C.cb :: C.pb :: lvb lv := by
  have h1 := ne_types hx hR.1.1 (by decide)
  have h2 := ne_types hx hR.1.2.1 (by decide)
  have h3 := ne_types hx hR.2.1 (by decide)
  simp only [List.mem_cons, not_or]
  refine ⟨h1, h2, h3, fun hm => ?_⟩
  obtain ⟨_, h⟩ := lvb_heap hR.2 hm
  exact ne_types hx h (by decide) rfl

set_option maxRecDepth 100000 in
set_option maxHeartbeats 800000 in
theorem run_pause {C : Ctx} {lv : Value} {S S1 : St} {w : World} {xb fid : Nat} {caps : Array Value} {m : MachS} (hR : Rep w C lv S) (hx : MachAt w C.pb xb (.func (.func fid) #[] caps) m)
    (hcf : ∀ W, (callFunc fid (#[.pointer (some ⟨C.pb, 0, none⟩)] ++ caps)).run Try.prog W = .ok (.enter fid (#[.pointer (some ⟨C.pb, 0, none⟩)] ++ caps)) W)
    (hcl : ∀ W, Fr [] w W → Calls Try.prog fid (#[.pointer (some ⟨C.pb, 0, none⟩)] ++ caps) W fun e w' => e = .panicked pz ∧ ∃ lv', Moves C W lv w' lv' S1) :
    Calls Try.prog 100 #[.pointer (some ⟨xb, 0, none⟩)] w fun e w' => e = .returned (.bool false) ∧ ∃ lv', Moves C w lv w' lv' S1 := by
  obtain ⟨x0, x1, x2, x3, x4, fx⟩ := cells5 hx
  have hxs := lt_of_heap hx
  have Hcl := hid hcl
  have Hx := hid hx
  have HR := hid hR
  clear hcl hx hR
  have hmf : ∀ (fn : Fn) (first cap : Array Value) (w : World), (Instr.makeFunc fn first cap).run Try.prog w = .ok (.func fn first cap) w := fun _ _ _ _ => rfl
  go_enter_defers Try.func100, Try.ntmps100
  go_wp2_with fail
  refine wp_region_held_drew (S := (fun W => W.cell? ⟨xb, 0, none⟩ = some (.pointer (some ⟨C.pb, 0, none⟩)) ∧ W.cell? ⟨xb, 1, none⟩ = some (.func (.func fid) #[] caps))) (by kernel_rfl) ?_ (fun hHeld => ?_)
  · go_simp
  refine wpAnyH_take (i := 0) (oi := { dst := some 4, op := Go.Op.move (Go.Operand.tmp 0), type := 31, pos := "step.go:145", after := #[], guard := none }) (v := .pointer (some ⟨xb, 0, none⟩)) rfl (by kernel_rfl) (by kernel_rfl) (by kernel_rfl) (fun _ _ _ h => leaves_put (by decide) h) (Or.inl ⟨by rfl, ?_⟩) hHeld ?_
  · intro W hW
    obtain ⟨hW0, hW1⟩ := hW
    go_simp
  simp only [Act.put, List.setIfInBounds_toArray, List.set_cons_zero, List.set_cons_succ]
  refine wpAnyH_take (i := 1) (oi := { dst := some 5, op := Go.Op.move (Go.Operand.tmp 0), type := 31, pos := "step.go:145", after := #[], guard := none }) (v := .pointer (some ⟨xb, 0, none⟩)) rfl (by kernel_rfl) (by kernel_rfl) (by kernel_rfl) (fun _ _ _ h => leaves_put (by decide) h) (Or.inl ⟨by rfl, ?_⟩) hHeld ?_
  · intro W hW
    obtain ⟨hW0, hW1⟩ := hW
    go_simp
  simp only [Act.put, List.setIfInBounds_toArray, List.set_cons_zero, List.set_cons_succ]
  refine wpAnyH_take (i := 2) (oi := { dst := some 6, op := Go.Op.nilCheck (Go.Operand.tmp 5), type := 0, pos := "step.go:145", after := #[{ on := 1, ground := Go.Ground.data }], guard := none }) (v := .pointer (some ⟨xb, 0, none⟩)) rfl (by kernel_rfl) (by kernel_rfl) (by kernel_rfl) (fun _ _ _ h => leaves_put (by decide) h) (Or.inl ⟨by rfl, ?_⟩) hHeld ?_
  · intro W hW
    obtain ⟨hW0, hW1⟩ := hW
    go_simp
  simp only [Act.put, List.setIfInBounds_toArray, List.set_cons_zero, List.set_cons_succ]
  refine wpAnyH_take (i := 3) (oi := { dst := some 7, op := Go.Op.fieldAddr 160 (Go.Operand.tmp 6) 1, type := 0, pos := "step.go:145", after := #[{ on := 2, ground := Go.Ground.data }], guard := none }) (v := .pointer (some ⟨xb, 1, none⟩)) rfl (by kernel_rfl) (by kernel_rfl) (by kernel_rfl) (fun _ _ _ h => leaves_put (by decide) h) (Or.inl ⟨by rfl, ?_⟩) hHeld ?_
  · intro W hW
    obtain ⟨hW0, hW1⟩ := hW
    go_simp
  simp only [Act.put, List.setIfInBounds_toArray, List.set_cons_zero, List.set_cons_succ]
  refine wpAnyH_take (i := 4) (oi := { dst := some 8, op := Go.Op.load 36 (Go.Operand.tmp 7), type := 36, pos := "step.go:145", after := #[{ on := 3, ground := Go.Ground.data }], guard := none }) (v := .func (.func fid) #[] caps) rfl (by kernel_rfl) (by kernel_rfl) (by kernel_rfl) (fun _ _ _ h => leaves_put (by decide) h) (Or.inl ⟨by rfl, ?_⟩) hHeld ?_
  · intro W hW
    obtain ⟨hW0, hW1⟩ := hW
    go_simp
  simp only [Act.put, List.setIfInBounds_toArray, List.set_cons_zero, List.set_cons_succ]
  refine wpAnyH_take (i := 5) (oi := { dst := some 9, op := Go.Op.move (Go.Operand.tmp 0), type := 31, pos := "step.go:145", after := #[], guard := none }) (v := .pointer (some ⟨xb, 0, none⟩)) rfl (by kernel_rfl) (by kernel_rfl) (by kernel_rfl) (fun _ _ _ h => leaves_put (by decide) h) (Or.inl ⟨by rfl, ?_⟩) hHeld ?_
  · intro W hW
    obtain ⟨hW0, hW1⟩ := hW
    go_simp
  simp only [Act.put, List.setIfInBounds_toArray, List.set_cons_zero, List.set_cons_succ]
  refine wpAnyH_take (i := 6) (oi := { dst := some 10, op := Go.Op.nilCheck (Go.Operand.tmp 9), type := 0, pos := "step.go:145", after := #[{ on := 5, ground := Go.Ground.data }], guard := none }) (v := .pointer (some ⟨xb, 0, none⟩)) rfl (by kernel_rfl) (by kernel_rfl) (by kernel_rfl) (fun _ _ _ h => leaves_put (by decide) h) (Or.inl ⟨by rfl, ?_⟩) hHeld ?_
  · intro W hW
    obtain ⟨hW0, hW1⟩ := hW
    go_simp
  simp only [Act.put, List.setIfInBounds_toArray, List.set_cons_zero, List.set_cons_succ]
  refine wpAnyH_take (i := 7) (oi := { dst := some 11, op := Go.Op.fieldAddr 160 (Go.Operand.tmp 10) 0, type := 0, pos := "step.go:145", after := #[{ on := 6, ground := Go.Ground.data }], guard := none }) (v := .pointer (some ⟨xb, 0, none⟩)) rfl (by kernel_rfl) (by kernel_rfl) (by kernel_rfl) (fun _ _ _ h => leaves_put (by decide) h) (Or.inl ⟨by rfl, ?_⟩) hHeld ?_
  · intro W hW
    obtain ⟨hW0, hW1⟩ := hW
    go_simp
  simp only [Act.put, List.setIfInBounds_toArray, List.set_cons_zero, List.set_cons_succ]
  refine wpAnyH_take (i := 8) (oi := { dst := some 12, op := Go.Op.load 33 (Go.Operand.tmp 11), type := 33, pos := "step.go:145", after := #[{ on := 7, ground := Go.Ground.data }], guard := none }) (v := .pointer (some ⟨C.pb, 0, none⟩)) rfl (by kernel_rfl) (by kernel_rfl) (by kernel_rfl) (fun _ _ _ h => leaves_put (by decide) h) (Or.inl ⟨by rfl, ?_⟩) hHeld ?_
  · intro W hW
    obtain ⟨hW0, hW1⟩ := hW
    go_simp
  simp only [Act.put, List.setIfInBounds_toArray, List.set_cons_zero, List.set_cons_succ]
  refine wpAnyH_ready (rs := [9]) (by kernel_rfl) (by simp) ?_
  refine AllReadyH.cons (o := { dst := some 13, op := Go.Op.call { callee := Go.Callee.value (Go.Operand.tmp 8), args := #[Go.Operand.tmp 12], argTypes := #[33] }, type := 20, pos := "step.go:145", after := #[{ on := 4, ground := Go.Ground.data }, { on := 8, ground := Go.Ground.data }], guard := none }) rfl (fun K hK => ?_) AllReadyH.nil
  clear hK
  go_simp
  refine (Hcl.out _ (((Fr.refl _ _).alloc _).drew)).mono ?_
  rintro e w1 ⟨rfl, lv', hmv⟩
  obtain ⟨hr4, hs1, n1, n2, n3, n4⟩ := slot_apart HR.out hmv
  refine leaves_cons (f := 159) (args := #[.pointer (some ⟨w.heap.size, 0, none⟩)]) (by simp) (by simp [go_sem]) ?_
  refine (catch_pause w.heap.size false [] _ (box_cell hr4) (frozen_heap hr4)).mono ?_
  rintro e u' w'' ⟨rfl, rfl, rfl⟩
  have hc : ((w1.setCell ⟨w.heap.size, 0, none⟩ (.bool false)).alloc (.cells #[] 222)).cell? ⟨w.heap.size, 0, none⟩ = some (.bool false) := by
    rw [cell_heap (heap_old _ (heap_set hr4 _))]; rfl
  simp [Leaves, settle, results, Try.results100, go_sem, hc]
  refine ⟨lv', (hmv.pre (((Fr.refl _ _).alloc _).drew)).post (T := [w.heap.size]) (((Fr.refl _ _).setCell _ _ (.inl (by simp))).alloc _) ?_⟩
  intro x hx
  simp only [List.mem_singleton] at hx
  subst hx
  exact ⟨Nat.le_refl _, n1, n2, n3, n4⟩

theorem run_end {C : Ctx} {lv lv' fv : Value} {S S1 : St} {w w1 : World} {xb : Nat} {m : MachS} (hR : Rep w C lv S) (hx : MachAt w C.pb xb fv m)
    (hmv : Moves C ((w.alloc (.cells #[.bool false] 4)).drew) lv w1 lv' S1) (OV : Value) :
    ((w1.setCell ⟨xb, 2, none⟩ OV).setCell ⟨w.heap.size, 0, none⟩ (.bool true)).cell? ⟨w.heap.size, 0, none⟩ = some (.bool true) ∧
    ∃ lv', Rep ((w1.setCell ⟨xb, 2, none⟩ OV).setCell ⟨w.heap.size, 0, none⟩ (.bool true)) C lv' S1 ∧ Fr (xb :: C.mb :: C.cb :: C.pb :: lvb lv) w ((w1.setCell ⟨xb, 2, none⟩ OV).setCell ⟨w.heap.size, 0, none⟩ (.bool true)) ∧
      (∀ g ∈ lvb lv', g ∈ lvb lv ∨ w.heap.size ≤ g) ∧ MachAt ((w1.setCell ⟨xb, 2, none⟩ OV).setCell ⟨w.heap.size, 0, none⟩ (.bool true)) C.pb xb fv { m with out := OV } := by
  obtain ⟨hr4, hs1, n1, n2, n3, n4⟩ := slot_apart hR hmv
  have hxs := lt_of_heap hx
  have ne1 : ¬ xb = w.heap.size := by omega
  have ne2 : ¬ w.heap.size = xb := by omega
  have hx1 := hmv.2.1.keep (((Fr.refl [] _).alloc _).drew.keep hx (by simp)) (mach_apart hR hx)
  have hx2 : ((w1.setCell ⟨xb, 2, none⟩ OV).setCell ⟨w.heap.size, 0, none⟩ (.bool true)).heap[xb]? = some (.cells #[.pointer (some ⟨C.pb, 0, none⟩), fv, OV, .int .i64 m.steps, .bool m.ended] 160 (0, 0)) := by
    rw [heap_set_ne ne1, heap_set hx1]; rfl
  have hc : ((w1.setCell ⟨xb, 2, none⟩ OV).setCell ⟨w.heap.size, 0, none⟩ (.bool true)).cell? ⟨w.heap.size, 0, none⟩ = some (.bool true) := by
    rw [cell_heap (heap_set (by rw [heap_set_ne ne2]; exact hr4) _)]; rfl
  have f1 : Fr [xb, w.heap.size] w1 ((w1.setCell ⟨xb, 2, none⟩ OV).setCell ⟨w.heap.size, 0, none⟩ (.bool true)) := ((Fr.refl _ _).setCell _ _ (.inl (by simp))).setCell _ _ (.inl (by simp))
  have ap := mach_apart hR hx
  simp only [List.mem_cons, not_or] at ap
  have ap' : xb ∉ lvb lv' := fun hm => by
    rcases hmv.2.2 _ hm with h | h
    · exact ap.2.2.2 h
    · simp at h; omega
  refine ⟨hc, lv', ⟨hmv.1.1.fr f1 ?_ ?_, hmv.1.2.fr f1 ?_ ?_⟩, ?_, ?_, hx2⟩
  · simp; exact ⟨Ne.symm ap.1, Ne.symm n1⟩
  · simp; exact ⟨Ne.symm ap.2.1, Ne.symm n2⟩
  · simp; exact ⟨Ne.symm ap.2.2.1, Ne.symm n3⟩
  · intro g hg
    simp only [List.mem_cons, List.not_mem_nil, or_false, not_or]
    exact ⟨fun e => ap' (e ▸ hg), fun e => n4 (e ▸ hg)⟩
  · have g1 : Fr (xb :: C.mb :: C.cb :: C.pb :: lvb lv) w w1 := (((Fr.refl _ _).alloc _).drew).trans hmv.2.1 (fun x hx => .inl (by simp only [List.mem_cons] at hx ⊢; exact .inr hx))
    exact g1.trans f1 (fun x hx => by
      simp only [List.mem_cons, List.not_mem_nil, or_false] at hx
      rcases hx with rfl | rfl
      · exact .inl (by simp)
      · exact .inr (Nat.le_refl _))
  · intro g hg
    rcases hmv.2.2 g hg with h | h
    · exact .inl h
    · simp at h; exact .inr (by omega)

set_option maxRecDepth 100000 in
set_option maxHeartbeats 1600000 in
theorem run_done {C : Ctx} {lv : Value} {S S1 : St} {w : World} {xb fid : Nat} {caps : Array Value} {m : MachS} {ov : Value} (hov : ov = .nilIface ∨ ∃ t x, ov = .iface t x) (hR : Rep w C lv S) (hx : MachAt w C.pb xb (.func (.func fid) #[] caps) m)
    (hcf : ∀ W, (callFunc fid (#[.pointer (some ⟨C.pb, 0, none⟩)] ++ caps)).run Try.prog W = .ok (.enter fid (#[.pointer (some ⟨C.pb, 0, none⟩)] ++ caps)) W)
    (hcl : ∀ W, Fr [] w W → Calls Try.prog fid (#[.pointer (some ⟨C.pb, 0, none⟩)] ++ caps) W fun e w' => e = .returned ov ∧ ∃ lv', Moves C W lv w' lv' S1) :
    Calls Try.prog 100 #[.pointer (some ⟨xb, 0, none⟩)] w fun e w' => e = .returned (.bool true) ∧ ∃ lv', Rep w' C lv' S1 ∧ Fr (xb :: C.mb :: C.cb :: C.pb :: lvb lv) w w' ∧ (∀ g ∈ lvb lv', g ∈ lvb lv ∨ w.heap.size ≤ g) ∧ MachAt w' C.pb xb (.func (.func fid) #[] caps) { m with out := ov } := by
  obtain ⟨x0, x1, x2, x3, x4, fx⟩ := cells5 hx
  have hxs := lt_of_heap hx
  have Hap := hid (mach_apart hR hx)
  have Hcl := hid hcl
  have Hx := hid hx
  have HR := hid hR
  clear hcl hx hR
  rcases hov with rfl | ⟨t, x, rfl⟩
  all_goals
    have hmf : ∀ (fn : Fn) (first cap : Array Value) (w : World), (Instr.makeFunc fn first cap).run Try.prog w = .ok (.func fn first cap) w := fun _ _ _ _ => rfl
    go_enter_defers Try.func100, Try.ntmps100
    go_wp2_with fail
    refine wp_region_held_drew (S := (fun W => W.cell? ⟨xb, 0, none⟩ = some (.pointer (some ⟨C.pb, 0, none⟩)) ∧ W.cell? ⟨xb, 1, none⟩ = some (.func (.func fid) #[] caps))) (by kernel_rfl) ?_ (fun hHeld => ?_)
    · go_simp
    refine wpAnyH_take (i := 0) (oi := { dst := some 4, op := Go.Op.move (Go.Operand.tmp 0), type := 31, pos := "step.go:145", after := #[], guard := none }) (v := .pointer (some ⟨xb, 0, none⟩)) rfl (by kernel_rfl) (by kernel_rfl) (by kernel_rfl) (fun _ _ _ h => leaves_put (by decide) h) (Or.inl ⟨by rfl, ?_⟩) hHeld ?_
    · intro W hW
      obtain ⟨hW0, hW1⟩ := hW
      go_simp
    simp only [Act.put, List.setIfInBounds_toArray, List.set_cons_zero, List.set_cons_succ]
    refine wpAnyH_take (i := 1) (oi := { dst := some 5, op := Go.Op.move (Go.Operand.tmp 0), type := 31, pos := "step.go:145", after := #[], guard := none }) (v := .pointer (some ⟨xb, 0, none⟩)) rfl (by kernel_rfl) (by kernel_rfl) (by kernel_rfl) (fun _ _ _ h => leaves_put (by decide) h) (Or.inl ⟨by rfl, ?_⟩) hHeld ?_
    · intro W hW
      obtain ⟨hW0, hW1⟩ := hW
      go_simp
    simp only [Act.put, List.setIfInBounds_toArray, List.set_cons_zero, List.set_cons_succ]
    refine wpAnyH_take (i := 2) (oi := { dst := some 6, op := Go.Op.nilCheck (Go.Operand.tmp 5), type := 0, pos := "step.go:145", after := #[{ on := 1, ground := Go.Ground.data }], guard := none }) (v := .pointer (some ⟨xb, 0, none⟩)) rfl (by kernel_rfl) (by kernel_rfl) (by kernel_rfl) (fun _ _ _ h => leaves_put (by decide) h) (Or.inl ⟨by rfl, ?_⟩) hHeld ?_
    · intro W hW
      obtain ⟨hW0, hW1⟩ := hW
      go_simp
    simp only [Act.put, List.setIfInBounds_toArray, List.set_cons_zero, List.set_cons_succ]
    refine wpAnyH_take (i := 3) (oi := { dst := some 7, op := Go.Op.fieldAddr 160 (Go.Operand.tmp 6) 1, type := 0, pos := "step.go:145", after := #[{ on := 2, ground := Go.Ground.data }], guard := none }) (v := .pointer (some ⟨xb, 1, none⟩)) rfl (by kernel_rfl) (by kernel_rfl) (by kernel_rfl) (fun _ _ _ h => leaves_put (by decide) h) (Or.inl ⟨by rfl, ?_⟩) hHeld ?_
    · intro W hW
      obtain ⟨hW0, hW1⟩ := hW
      go_simp
    simp only [Act.put, List.setIfInBounds_toArray, List.set_cons_zero, List.set_cons_succ]
    refine wpAnyH_take (i := 4) (oi := { dst := some 8, op := Go.Op.load 36 (Go.Operand.tmp 7), type := 36, pos := "step.go:145", after := #[{ on := 3, ground := Go.Ground.data }], guard := none }) (v := .func (.func fid) #[] caps) rfl (by kernel_rfl) (by kernel_rfl) (by kernel_rfl) (fun _ _ _ h => leaves_put (by decide) h) (Or.inl ⟨by rfl, ?_⟩) hHeld ?_
    · intro W hW
      obtain ⟨hW0, hW1⟩ := hW
      go_simp
    simp only [Act.put, List.setIfInBounds_toArray, List.set_cons_zero, List.set_cons_succ]
    refine wpAnyH_take (i := 5) (oi := { dst := some 9, op := Go.Op.move (Go.Operand.tmp 0), type := 31, pos := "step.go:145", after := #[], guard := none }) (v := .pointer (some ⟨xb, 0, none⟩)) rfl (by kernel_rfl) (by kernel_rfl) (by kernel_rfl) (fun _ _ _ h => leaves_put (by decide) h) (Or.inl ⟨by rfl, ?_⟩) hHeld ?_
    · intro W hW
      obtain ⟨hW0, hW1⟩ := hW
      go_simp
    simp only [Act.put, List.setIfInBounds_toArray, List.set_cons_zero, List.set_cons_succ]
    refine wpAnyH_take (i := 6) (oi := { dst := some 10, op := Go.Op.nilCheck (Go.Operand.tmp 9), type := 0, pos := "step.go:145", after := #[{ on := 5, ground := Go.Ground.data }], guard := none }) (v := .pointer (some ⟨xb, 0, none⟩)) rfl (by kernel_rfl) (by kernel_rfl) (by kernel_rfl) (fun _ _ _ h => leaves_put (by decide) h) (Or.inl ⟨by rfl, ?_⟩) hHeld ?_
    · intro W hW
      obtain ⟨hW0, hW1⟩ := hW
      go_simp
    simp only [Act.put, List.setIfInBounds_toArray, List.set_cons_zero, List.set_cons_succ]
    refine wpAnyH_take (i := 7) (oi := { dst := some 11, op := Go.Op.fieldAddr 160 (Go.Operand.tmp 10) 0, type := 0, pos := "step.go:145", after := #[{ on := 6, ground := Go.Ground.data }], guard := none }) (v := .pointer (some ⟨xb, 0, none⟩)) rfl (by kernel_rfl) (by kernel_rfl) (by kernel_rfl) (fun _ _ _ h => leaves_put (by decide) h) (Or.inl ⟨by rfl, ?_⟩) hHeld ?_
    · intro W hW
      obtain ⟨hW0, hW1⟩ := hW
      go_simp
    simp only [Act.put, List.setIfInBounds_toArray, List.set_cons_zero, List.set_cons_succ]
    refine wpAnyH_take (i := 8) (oi := { dst := some 12, op := Go.Op.load 33 (Go.Operand.tmp 11), type := 33, pos := "step.go:145", after := #[{ on := 7, ground := Go.Ground.data }], guard := none }) (v := .pointer (some ⟨C.pb, 0, none⟩)) rfl (by kernel_rfl) (by kernel_rfl) (by kernel_rfl) (fun _ _ _ h => leaves_put (by decide) h) (Or.inl ⟨by rfl, ?_⟩) hHeld ?_
    · intro W hW
      obtain ⟨hW0, hW1⟩ := hW
      go_simp
    simp only [Act.put, List.setIfInBounds_toArray, List.set_cons_zero, List.set_cons_succ]
    refine wpAnyH_ready (rs := [9]) (by kernel_rfl) (by simp) ?_
    refine AllReadyH.cons (o := { dst := some 13, op := Go.Op.call { callee := Go.Callee.value (Go.Operand.tmp 8), args := #[Go.Operand.tmp 12], argTypes := #[33] }, type := 20, pos := "step.go:145", after := #[{ on := 4, ground := Go.Ground.data }, { on := 8, ground := Go.Ground.data }], guard := none }) rfl (fun K hK => ?_) AllReadyH.nil
    go_simp
    refine (Hcl.out _ (((Fr.refl _ _).alloc _).drew)).mono ?_
    rintro e w1 ⟨rfl, lv', hmv⟩
    obtain ⟨hr4, hs1, n1, n2, n3, n4⟩ := slot_apart HR.out hmv
    have hx1 := hmv.2.1.keep (((Fr.refl [] _).alloc _).drew.keep Hx.out (by simp)) Hap.out
    obtain ⟨y0, y1, y2, y3, y4, fy⟩ := cells5 hx1
    have Hend := hid (fun OV => run_end HR.out Hx.out hmv OV)
    have r0 := box_cell hr4
    have rf : ∀ o, w1.frozen? ⟨w.heap.size, o, none⟩ = false := fun o => frozen_heap hr4
    have ne1 : ¬ xb = w.heap.size := by omega
    have ne2 : ¬ w.heap.size = xb := by omega
    refine hK.out _ _ ⟨y0, y1⟩ (fun hHeld1 => ?_)
    try simp only [Act.put, List.setIfInBounds_toArray, List.set_cons_zero, List.set_cons_succ]
    refine wpAnyH_take (i := 10) (oi := { dst := some 14, op := Go.Op.nilCheck (Go.Operand.tmp 4), type := 0, pos := "step.go:145", after := #[{ on := 0, ground := Go.Ground.data }, { on := 0, ground := Go.Ground.phase }, { on := 1, ground := Go.Ground.phase }, { on := 2, ground := Go.Ground.phase }, { on := 3, ground := Go.Ground.phase }, { on := 4, ground := Go.Ground.phase }, { on := 5, ground := Go.Ground.phase }, { on := 6, ground := Go.Ground.phase }, { on := 7, ground := Go.Ground.phase }, { on := 8, ground := Go.Ground.phase }, { on := 9, ground := Go.Ground.phase }], guard := none }) (v := .pointer (some ⟨xb, 0, none⟩)) rfl (by kernel_rfl) (by kernel_rfl) (by kernel_rfl) (fun _ _ _ h => leaves_put (by decide) h) (Or.inl ⟨by rfl, ?_⟩) hHeld1 ?_
    · intro W hW
      obtain ⟨hW0, hW1⟩ := hW
      go_simp
    simp only [Act.put, List.setIfInBounds_toArray, List.set_cons_zero, List.set_cons_succ]
    refine wpAnyH_take (i := 11) (oi := { dst := some 15, op := Go.Op.fieldAddr 160 (Go.Operand.tmp 14) 2, type := 0, pos := "step.go:145", after := #[{ on := 10, ground := Go.Ground.data }, { on := 0, ground := Go.Ground.phase }, { on := 1, ground := Go.Ground.phase }, { on := 2, ground := Go.Ground.phase }, { on := 3, ground := Go.Ground.phase }, { on := 4, ground := Go.Ground.phase }, { on := 5, ground := Go.Ground.phase }, { on := 6, ground := Go.Ground.phase }, { on := 7, ground := Go.Ground.phase }, { on := 8, ground := Go.Ground.phase }, { on := 9, ground := Go.Ground.phase }], guard := none }) (v := .pointer (some ⟨xb, 2, none⟩)) rfl (by kernel_rfl) (by kernel_rfl) (by kernel_rfl) (fun _ _ _ h => leaves_put (by decide) h) (Or.inl ⟨by rfl, ?_⟩) hHeld1 ?_
    · intro W hW
      obtain ⟨hW0, hW1⟩ := hW
      go_simp
    simp only [Act.put, List.setIfInBounds_toArray, List.set_cons_zero, List.set_cons_succ]
    refine wpAnyH_ready (rs := [12]) (by kernel_rfl) (by simp) ?_
    refine AllReadyH.cons (o := { dst := none, op := Go.Op.store 20 (Go.Operand.tmp 15) (Go.Operand.tmp 13), type := 0, pos := "step.go:145", after := #[{ on := 11, ground := Go.Ground.data }, { on := 9, ground := Go.Ground.data }, { on := 9, ground := Go.Ground.chain }, { on := 0, ground := Go.Ground.phase }, { on := 1, ground := Go.Ground.phase }, { on := 2, ground := Go.Ground.phase }, { on := 3, ground := Go.Ground.phase }, { on := 4, ground := Go.Ground.phase }, { on := 5, ground := Go.Ground.phase }, { on := 6, ground := Go.Ground.phase }, { on := 7, ground := Go.Ground.phase }, { on := 8, ground := Go.Ground.phase }, { on := 9, ground := Go.Ground.phase }], guard := none }) rfl (fun K2 hK2 => ?_) AllReadyH.nil
    go_simp
    refine hK2.out _ _ (by constructor <;> go_simp) (fun hHeld2 => ?_)
    refine wpAnyH_done (by kernel_rfl) ?_ _
    try simp only [Act.put, List.setIfInBounds_toArray, List.set_cons_zero, List.set_cons_succ]
    clear hK hK2 hHeld hHeld1 hHeld2
    go_wp2_with fail
    refine leaves_cons (f := 159) (args := #[.pointer (some ⟨w.heap.size, 0, none⟩)]) (by simp) (by simp [go_sem]) ?_
    refine (catch_idle ⟨w.heap.size, 0, none⟩ _).mono ?_
    rintro e u' w'' ⟨rfl, rfl, rfl⟩
    have hc := fun OV => (Hend.out OV).1
    simp [Leaves, settle, results, Try.results100, go_sem, hc]
    exact (Hend.out _).2
end Go.Proofs.Ytngdmkgbldgmiaa
