/-
  What a port's asks do. (Printed by gen_ports.py.)
-/
import Derived.Test.YtngdmkgbldgmiaaB3
namespace Go.Proofs.Ytngdmkgbldgmiaa
open Go.RowKit

theorem ask_not_oof {S : St} {q : MemS → Ans × MemS} : S.ask q ≠ .oof := by
  unfold St.ask
  split
  · simp
  · split <;> simp
theorem field_e (v0 : Value) (n : Int) (ok : Bool) (e : Int) (w : World) : (Instr.field 162 (.agg #[v0, .int .i64 n, .bool ok, .int .i64 e]) 3).run Try.prog w = .ok (.int .i64 e) w := by kernel_rfl

set_option maxRecDepth 100000 in
theorem pAllocWord {C : Ctx} {lv : Value} {S : St} {w : World} (hR : Rep w C lv S) (x1 : Int) :
    Calls Try.prog 94 #[.pointer (some ⟨C.pb, 0, none⟩), .int .i64 x1] w ((S.ask (askAllocWord x1)).out C w lv (fun a => .tuple #[.int .i64 a.n, .int .i64 a.e])) := by
  have hf0 : Fr [] w ((w.alloc (.cells #[.pointer (some ⟨C.pb, 0, none⟩)] 33)).alloc (.cells #[.int .i64 x1] 3)) := ((Fr.refl _ _).alloc _).alloc _
  have h0 := heap_old (.cells #[.int .i64 x1] 3) (heap_new w (.cells #[.pointer (some ⟨C.pb, 0, none⟩)] 33))
  have h1 := heap_new (w.alloc (.cells #[.pointer (some ⟨C.pb, 0, none⟩)] 33)) (.cells #[.int .i64 x1] 3)
  simp only [World.size_alloc, Nat.add_assoc, Nat.reduceAdd] at h1
  have hA := ask_any (hR.fr hf0) 157 #[.pointer (some ⟨w.heap.size, 0, none⟩), .pointer (some ⟨w.heap.size + 1, 0, none⟩)] (askAllocWord x1) (cf157 _)
    (fun W hf => litAllocWord ((hR.fr hf0).fr hf).1 ((hR.fr hf0).fr hf).2.1 rfl (hf.keep h0 (by simp)) (hf.keep h1 (by simp)))
  have hmf : ∀ (fn : Fn) (first cap : Array Value) (w : World), (Instr.makeFunc fn first cap).run Try.prog w = .ok (.func fn first cap) w := fun _ _ _ _ => rfl
  have Hf0 := hid hf0
  clear h0 h1 hf0 hR
  cases hr : S.ask (askAllocWord x1) with
  | oof => exact absurd hr ask_not_oof
  | pause S1 =>
    rw [hr] at hA
    have HA := hid hA
    clear hA hr
    go_enter Try.func94, Try.ntmps94
    go_wp2_with (go_at_call 96; refine HA.out.mono ?_; rintro e w1 ⟨rfl, lv', hmv⟩)
    exact ⟨rfl, rfl, lv', hmv.pre Hf0.out⟩
  | ok a S1 =>
    rw [hr] at hA
    clear hr
    have hval : a.val = .agg #[encV a.b, .int .i64 a.n, .bool a.ok, .int .i64 a.e] := rfl
    have HA := hid hA
    unfold Res.out at HA ⊢
    dsimp only at HA ⊢
    rw [hval] at HA
    clear hval hA
    have hbv := encV_cases a.b
    generalize encV a.b = bv at hbv HA
    rcases hbv with rfl | ⟨t, x, rfl⟩
    all_goals
      go_enter Try.func94, Try.ntmps94
      go_wp2_with (go_at_call 96; refine HA.out.mono ?_; rintro e w1 ⟨rfl, lv', hmv⟩; have Hmv := hid hmv; clear hmv)
      go_quiet (fail)
      go_wp2_with fail
      go_ret2
      exact ⟨rfl, lv', (Hmv.out.pre Hf0.out).post (T := []) (((Fr.refl _ _).alloc _).drewN _) (by simp)⟩

set_option maxRecDepth 100000 in
theorem pAlloc {C : Ctx} {lv : Value} {S : St} {w : World} (hR : Rep w C lv S) (x1 : Option Cont) :
    Calls Try.prog 127 #[.pointer (some ⟨C.pb, 0, none⟩), encV x1] w ((S.ask (askAlloc x1)).out C w lv (fun a => .tuple #[.int .i64 a.n, .int .i64 a.e])) := by
  have hf0 : Fr [] w ((w.alloc (.cells #[.pointer (some ⟨C.pb, 0, none⟩)] 33)).alloc (.cells #[encV x1] 20)) := ((Fr.refl _ _).alloc _).alloc _
  have h0 := heap_old (.cells #[encV x1] 20) (heap_new w (.cells #[.pointer (some ⟨C.pb, 0, none⟩)] 33))
  have h1 := heap_new (w.alloc (.cells #[.pointer (some ⟨C.pb, 0, none⟩)] 33)) (.cells #[encV x1] 20)
  simp only [World.size_alloc, Nat.add_assoc, Nat.reduceAdd] at h1
  have hA := ask_any (hR.fr hf0) 172 #[.pointer (some ⟨w.heap.size, 0, none⟩), .pointer (some ⟨w.heap.size + 1, 0, none⟩)] (askAlloc x1) (cf172 _)
    (fun W hf => litAlloc ((hR.fr hf0).fr hf).1 ((hR.fr hf0).fr hf).2.1 rfl (hf.keep h0 (by simp)) (hf.keep h1 (by simp)))
  have hmf : ∀ (fn : Fn) (first cap : Array Value) (w : World), (Instr.makeFunc fn first cap).run Try.prog w = .ok (.func fn first cap) w := fun _ _ _ _ => rfl
  have Hf0 := hid hf0
  clear h0 h1 hf0 hR
  cases hr : S.ask (askAlloc x1) with
  | oof => exact absurd hr ask_not_oof
  | pause S1 =>
    rw [hr] at hA
    have HA := hid hA
    clear hA hr
    have hy := encV_cases x1
    generalize encV x1 = y1 at hy HA Hf0 ⊢
    rcases hy with rfl | ⟨t1, z1, rfl⟩
    all_goals
      go_enter Try.func127, Try.ntmps127
      go_wp2_with (go_at_call 96; refine HA.out.mono ?_; rintro e w1 ⟨rfl, lv', hmv⟩)
      exact ⟨rfl, rfl, lv', hmv.pre Hf0.out⟩
  | ok a S1 =>
    rw [hr] at hA
    clear hr
    have hval : a.val = .agg #[encV a.b, .int .i64 a.n, .bool a.ok, .int .i64 a.e] := rfl
    have HA := hid hA
    unfold Res.out at HA ⊢
    dsimp only at HA ⊢
    rw [hval] at HA
    clear hval hA
    have hy := encV_cases x1
    generalize encV x1 = y1 at hy HA Hf0 ⊢
    rcases hy with rfl | ⟨t1, z1, rfl⟩
    all_goals
      have hbv := encV_cases a.b
      generalize encV a.b = bv at hbv HA
      rcases hbv with rfl | ⟨t, x, rfl⟩
      all_goals
        go_enter Try.func127, Try.ntmps127
        go_wp2_with (go_at_call 96; refine HA.out.mono ?_; rintro e w1 ⟨rfl, lv', hmv⟩; have Hmv := hid hmv; clear hmv)
        go_quiet (fail)
        go_wp2_with fail
        go_ret2
        exact ⟨rfl, lv', (Hmv.out.pre Hf0.out).post (T := []) (((Fr.refl _ _).alloc _).drewN _) (by simp)⟩

set_option maxRecDepth 100000 in
theorem pLoad {C : Ctx} {lv : Value} {S : St} {w : World} (hR : Rep w C lv S) (x1 : Int) :
    Calls Try.prog 169 #[.pointer (some ⟨C.pb, 0, none⟩), .int .i64 x1] w ((S.ask (askLoad x1)).out C w lv (fun a => .tuple #[encV a.b, .int .i64 a.e])) := by
  have hf0 : Fr [] w ((w.alloc (.cells #[.pointer (some ⟨C.pb, 0, none⟩)] 33)).alloc (.cells #[.int .i64 x1] 3)) := ((Fr.refl _ _).alloc _).alloc _
  have h0 := heap_old (.cells #[.int .i64 x1] 3) (heap_new w (.cells #[.pointer (some ⟨C.pb, 0, none⟩)] 33))
  have h1 := heap_new (w.alloc (.cells #[.pointer (some ⟨C.pb, 0, none⟩)] 33)) (.cells #[.int .i64 x1] 3)
  simp only [World.size_alloc, Nat.add_assoc, Nat.reduceAdd] at h1
  have hA := ask_any (hR.fr hf0) 189 #[.pointer (some ⟨w.heap.size, 0, none⟩), .pointer (some ⟨w.heap.size + 1, 0, none⟩)] (askLoad x1) (cf189 _)
    (fun W hf => litLoad ((hR.fr hf0).fr hf).1 ((hR.fr hf0).fr hf).2.1 rfl (hf.keep h0 (by simp)) (hf.keep h1 (by simp)))
  have hmf : ∀ (fn : Fn) (first cap : Array Value) (w : World), (Instr.makeFunc fn first cap).run Try.prog w = .ok (.func fn first cap) w := fun _ _ _ _ => rfl
  have Hf0 := hid hf0
  clear h0 h1 hf0 hR
  cases hr : S.ask (askLoad x1) with
  | oof => exact absurd hr ask_not_oof
  | pause S1 =>
    rw [hr] at hA
    have HA := hid hA
    clear hA hr
    go_enter Try.func169, Try.ntmps169
    go_wp2_with (go_at_call 96; refine HA.out.mono ?_; rintro e w1 ⟨rfl, lv', hmv⟩)
    exact ⟨rfl, rfl, lv', hmv.pre Hf0.out⟩
  | ok a S1 =>
    rw [hr] at hA
    clear hr
    have hval : a.val = .agg #[encV a.b, .int .i64 a.n, .bool a.ok, .int .i64 a.e] := rfl
    have HA := hid hA
    unfold Res.out at HA ⊢
    dsimp only at HA ⊢
    rw [hval] at HA
    clear hval hA
    have hbv := encV_cases a.b
    generalize encV a.b = bv at hbv HA ⊢
    rcases hbv with rfl | ⟨t, x, rfl⟩
    all_goals
      go_enter Try.func169, Try.ntmps169
      go_wp2_with (go_at_call 96; refine HA.out.mono ?_; rintro e w1 ⟨rfl, lv', hmv⟩; have Hmv := hid hmv; clear hmv)
      go_quiet (fail)
      go_wp2_with fail
      go_ret2
      exact ⟨rfl, lv', (Hmv.out.pre Hf0.out).post (T := []) (((Fr.refl _ _).alloc _).drewN _) (by simp)⟩

set_option maxRecDepth 100000 in
theorem pWord {C : Ctx} {lv : Value} {S : St} {w : World} (hR : Rep w C lv S) (x1 : Int) :
    Calls Try.prog 20 #[.pointer (some ⟨C.pb, 0, none⟩), .int .i64 x1] w ((S.ask (askWord x1)).out C w lv (fun a => .tuple #[.int .i64 a.n, .int .i64 a.e])) := by
  have hf0 : Fr [] w ((w.alloc (.cells #[.pointer (some ⟨C.pb, 0, none⟩)] 33)).alloc (.cells #[.int .i64 x1] 3)) := ((Fr.refl _ _).alloc _).alloc _
  have h0 := heap_old (.cells #[.int .i64 x1] 3) (heap_new w (.cells #[.pointer (some ⟨C.pb, 0, none⟩)] 33))
  have h1 := heap_new (w.alloc (.cells #[.pointer (some ⟨C.pb, 0, none⟩)] 33)) (.cells #[.int .i64 x1] 3)
  simp only [World.size_alloc, Nat.add_assoc, Nat.reduceAdd] at h1
  have hA := ask_any (hR.fr hf0) 97 #[.pointer (some ⟨w.heap.size, 0, none⟩), .pointer (some ⟨w.heap.size + 1, 0, none⟩)] (askWord x1) (cf97 _)
    (fun W hf => litWord ((hR.fr hf0).fr hf).1 ((hR.fr hf0).fr hf).2.1 rfl (hf.keep h0 (by simp)) (hf.keep h1 (by simp)))
  have hmf : ∀ (fn : Fn) (first cap : Array Value) (w : World), (Instr.makeFunc fn first cap).run Try.prog w = .ok (.func fn first cap) w := fun _ _ _ _ => rfl
  have Hf0 := hid hf0
  clear h0 h1 hf0 hR
  cases hr : S.ask (askWord x1) with
  | oof => exact absurd hr ask_not_oof
  | pause S1 =>
    rw [hr] at hA
    have HA := hid hA
    clear hA hr
    go_enter Try.func20, Try.ntmps20
    go_wp2_with (go_at_call 96; refine HA.out.mono ?_; rintro e w1 ⟨rfl, lv', hmv⟩)
    exact ⟨rfl, rfl, lv', hmv.pre Hf0.out⟩
  | ok a S1 =>
    rw [hr] at hA
    clear hr
    have hval : a.val = .agg #[encV a.b, .int .i64 a.n, .bool a.ok, .int .i64 a.e] := rfl
    have HA := hid hA
    unfold Res.out at HA ⊢
    dsimp only at HA ⊢
    rw [hval] at HA
    clear hval hA
    have hbv := encV_cases a.b
    generalize encV a.b = bv at hbv HA
    rcases hbv with rfl | ⟨t, x, rfl⟩
    all_goals
      go_enter Try.func20, Try.ntmps20
      go_wp2_with (go_at_call 96; refine HA.out.mono ?_; rintro e w1 ⟨rfl, lv', hmv⟩; have Hmv := hid hmv; clear hmv)
      go_quiet (fail)
      go_wp2_with fail
      go_ret2
      exact ⟨rfl, lv', (Hmv.out.pre Hf0.out).post (T := []) (((Fr.refl _ _).alloc _).drewN _) (by simp)⟩

set_option maxRecDepth 100000 in
theorem pStore {C : Ctx} {lv : Value} {S : St} {w : World} (hR : Rep w C lv S) (x1 : Int) (x2 : Int) :
    Calls Try.prog 152 #[.pointer (some ⟨C.pb, 0, none⟩), .int .i64 x1, .int .i64 x2] w ((S.ask (askStore x1 x2)).out C w lv (fun a => .int .i64 a.e)) := by
  have hf0 : Fr [] w (((w.alloc (.cells #[.pointer (some ⟨C.pb, 0, none⟩)] 33)).alloc (.cells #[.int .i64 x1] 3)).alloc (.cells #[.int .i64 x2] 3)) := (((Fr.refl _ _).alloc _).alloc _).alloc _
  have h0 := heap_old (.cells #[.int .i64 x2] 3) (heap_old (.cells #[.int .i64 x1] 3) (heap_new w (.cells #[.pointer (some ⟨C.pb, 0, none⟩)] 33)))
  have h1 := heap_old (.cells #[.int .i64 x2] 3) (heap_new (w.alloc (.cells #[.pointer (some ⟨C.pb, 0, none⟩)] 33)) (.cells #[.int .i64 x1] 3))
  simp only [World.size_alloc, Nat.add_assoc, Nat.reduceAdd] at h1
  have h2 := heap_new ((w.alloc (.cells #[.pointer (some ⟨C.pb, 0, none⟩)] 33)).alloc (.cells #[.int .i64 x1] 3)) (.cells #[.int .i64 x2] 3)
  simp only [World.size_alloc, Nat.add_assoc, Nat.reduceAdd] at h2
  have hA := ask_any (hR.fr hf0) 178 #[.pointer (some ⟨w.heap.size, 0, none⟩), .pointer (some ⟨w.heap.size + 1, 0, none⟩), .pointer (some ⟨w.heap.size + 2, 0, none⟩)] (askStore x1 x2) (cf178 _)
    (fun W hf => litStore ((hR.fr hf0).fr hf).1 ((hR.fr hf0).fr hf).2.1 rfl (hf.keep h0 (by simp)) (hf.keep h1 (by simp)) (hf.keep h2 (by simp)))
  have hmf : ∀ (fn : Fn) (first cap : Array Value) (w : World), (Instr.makeFunc fn first cap).run Try.prog w = .ok (.func fn first cap) w := fun _ _ _ _ => rfl
  have hfd := field_e
  have Hf0 := hid hf0
  clear h0 h1 h2 hf0 hR
  cases hr : S.ask (askStore x1 x2) with
  | oof => exact absurd hr ask_not_oof
  | pause S1 =>
    rw [hr] at hA
    have HA := hid hA
    clear hA hr
    go_enter Try.func152, Try.ntmps152
    go_wp2_with (go_at_call 96; refine HA.out.mono ?_; rintro e w1 ⟨rfl, lv', hmv⟩)
    exact ⟨rfl, rfl, lv', hmv.pre Hf0.out⟩
  | ok a S1 =>
    rw [hr] at hA
    clear hr
    have hval : a.val = .agg #[encV a.b, .int .i64 a.n, .bool a.ok, .int .i64 a.e] := rfl
    have HA := hid hA
    unfold Res.out at HA ⊢
    dsimp only at HA ⊢
    rw [hval] at HA
    clear hval hA
    have hbv := encV_cases a.b
    generalize encV a.b = bv at hbv HA
    rcases hbv with rfl | ⟨t, x, rfl⟩
    all_goals
      go_enter Try.func152, Try.ntmps152
      go_wp2_with (go_at_call 96; refine HA.out.mono ?_; rintro e w1 ⟨rfl, lv', hmv⟩; have Hmv := hid hmv; clear hmv)
      go_ret
      exact ⟨rfl, lv', Hmv.out.pre Hf0.out⟩

set_option maxRecDepth 100000 in
theorem pSwap {C : Ctx} {lv : Value} {S : St} {w : World} (hR : Rep w C lv S) (x1 : Int) (x2 : Int) (x3 : Int) :
    Calls Try.prog 21 #[.pointer (some ⟨C.pb, 0, none⟩), .int .i64 x1, .int .i64 x2, .int .i64 x3] w ((S.ask (askSwap x1 x2 x3)).out C w lv (fun a => .tuple #[.bool a.ok, .int .i64 a.e])) := by
  have hf0 : Fr [] w ((((w.alloc (.cells #[.pointer (some ⟨C.pb, 0, none⟩)] 33)).alloc (.cells #[.int .i64 x1] 3)).alloc (.cells #[.int .i64 x2] 3)).alloc (.cells #[.int .i64 x3] 3)) := ((((Fr.refl _ _).alloc _).alloc _).alloc _).alloc _
  have h0 := heap_old (.cells #[.int .i64 x3] 3) (heap_old (.cells #[.int .i64 x2] 3) (heap_old (.cells #[.int .i64 x1] 3) (heap_new w (.cells #[.pointer (some ⟨C.pb, 0, none⟩)] 33))))
  have h1 := heap_old (.cells #[.int .i64 x3] 3) (heap_old (.cells #[.int .i64 x2] 3) (heap_new (w.alloc (.cells #[.pointer (some ⟨C.pb, 0, none⟩)] 33)) (.cells #[.int .i64 x1] 3)))
  simp only [World.size_alloc, Nat.add_assoc, Nat.reduceAdd] at h1
  have h2 := heap_old (.cells #[.int .i64 x3] 3) (heap_new ((w.alloc (.cells #[.pointer (some ⟨C.pb, 0, none⟩)] 33)).alloc (.cells #[.int .i64 x1] 3)) (.cells #[.int .i64 x2] 3))
  simp only [World.size_alloc, Nat.add_assoc, Nat.reduceAdd] at h2
  have h3 := heap_new (((w.alloc (.cells #[.pointer (some ⟨C.pb, 0, none⟩)] 33)).alloc (.cells #[.int .i64 x1] 3)).alloc (.cells #[.int .i64 x2] 3)) (.cells #[.int .i64 x3] 3)
  simp only [World.size_alloc, Nat.add_assoc, Nat.reduceAdd] at h3
  have hA := ask_any (hR.fr hf0) 98 #[.pointer (some ⟨w.heap.size, 0, none⟩), .pointer (some ⟨w.heap.size + 1, 0, none⟩), .pointer (some ⟨w.heap.size + 2, 0, none⟩), .pointer (some ⟨w.heap.size + 3, 0, none⟩)] (askSwap x1 x2 x3) (cf98 _)
    (fun W hf => litSwap ((hR.fr hf0).fr hf).1 ((hR.fr hf0).fr hf).2.1 rfl (hf.keep h0 (by simp)) (hf.keep h1 (by simp)) (hf.keep h2 (by simp)) (hf.keep h3 (by simp)))
  have hmf : ∀ (fn : Fn) (first cap : Array Value) (w : World), (Instr.makeFunc fn first cap).run Try.prog w = .ok (.func fn first cap) w := fun _ _ _ _ => rfl
  have Hf0 := hid hf0
  clear h0 h1 h2 h3 hf0 hR
  cases hr : S.ask (askSwap x1 x2 x3) with
  | oof => exact absurd hr ask_not_oof
  | pause S1 =>
    rw [hr] at hA
    have HA := hid hA
    clear hA hr
    go_enter Try.func21, Try.ntmps21
    go_wp2_with (go_at_call 96; refine HA.out.mono ?_; rintro e w1 ⟨rfl, lv', hmv⟩)
    exact ⟨rfl, rfl, lv', hmv.pre Hf0.out⟩
  | ok a S1 =>
    rw [hr] at hA
    clear hr
    have hval : a.val = .agg #[encV a.b, .int .i64 a.n, .bool a.ok, .int .i64 a.e] := rfl
    have HA := hid hA
    unfold Res.out at HA ⊢
    dsimp only at HA ⊢
    rw [hval] at HA
    clear hval hA
    have hbv := encV_cases a.b
    generalize encV a.b = bv at hbv HA
    rcases hbv with rfl | ⟨t, x, rfl⟩
    all_goals
      go_enter Try.func21, Try.ntmps21
      go_wp2_with (go_at_call 96; refine HA.out.mono ?_; rintro e w1 ⟨rfl, lv', hmv⟩; have Hmv := hid hmv; clear hmv)
      go_quiet (fail)
      go_wp2_with fail
      go_ret2
      exact ⟨rfl, lv', (Hmv.out.pre Hf0.out).post (T := []) (((Fr.refl _ _).alloc _).drewN _) (by simp)⟩

set_option maxRecDepth 100000 in
theorem pFree {C : Ctx} {lv : Value} {S : St} {w : World} (hR : Rep w C lv S) (x1 : Int) :
    Calls Try.prog 128 #[.pointer (some ⟨C.pb, 0, none⟩), .int .i64 x1] w ((S.ask (askFree x1)).out C w lv (fun a => .int .i64 a.e)) := by
  have hf0 : Fr [] w ((w.alloc (.cells #[.pointer (some ⟨C.pb, 0, none⟩)] 33)).alloc (.cells #[.int .i64 x1] 3)) := ((Fr.refl _ _).alloc _).alloc _
  have h0 := heap_old (.cells #[.int .i64 x1] 3) (heap_new w (.cells #[.pointer (some ⟨C.pb, 0, none⟩)] 33))
  have h1 := heap_new (w.alloc (.cells #[.pointer (some ⟨C.pb, 0, none⟩)] 33)) (.cells #[.int .i64 x1] 3)
  simp only [World.size_alloc, Nat.add_assoc, Nat.reduceAdd] at h1
  have hA := ask_any (hR.fr hf0) 174 #[.pointer (some ⟨w.heap.size, 0, none⟩), .pointer (some ⟨w.heap.size + 1, 0, none⟩)] (askFree x1) (cf174 _)
    (fun W hf => litFree ((hR.fr hf0).fr hf).1 ((hR.fr hf0).fr hf).2.1 rfl (hf.keep h0 (by simp)) (hf.keep h1 (by simp)))
  have hmf : ∀ (fn : Fn) (first cap : Array Value) (w : World), (Instr.makeFunc fn first cap).run Try.prog w = .ok (.func fn first cap) w := fun _ _ _ _ => rfl
  have hfd := field_e
  have Hf0 := hid hf0
  clear h0 h1 hf0 hR
  cases hr : S.ask (askFree x1) with
  | oof => exact absurd hr ask_not_oof
  | pause S1 =>
    rw [hr] at hA
    have HA := hid hA
    clear hA hr
    go_enter Try.func128, Try.ntmps128
    go_wp2_with (go_at_call 96; refine HA.out.mono ?_; rintro e w1 ⟨rfl, lv', hmv⟩)
    exact ⟨rfl, rfl, lv', hmv.pre Hf0.out⟩
  | ok a S1 =>
    rw [hr] at hA
    clear hr
    have hval : a.val = .agg #[encV a.b, .int .i64 a.n, .bool a.ok, .int .i64 a.e] := rfl
    have HA := hid hA
    unfold Res.out at HA ⊢
    dsimp only at HA ⊢
    rw [hval] at HA
    clear hval hA
    have hbv := encV_cases a.b
    generalize encV a.b = bv at hbv HA
    rcases hbv with rfl | ⟨t, x, rfl⟩
    all_goals
      go_enter Try.func128, Try.ntmps128
      go_wp2_with (go_at_call 96; refine HA.out.mono ?_; rintro e w1 ⟨rfl, lv', hmv⟩; have Hmv := hid hmv; clear hmv)
      go_ret
      exact ⟨rfl, lv', Hmv.out.pre Hf0.out⟩

set_option maxRecDepth 100000 in
theorem pRetire {C : Ctx} {lv : Value} {S : St} {w : World} (hR : Rep w C lv S) (x1 : Int) (x2 : Int) :
    Calls Try.prog 162 #[.pointer (some ⟨C.pb, 0, none⟩), .int .i64 x1, .int .i64 x2] w ((S.ask (askRetire x1 x2)).out C w lv (fun a => .int .i64 a.e)) := by
  have hf0 : Fr [] w (((w.alloc (.cells #[.pointer (some ⟨C.pb, 0, none⟩)] 33)).alloc (.cells #[.int .i64 x1] 3)).alloc (.cells #[.int .i64 x2] 3)) := (((Fr.refl _ _).alloc _).alloc _).alloc _
  have h0 := heap_old (.cells #[.int .i64 x2] 3) (heap_old (.cells #[.int .i64 x1] 3) (heap_new w (.cells #[.pointer (some ⟨C.pb, 0, none⟩)] 33)))
  have h1 := heap_old (.cells #[.int .i64 x2] 3) (heap_new (w.alloc (.cells #[.pointer (some ⟨C.pb, 0, none⟩)] 33)) (.cells #[.int .i64 x1] 3))
  simp only [World.size_alloc, Nat.add_assoc, Nat.reduceAdd] at h1
  have h2 := heap_new ((w.alloc (.cells #[.pointer (some ⟨C.pb, 0, none⟩)] 33)).alloc (.cells #[.int .i64 x1] 3)) (.cells #[.int .i64 x2] 3)
  simp only [World.size_alloc, Nat.add_assoc, Nat.reduceAdd] at h2
  have hA := ask_any (hR.fr hf0) 184 #[.pointer (some ⟨w.heap.size, 0, none⟩), .pointer (some ⟨w.heap.size + 1, 0, none⟩), .pointer (some ⟨w.heap.size + 2, 0, none⟩)] (askRetire x1 x2) (cf184 _)
    (fun W hf => litRetire ((hR.fr hf0).fr hf).1 ((hR.fr hf0).fr hf).2.1 rfl (hf.keep h0 (by simp)) (hf.keep h1 (by simp)) (hf.keep h2 (by simp)))
  have hmf : ∀ (fn : Fn) (first cap : Array Value) (w : World), (Instr.makeFunc fn first cap).run Try.prog w = .ok (.func fn first cap) w := fun _ _ _ _ => rfl
  have hfd := field_e
  have Hf0 := hid hf0
  clear h0 h1 h2 hf0 hR
  cases hr : S.ask (askRetire x1 x2) with
  | oof => exact absurd hr ask_not_oof
  | pause S1 =>
    rw [hr] at hA
    have HA := hid hA
    clear hA hr
    go_enter Try.func162, Try.ntmps162
    go_wp2_with (go_at_call 96; refine HA.out.mono ?_; rintro e w1 ⟨rfl, lv', hmv⟩)
    exact ⟨rfl, rfl, lv', hmv.pre Hf0.out⟩
  | ok a S1 =>
    rw [hr] at hA
    clear hr
    have hval : a.val = .agg #[encV a.b, .int .i64 a.n, .bool a.ok, .int .i64 a.e] := rfl
    have HA := hid hA
    unfold Res.out at HA ⊢
    dsimp only at HA ⊢
    rw [hval] at HA
    clear hval hA
    have hbv := encV_cases a.b
    generalize encV a.b = bv at hbv HA
    rcases hbv with rfl | ⟨t, x, rfl⟩
    all_goals
      go_enter Try.func162, Try.ntmps162
      go_wp2_with (go_at_call 96; refine HA.out.mono ?_; rintro e w1 ⟨rfl, lv', hmv⟩; have Hmv := hid hmv; clear hmv)
      go_ret
      exact ⟨rfl, lv', Hmv.out.pre Hf0.out⟩

set_option maxRecDepth 100000 in
theorem pReap {C : Ctx} {lv : Value} {S : St} {w : World} (hR : Rep w C lv S) (x1 : Int) (x2 : Int) :
    Calls Try.prog 163 #[.pointer (some ⟨C.pb, 0, none⟩), .int .i64 x1, .int .i64 x2] w ((S.ask (askReap x1 x2)).out C w lv (fun a => .tuple #[.bool a.ok, .int .i64 a.e])) := by
  have hf0 : Fr [] w (((w.alloc (.cells #[.pointer (some ⟨C.pb, 0, none⟩)] 33)).alloc (.cells #[.int .i64 x1] 3)).alloc (.cells #[.int .i64 x2] 3)) := (((Fr.refl _ _).alloc _).alloc _).alloc _
  have h0 := heap_old (.cells #[.int .i64 x2] 3) (heap_old (.cells #[.int .i64 x1] 3) (heap_new w (.cells #[.pointer (some ⟨C.pb, 0, none⟩)] 33)))
  have h1 := heap_old (.cells #[.int .i64 x2] 3) (heap_new (w.alloc (.cells #[.pointer (some ⟨C.pb, 0, none⟩)] 33)) (.cells #[.int .i64 x1] 3))
  simp only [World.size_alloc, Nat.add_assoc, Nat.reduceAdd] at h1
  have h2 := heap_new ((w.alloc (.cells #[.pointer (some ⟨C.pb, 0, none⟩)] 33)).alloc (.cells #[.int .i64 x1] 3)) (.cells #[.int .i64 x2] 3)
  simp only [World.size_alloc, Nat.add_assoc, Nat.reduceAdd] at h2
  have hA := ask_any (hR.fr hf0) 186 #[.pointer (some ⟨w.heap.size, 0, none⟩), .pointer (some ⟨w.heap.size + 1, 0, none⟩), .pointer (some ⟨w.heap.size + 2, 0, none⟩)] (askReap x1 x2) (cf186 _)
    (fun W hf => litReap ((hR.fr hf0).fr hf).1 ((hR.fr hf0).fr hf).2.1 rfl (hf.keep h0 (by simp)) (hf.keep h1 (by simp)) (hf.keep h2 (by simp)))
  have hmf : ∀ (fn : Fn) (first cap : Array Value) (w : World), (Instr.makeFunc fn first cap).run Try.prog w = .ok (.func fn first cap) w := fun _ _ _ _ => rfl
  have Hf0 := hid hf0
  clear h0 h1 h2 hf0 hR
  cases hr : S.ask (askReap x1 x2) with
  | oof => exact absurd hr ask_not_oof
  | pause S1 =>
    rw [hr] at hA
    have HA := hid hA
    clear hA hr
    go_enter Try.func163, Try.ntmps163
    go_wp2_with (go_at_call 96; refine HA.out.mono ?_; rintro e w1 ⟨rfl, lv', hmv⟩)
    exact ⟨rfl, rfl, lv', hmv.pre Hf0.out⟩
  | ok a S1 =>
    rw [hr] at hA
    clear hr
    have hval : a.val = .agg #[encV a.b, .int .i64 a.n, .bool a.ok, .int .i64 a.e] := rfl
    have HA := hid hA
    unfold Res.out at HA ⊢
    dsimp only at HA ⊢
    rw [hval] at HA
    clear hval hA
    have hbv := encV_cases a.b
    generalize encV a.b = bv at hbv HA
    rcases hbv with rfl | ⟨t, x, rfl⟩
    all_goals
      go_enter Try.func163, Try.ntmps163
      go_wp2_with (go_at_call 96; refine HA.out.mono ?_; rintro e w1 ⟨rfl, lv', hmv⟩; have Hmv := hid hmv; clear hmv)
      go_quiet (fail)
      go_wp2_with fail
      go_ret2
      exact ⟨rfl, lv', (Hmv.out.pre Hf0.out).post (T := []) (((Fr.refl _ _).alloc _).drewN _) (by simp)⟩
end Go.Proofs.Ytngdmkgbldgmiaa
