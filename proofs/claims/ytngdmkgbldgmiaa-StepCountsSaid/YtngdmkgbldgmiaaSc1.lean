/-
  StepCounts: 'awake', which the law asks first.
-/
import Derived.Test.YtngdmkgbldgmiaaC1
import Derived.Test.YtngdmkgbldgmiaaSc0
namespace Go.Proofs.Ytngdmkgbldgmiaa
open Go.RowKit

theorem awk_does {C : Ctx} {lv : Value} {S : St} {w : World} (hR : Rep w C lv S) :
    Calls Try.prog 93 #[.pointer (some ⟨C.pb, 0, none⟩)] w ((S.ask (askAllocWord 3)).out C w lv (fun _ => .iface 3 (.int .i64 7))) := by
  have hp := pAllocWord hR 3
  cases ha : S.ask (askAllocWord 3) with
  | oof => exact absurd ha ask_not_oof
  | pause S1 =>
    rw [ha] at hp
    have Hp := hid hp
    clear hp ha hR
    go_enter Try.func93, Try.ntmps93
    go_wp2_with (go_at_call 94; refine Hp.out.mono ?_; rintro e w1 ⟨rfl, lv1, hmv1⟩)
    exact ⟨rfl, rfl, lv1, hmv1⟩
  | ok a S1 =>
    rw [ha] at hp
    have Hp := hid hp
    clear hp ha hR
    go_enter Try.func93, Try.ntmps93
    go_wp2_with (go_at_call 94; refine Hp.out.mono ?_; rintro e w1 ⟨rfl, lv1, hmv1⟩)
    go_ret
    exact ⟨rfl, lv1, hmv1⟩

theorem ta_int_hit (v : Value) (w : World) : (Instr.typeAssert (.iface 3 v) 20 3 true).run Try.prog w = .ok (.tuple #[v, .bool true]) w := by
  simp [Instr.typeAssert, run_underlying Try.underlying3]

theorem cf93 (caps : Array Value) (w : World) : (callFunc 93 caps).run Try.prog w = .ok (.enter 93 caps) w := by kernel_rfl
end Go.Proofs.Ytngdmkgbldgmiaa
