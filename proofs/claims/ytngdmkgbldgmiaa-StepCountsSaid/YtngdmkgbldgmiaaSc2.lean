/-
  StepCounts: 'awake' answers true.
-/
import Derived.Test.YtngdmkgbldgmiaaSc1
namespace Go.Proofs.Ytngdmkgbldgmiaa
open Go.RowKit

theorem awake_run : ∃ a S1, ((St.again ⟨MemS.new 1, ⟨[], 0, 0, 0⟩⟩).ask (askAllocWord 3)) = .ok a S1 ∧ S1.M.count = 1 ∧ (S1.P.log.length : Int) = 1 :=
  ⟨_, _, rfl, by decide +kernel, by decide +kernel⟩

set_option maxRecDepth 100000 in
set_option maxHeartbeats 800000 in
theorem awake_does (w : World) : Calls Try.prog 15 #[] w fun e w' => e = .returned (.bool true) ∧ Fr [] w w' := by
  go_enter Try.func15, Try.ntmps15
  go_wp2_with (go_at_call 16; refine (mnew_does 1 w (by decide) (by decide)).mono ?_; rintro e w1 ⟨rfl, hM1, hf1⟩; have hb1 := Band.of_mem hM1 hf1 (by omega) (by omega); have Hb1 := hid hb1; clear hM1 hf1 hb1)
  refine (Hb1.out.bears 93 #[]).mono ?_
  rintro e w2 ⟨rfl, hb2, -⟩
  obtain ⟨a, S1, hr, hc, hl⟩ := awake_run
  have hx2 : MachAt w2 w1.heap.size (w1.heap.size + 1) (.func (.func 93) #[] #[]) ⟨.nilIface, 0, false⟩ := hb2.at (k := 0) rfl
  have Hst := hid (hb2.step (k := 0) rfl rfl (by simp [Mach.born]) (enc := fun _ => .iface 3 (.int .i64 7)) (fun _ => .inr ⟨_, _, rfl⟩) ask_not_oof (fun W => cf93 _ W) (fun W _ hR => awk_does hR))
  rw [show (Mach.born w1 93 #[]).st (MemS.new (Int.toNat 1)) = ⟨MemS.new 1, ⟨[], 0, 0, 0⟩⟩ from rfl, hr] at Hst
  have Hx2 := hid hx2
  have Hc := hid hc
  have Hl := hid hl
  clear hb2 hx2 hr hc hl Hb1
  have hta := ta_int_hit (.int .i64 7)
  go_wp2_with (first | (go_at_call 23; refine (mended_does Hx2.out).mono ?_; rintro e w3 ⟨rfl, rfl⟩) | (go_at_call 22; refine Hst.out.mono ?_; rintro e w4 ⟨rfl, lv4, hb4, -⟩; have Hb4 := hid hb4; have Hx4 : Hid (MachAt w4 w1.heap.size (w1.heap.size + 1) (.func (.func 93) #[] #[]) ⟨.iface 3 (.int .i64 7), S1.P.log.length, true⟩) := hb4.at (k := 0) rfl; clear hb4) | (go_at_call 34; refine (msteps_does Hx4.out).mono ?_; rintro e w3 ⟨rfl, rfl⟩; dsimp only; rw [Hl.out]) | (go_at_call 31; refine (mcount_does Hb4.out.team.1).mono ?_; rintro e w3 ⟨rfl, rfl⟩; dsimp only [Res.mem]; rw [Hc.out]) | (go_at_call 24; first | (refine (mout_does Hx4.out).mono ?_; rintro e w3 ⟨rfl, rfl⟩) | (refine (mout_does Hx2.out).mono ?_; rintro e w3 ⟨rfl, rfl⟩)))
  go_ret
  exact ⟨rfl, Hb4.out.fr⟩
end Go.Proofs.Ytngdmkgbldgmiaa
