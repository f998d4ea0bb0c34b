/-
  StepCounts' machines: what their function does by a port.
-/
import Derived.Test.YtngdmkgbldgmiaaC0
import Derived.Deep.LoopGhost
namespace Go.Proofs.Ytngdmkgbldgmiaa
open Go.RowKit

def Res.bind {α β : Type} (r : Res α) (f : α → St → Res β) : Res β :=
  match r with
  | .ok a S => f a S
  | .pause S => .pause S
  | .oof => .oof

/-- Adds 1 to a word, as often as it must until it was his. -/
def cntP (h : Int) : Nat → St → Res Int
  | 0, _ => .oof
  | k + 1, S => (S.ask (askWord h)).bind fun a S1 =>
      if a.e = 0 then (S1.ask (askSwap h a.n (wrap64 (a.n + 1)))).bind fun b S2 => if b.ok then .ok a.n S2 else cntP h k S2
      else .ok (-1) S1

theorem box_kept {C : Ctx} {lv lv' : Value} {S S' : St} {w w' : World} {hb : Nat} {v : Value} (hR : Rep w C lv S) (hh : w.heap[hb]? = some (.cells #[v] 3 (0, 0))) (hmv : Moves C w lv w' lv' S') : w'.heap[hb]? = some (.cells #[v] 3 (0, 0)) := by
  refine hmv.2.1.keep hh ?_
  simp only [List.mem_cons, not_or]
  refine ⟨ne_types hh hR.1.1 (by decide), ne_types hh hR.1.2.1 (by decide), ne_types hh hR.2.1 (by decide), fun hm => ?_⟩
  obtain ⟨_, h⟩ := lvb_heap hR.2 hm
  exact ne_types hh h (by decide) rfl

set_option maxRecDepth 100000 in
set_option maxHeartbeats 1600000 in
theorem counts_does {C : Ctx} {lv : Value} {S : St} {w : World} {hb : Nat} {h : Int} (hR : Rep w C lv S) (hh : w.heap[hb]? = some (.cells #[.int .i64 h] 3 (0, 0))) (k : Nat) (hne : cntP h k S ≠ .oof) :
    Calls Try.prog 19 #[.pointer (some ⟨C.pb, 0, none⟩), .pointer (some ⟨hb, 0, none⟩)] w ((cntP h k S).out C w lv (fun v => .iface 3 (.int .i64 v))) := by
  have HR := hid hR
  have Hh := hid hh
  obtain ⟨r, hr⟩ : ∃ r, r = cntP h k S := ⟨_, rfl⟩
  rw [← hr] at hne ⊢
  have Hr := hid hr
  have Hne := hid hne
  have c0 := box_cell hh
  clear hR hh hr hne
  go_enter Try.func19, Try.ntmps19
  go_wp2_with fail
  go_loopg [] k (fun kq w' => ∃ S' lv', Hid (Moves C w lv w' lv' S') ∧ Hid (cntP h kq S' = r) ∧ Hid (kq ≤ k))
  case atStart => exact ⟨S, lv, Moves.refl HR.out, Hr.out.symm, Nat.le_refl _⟩
  case round =>
    obtain ⟨S', lv', hmv, hrun, hle⟩ := hrel
    have hrep := hmv.out.1
    have hkeep : wr.heap[hb]? = some (.cells #[.int .i64 h] 3 (0, 0)) := box_kept HR.out Hh.out hmv.out
    have c1 := box_cell hkeep
    have Hkeep := hid hkeep
    clear hkeep c0
    cases gk with
    | zero => exact absurd hrun.out.symm Hne.out
    | succ g =>
      have hrun' := hrun.out
      simp only [cntP] at hrun'
      have hpw := pWord hrep h
      cases ha : S'.ask (askWord h) with
      | oof => exact absurd ha ask_not_oof
      | pause S1 =>
        rw [ha] at hrun' hpw
        have Hpw := hid hpw
        have Hrun := hid (show Res.pause S1 = r from hrun')
        clear hrun' hpw ha hrep hrun
        go_wp2_with (go_at_call 20; refine Hpw.out.mono ?_; rintro e w1 ⟨rfl, lv1, hmv1⟩)
        refine ⟨rfl, ?_⟩
        rw [← Hrun.out]
        exact ⟨rfl, lv1, hmv.out.trans hmv1⟩
      | ok a S1 =>
        rw [ha] at hrun' hpw
        simp only [Res.bind] at hrun'
        have Hpw : Hid (Calls Try.prog 20 #[.pointer (some ⟨C.pb, 0, none⟩), .int .i64 h] wr fun e w1 => e = .returned (.tuple #[.int .i64 a.n, .int .i64 a.e]) ∧ ∃ lv1, Moves C wr lv' w1 lv1 S1) := hpw
        clear hpw ha hrep hrun
        by_cases he : a.e = 0
        · rw [if_pos he] at hrun'
          rw [he] at Hpw
          clear he
          obtain ⟨n, hn⟩ : ∃ n, n = a.n := ⟨_, rfl⟩
          rw [← hn] at hrun' Hpw
          clear hn
          cases hb2 : S1.ask (askSwap h n (wrap64 (n + 1))) with
          | oof => exact absurd hb2 ask_not_oof
          | pause S2 =>
            rw [hb2] at hrun'
            have Hb := hid hb2
            have Hrun := hid (show Res.pause S2 = r from hrun')
            clear hrun' hb2
            go_wp2_with (first | (go_at_call 20; refine Hpw.out.mono ?_; rintro e w1 ⟨rfl, lv1, hmv1⟩; have c2 := box_cell (box_kept hmv.out.1 Hkeep.out hmv1); have hps := pSwap hmv1.1 h n (wrap64 (n + 1)); rw [Hb.out] at hps; have Hps := hid hps; have Hmv1 := hid hmv1; clear hps hmv1) | (go_at_call 21; refine Hps.out.mono ?_; rintro e w2 ⟨rfl, lv2, hmv2⟩))
            refine ⟨rfl, ?_⟩
            rw [← Hrun.out]
            exact ⟨rfl, lv2, (hmv.out.trans Hmv1.out).trans hmv2⟩
          | ok b S2 =>
            rw [hb2] at hrun'
            simp only [Res.bind] at hrun'
            have Hb := hid hb2
            clear hb2
            cases hok : b.ok with
            | true =>
              rw [hok, if_pos rfl] at hrun'
              have Hok := hid hok
              have Hrun := hid hrun'
              clear hrun' hok
              go_wp2_with (first | (go_at_call 20; refine Hpw.out.mono ?_; rintro e w1 ⟨rfl, lv1, hmv1⟩; have c2 := box_cell (box_kept hmv.out.1 Hkeep.out hmv1); have hps := pSwap hmv1.1 h n (wrap64 (n + 1)); rw [Hb.out] at hps; unfold Res.out at hps; dsimp only at hps; rw [Hok.out] at hps; have Hps := hid hps; have Hmv1 := hid hmv1; clear hps hmv1) | (go_at_call 21; refine Hps.out.mono ?_; rintro e w2 ⟨rfl, lv2, hmv2⟩))
              go_ret
              rw [← Hrun.out]
              exact ⟨rfl, lv2, (hmv.out.trans Hmv1.out).trans hmv2⟩
            | false =>
              rw [hok, if_neg (by simp)] at hrun'
              have Hok := hid hok
              have Hrun := hid hrun'
              clear hrun' hok
              go_wp2_with (first | (go_at_call 20; refine Hpw.out.mono ?_; rintro e w1 ⟨rfl, lv1, hmv1⟩; have c2 := box_cell (box_kept hmv.out.1 Hkeep.out hmv1); have hps := pSwap hmv1.1 h n (wrap64 (n + 1)); rw [Hb.out] at hps; unfold Res.out at hps; dsimp only at hps; rw [Hok.out] at hps; have Hps := hid hps; have Hmv1 := hid hmv1; clear hps hmv1) | (go_at_call 21; refine Hps.out.mono ?_; rintro e w2 ⟨rfl, lv2, hmv2⟩))
              go_roundg g
              case rel => exact ⟨S2, lv2, (hmv.out.trans Hmv1.out).trans hmv2, Hrun.out, Nat.le_of_succ_le hle.out⟩
              case measure => omega
        · rw [if_neg he] at hrun'
          have he' : (a.e != 0) = true := by simpa using he
          have Hrun := hid hrun'
          clear hrun' he
          go_wp2_with (go_at_call 20; refine Hpw.out.mono ?_; rintro e w1 ⟨rfl, lv1, hmv1⟩)
          go_ret
          rw [← Hrun.out]
          exact ⟨rfl, lv1, hmv.out.trans hmv1⟩
end Go.Proofs.Ytngdmkgbldgmiaa
