/-
  StepCounts: the law's walk.
-/
import Derived.Test.YtngdmkgbldgmiaaSc5
namespace Go.Proofs.Ytngdmkgbldgmiaa
open Go.RowKit

theorem old_cell {w w' : World} (h : Fr [] w w') {x : Addr} (hx : x.block < w.heap.size) (j : Nat) : w'.cell? (x.add j) = w.cell? (x.add j) := h.below.cell (by unfold Addr.add; split <;> exact hx)
theorem rel2_fr {w0 w : World} {mb cb hb : Nat} {v : Value} {n j : Nat} (h : Rel2 w0 mb cb hb v n j w) : Fr [] w0 w := by
  obtain ⟨L, M, W, hL, hbd, _⟩ := h
  exact hbd.fr

theorem u8_of_wf {n : Int} (h : (Lit.int .u8 n).wf = true) : 0 ≤ n ∧ n ≤ 255 := by
  simpa [Lit.wf, IntKind.min, IntKind.max, IntKind.signed, IntKind.bits] using h
theorem block_of_cell {w : World} {x : Addr} {v : Value} {i : Nat} (h : w.cell? (x.add i) = some v) : x.block < w.heap.size := by
  have hb : (x.add i).block = x.block := by unfold Addr.add; split <;> rfl
  rcases Nat.lt_or_ge x.block w.heap.size with h' | h'
  · exact h'
  · unfold World.cell? at h
    rw [hb, Array.getElem?_eq_none h'] at h
    simp at h

set_option maxRecDepth 100000 in
set_option maxHeartbeats 1600000 in
theorem counts_law (w : World) (a0 : Option Addr) (len0 cap0 : Nat) (a1 : Int) (h1 : 0 ≤ a1 ∧ a1 ≤ 255) (hl : len0 ≤ 200)
    (hrd : ∀ i, i < len0 → ∃ x z, a0 = some x ∧ 0 ≤ z ∧ z ≤ 255 ∧ w.cell? (x.add i) = some (.int .u8 z)) (hold : ∀ x, a0 = some x → 0 < len0 → x.block < w.heap.size) :
    Calls Try.prog 3 #[.slice a0 len0 cap0, .int .u8 a1] w fun e w' => e = .returned (.bool true) ∧ Fr [] w w' := by
  have g1 : decide (200 < (len0 : Int)) = false := by simp; omega
  have Hrd := hid hrd
  clear hrd
  go_enter Try.func3, Try.ntmps3
  go_wp2_with (first | (go_at_call 15; refine (awake_does w).mono ?_; rintro e w1 ⟨rfl, hf1⟩; have Hf1 := hid hf1; clear hf1) | (go_at_call 16; refine (mnew_does 1 w1 (by decide) (by decide)).mono ?_; rintro e w2 ⟨rfl, hM2, hf2⟩; have Hb2 := hid (Band.of_mem (w0 := w) hM2 (Hf1.out.trans' hf2) (by have := Hf1.out.size; omega) (by have := Hf1.out.size; omega)); clear hM2 hf2) | (go_at_call 17; refine (word_made Hb2.out.team.1).mono ?_; rintro e w3 ⟨rfl, hM3, hf3⟩; have Hb3 : Hid (Band w w3 (w1.heap.size + 1) w1.heap.size mWord []) := Hb2.out.asked hM3 hf3; clear hM3 hf3))
  obtain ⟨n, hn⟩ : ∃ n : Nat, n = (1 + a1 % 6).toNat := ⟨_, rfl⟩
  have hn6 : 1 ≤ n ∧ n ≤ 6 := by omega
  obtain ⟨i0, hi0, hz0, hz1, hz2⟩ := info_parts info31
  have Hst := hid (rel1_start Hb3.out rfl)
  generalize hmb : w1.heap.size + 1 = mb at *
  generalize hcb : w1.heap.size = cb at *
  generalize hhb : w3.heap.size = hb at *
  clear Hf1 Hb2 Hb3 hmb hcb hhb
  go_loopw [9, 10] (fun v i wr => ∃ k : Nat, k ≤ n ∧ i = .int .i64 k ∧ Hid (Rel1 w mb cb hb v k wr))
    (fun _ i _ => n - (intOf i).toNat)
  case atStart => exact ⟨0, Nat.zero_le _, rfl, Hst.out⟩
  case round =>
    obtain ⟨k, hk, rfl, HR⟩ := hrel
    obtain ⟨L, hL, hbd, hF, hbx, hhb, hown⟩ := HR.out
    have Hbd := hid hbd
    have Hown := hid hown
    have Hbx := hid hbx
    have HL := hid hL
    have HF := hid hF
    clear hbd hown hbx hL hF Hst
    go_wp2_with (first | (go_at_call 18; refine (Hbd.out.bears 19 _).mono ?_; rintro e wm ⟨rfl, hbm, hfm⟩; have Hbm := hid hbm; have Hfm := hid hfm; have Hown2 := hid (row_fr Hown.out hfm (fun _ _ => by simp)); clear hbm hfm) | (at_builtin; refine wpList_append_lies _ rfl _ _ 30 rfl w.heap.size 31 i0 _ 1 8 Try.underlying30 hi0 hz0 hz1 hz2 rfl (by decide) _ _ _ rfl (row_fr Hown2.out ((Fr.refl [] _).alloc _) (fun _ _ => by simp)) ⟨wm.heap.size, 0, none⟩ 1 1 [.pointer (some ⟨wr.heap.size + 1, 0, none⟩)] rfl rfl (World.news_of_block (heap_new wm _)) (by simp [Value.oneCell']) (by decide) (by unfold maxLen; omega) (by omega) (by have := Hbm.out.fr.size; simp; omega) _ rfl ?_; intro g cap' wn hownn hgrn hatn hltn; have Hownn := hid hownn; have Hgrn := hid hgrn; have Hatn := hid hatn; clear hownn hgrn hatn) | go_in)
    case roundEnd =>
      go_roundw
      case rel => exact ⟨k + 1, by omega, by go_num, rel1_made HL.out Hbm.out Hfm.out HF.out Hbx.out hhb Hown.out Hownn.out Hgrn.out⟩
      case measure => simp [intOf]; omega
    obtain rfl : k = n := by omega
    have Hst2 := hid (rel2_start HR.out)
    obtain ⟨xv, gv, capv, hv, -, -⟩ := rel2_turn (j := 0) Hst2.out (by omega) hn6.2 0 (by omega)
    subst hv
    clear hn
    clear Hbd Hown Hbx HL HF HR hhb
    go_loopw [11] (fun i wr => ∃ j : Nat, j ≤ len0 ∧ i = .int .i64 j ∧ Hid (Rel2 w mb cb hb (.slice (some ⟨gv, 0, none⟩) k capv) k j wr))
      (fun i _ => len0 - (intOf i).toNat)
    case atStart => exact ⟨0, Nat.zero_le _, rfl, Hst2.out⟩
    case round =>
      obtain ⟨j, hj, rfl, HR2⟩ := hrel
      by_cases hjl : j < len0
      · obtain ⟨x, z, rfl, z0, z1, hz⟩ := Hrd.out j hjl
        obtain ⟨zn, rfl⟩ := Int.eq_ofNat_of_zero_le z0
        have hzr : wr.cell? (x.add j) = some (.int .u8 zn) := (old_cell (rel2_fr HR2.out) (hold x rfl (by omega)) j).trans hz
        have hq : zn % k < k := Nat.mod_lt _ (by omega)
        have hqi : (zn : Int) % (k : Int) = ((zn % k : Nat) : Int) := by simp
        obtain ⟨xb, g', cap', hv', hce, hcall⟩ := rel2_turn HR2.out (by omega) hn6.2 _ hq
        simp only [Value.slice.injEq, Option.some.injEq, Addr.mk.injEq, and_true, true_and] at hv'
        obtain ⟨rfl, rfl⟩ := hv'
        have Hcall := hid hcall
        generalize zn % k = q at *
        clear hcall hz z0
        go_wp2_with (first | (go_at_call 22; refine Hcall.out.mono ?_; rintro e wt ⟨⟨b, rfl⟩, hr2⟩; have Hr2 := hid hr2; clear hr2) | go_in)
        go_roundw
        case rel => exact ⟨j + 1, by omega, by go_num, Hr2.out⟩
        case measure => simp [intOf]; omega
      · have g2 : decide ((j : Int) < (len0 : Int)) = false := by simp; omega
        have HRd := HR2
        clear Hrd Hst2
        go_wp2_with go_in
        have Hst3 := hid (rel3_start HR2.out)
        go_loopw [12, 14] (fun v i wr3 => ∃ p c : Nat, p ≤ k ∧ v = .int .i64 c ∧ i = .int .i64 p ∧ Hid (Rel3 w mb cb hb wr.heap.size (.slice (some ⟨gv, 0, none⟩) k capv) k p c wr3))
          (fun _ i _ => k - (intOf i).toNat)
        case atStart => exact ⟨0, 0, Nat.zero_le _, rfl, rfl, Hst3.out⟩
        case round =>
          obtain ⟨p, c, hp, rfl, rfl, HR3⟩ := hrel
          generalize wr.heap.size = sb at *
          by_cases hpl : p < k
          · obtain ⟨xb, g', cap', m, pb, fv, hv', hce, hma, hc6, hways⟩ := rel3_read HR3.out hn6.2 hpl
            simp only [Value.slice.injEq, Option.some.injEq, Addr.mk.injEq, and_true, true_and] at hv'
            obtain ⟨rfl, rfl⟩ := hv'
            have Hma := hid hma
            clear hma Hst3 HR2 HR3
            rcases hways with ⟨he, hr⟩ | ⟨he, u, hu, ho, hcu, hfu, hr⟩
            · have Hr := hid hr
              clear hr
              go_wp2_with (first | (go_at_call 23; refine (mended_does Hma.out).mono ?_; rintro e wt ⟨rfl, rfl⟩; rw [he]) | go_in)
              go_roundw
              case rel => exact ⟨p + 1, c, by omega, rfl, by go_num, Hr.out⟩
              case measure => simp [intOf]; omega
            · have Hr := hid hr
              clear hr
              have hta := ta_int_hit (.int .i64 u)
              have g3 : decide ((u : Int) < 0) = false := by simp
              have g4 : decide ((6 : Int) ≤ (u : Int)) = false := by simp; omega
              go_wp2_with (first | (go_at_call 23; refine (mended_does Hma.out).mono ?_; rintro e wt ⟨rfl, rfl⟩; rw [he]) | (go_at_call 24; refine (mout_does Hma.out).mono ?_; rintro e wt ⟨rfl, rfl⟩; rw [ho]) | go_in)
              go_roundw
              case rel => exact ⟨p + 1, c + 1, by omega, by go_num, by go_num, Hr.out⟩
              case measure => simp [intOf]; omega
          · obtain rfl : p = k := by omega
            obtain ⟨hbc, hwd⟩ := rel3_end HR3.out
            have Hwd := hid hwd
            have g5 : decide ((p : Int) < (p : Int)) = false := by simp
            clear hwd Hst3 HR2 HR3
            go_wp2_with (first | (go_at_call 25; refine Hwd.out.mono ?_; rintro e wt ⟨rfl, hft⟩; have Hft := hid hft; clear hft) | go_in)
            go_ret
            exact ⟨rfl, Hft.out⟩

set_option maxRecDepth 100000 in
theorem counts_long (w : World) (a0 : Option Addr) (len0 cap0 : Nat) (a1 : Int) (hl : 200 < len0) :
    Calls Try.prog 3 #[.slice a0 len0 cap0, .int .u8 a1] w fun e w' => e = .returned (.bool true) ∧ Fr [] w w' := by
  have g1 : decide (200 < (len0 : Int)) = true := by simp; omega
  go_enter Try.func3, Try.ntmps3
  go_wp2_with (first | (go_at_call 15; refine (awake_does _).mono ?_; rintro e w1 ⟨rfl, hf1⟩; first | (have Hf2 := hid (Hf1.out.trans' hf1)) | (have Hf1 := hid hf1); clear hf1))
  go_ret
  exact ⟨rfl, Hf2.out⟩
end Go.Proofs.Ytngdmkgbldgmiaa
