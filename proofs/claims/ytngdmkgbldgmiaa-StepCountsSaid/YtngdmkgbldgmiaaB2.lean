/-
  What (*Port).ask does, in all its ways: one contract.
-/
import Derived.Test.YtngdmkgbldgmiaaB1
namespace Go.Proofs.Ytngdmkgbldgmiaa
open Go.RowKit

/-- What a function comes to that asks: an answer, or it stops for now; or more rounds were wanted than it had. -/
inductive Res (α : Type) where
  | ok (a : α) (S : St)
  | pause (S : St)
  | oof

def Res.out {α : Type} (C : Ctx) (w : World) (lv : Value) (r : Res α) (enc : α → Value) (e : Ending) (w' : World) : Prop :=
  match r with
  | .ok a S' => e = .returned (enc a) ∧ ∃ lv', Moves C w lv w' lv' S'
  | .pause S' => e = .panicked pz ∧ ∃ lv', Moves C w lv w' lv' S'
  | .oof => False

/-- An ask: what was told is told again; else it stops, or asks. -/
def St.ask (S : St) (q : MemS → Ans × MemS) : Res Ans :=
  match S.P.log[S.P.pos]? with
  | some a => .ok a (S.setPos (S.P.pos + 1))
  | none => if S.P.left = 0 then .pause S else .ok (q S.M).1 (S.told (q S.M).1 (q S.M).2)

theorem fr_set4 (w : World) (b : Nat) (u0 u1 u2 u3 : Value) : Fr [b] w ((((w.setCell ⟨b, 0, none⟩ u0).setCell ⟨b, 1, none⟩ u1).setCell ⟨b, 2, none⟩ u2).setCell ⟨b, 3, none⟩ u3) :=
  ((((Fr.refl _ _).setCell _ _ (.inl (by simp))).setCell _ _ (.inl (by simp))).setCell _ _ (.inl (by simp))).setCell _ _ (.inl (by simp))

set_option maxRecDepth 100000 in
set_option maxHeartbeats 1600000 in
theorem ask_do {C : Ctx} {lv : Value} {S : St} {w : World} (hR : Rep w C lv S) (fid : Nat) (caps : Array Value) (ha : S.P.pos = S.P.log.length) (hl : S.P.left = -1)
    (a : Ans) (M' : MemS) (hcf : ∀ W, (callFunc fid caps).run Try.prog W = .ok (.enter fid caps) W) (hdo : ∀ W, Fr [] w W → Calls Try.prog fid caps W fun e W' => e = .returned a.val ∧ MemAt W' C.mb C.cb M' ∧ Fr [C.mb, C.cb] W W') :
    Calls Try.prog 96 #[.pointer (some ⟨C.pb, 0, none⟩), .func (.func fid) #[] caps] w fun e w' => e = .returned a.val ∧ Moves C w lv w' lv (S.told a M') := by
  have HR := hid hR
  obtain ⟨hM, hP⟩ := hR
  obtain ⟨p0, p1, p2, p3, p4, fp⟩ := hP.facts
  obtain ⟨ao, cap, hlv⟩ := lv_len hP
  have hsz := lt_of_heap hP.1
  have hn : S.P.log.length ≤ 1000000 := by have := hP.2.2.1; omega
  have hmp := ne_types hM.1 hP.1 (by decide)
  have hcp := ne_types hM.2.1 hP.1 (by decide)
  have Hmp := hid hmp
  have Hcp := hid hcp
  have Hml : Hid (∀ g ∈ lvb lv, g ∉ [C.mb, C.cb]) := fun g hg => by
    obtain ⟨_, h⟩ := lvb_heap hP hg
    have h1 := ne_types hM.1 h (by decide)
    have h2 := ne_types hM.2.1 h (by decide)
    simp; omega
  have hmb := lt_of_heap hM.1
  have hcb := lt_of_heap hM.2.1
  have Hlt : Hid (∀ g ∈ lvb lv, g < w.heap.size) := fun g hg => lvb_lt hP hg
  have HP := hid hP
  have HM := hid hM
  clear hM hP hmp hcp
  have Hlv := hid hlv
  have Hst : Hid (S.told a M' = ⟨M', S.P⟩) := by show S.told a M' = ⟨M', S.P⟩; unfold St.told; rw [if_neg (by omega)]
  have Ha := hid ha
  have Hl := hid hl
  rw [ha] at p2
  rw [hl] at p3
  rw [hlv] at p1
  clear ha hl hlv
  obtain ⟨n, hnn⟩ : ∃ n, n = S.P.log.length := ⟨_, rfl⟩
  have Hnn := hid hnn
  rw [← hnn] at p1 p2 hn Hlv
  clear hnn
  have Hdo := hid hdo
  clear hdo
  have hval : a.val = .agg #[encV a.b, .int .i64 a.n, .bool a.ok, .int .i64 a.e] := rfl
  rw [hval] at Hdo ⊢
  clear hval
  have hbv := encV_cases a.b
  generalize encV a.b = bv at hbv Hdo ⊢
  rcases hbv with rfl | ⟨t, x, rfl⟩
  all_goals
    go_enter Try.func96, Try.ntmps96
    go_wp2_with fail
    go_quiet (fail)
    go_wp2_with fail
    refine (Hdo.out _ (((Fr.refl _ _).alloc _).drewN _)).mono ?_
    rintro e w1 ⟨rfl, hM1, hfr1⟩
    have hfr0 : Fr [] w ((w.alloc (.cells #[.nilIface, .int .i64 0, .bool false, .int .i64 0] 162)).drewN nq) := ((Fr.refl _ _).alloc _).drewN _
    have hp1 := (HP.out.fr hfr0 (by simp) (by simp)).fr hfr1 (by simp; exact ⟨Ne.symm Hmp.out, Ne.symm Hcp.out⟩) Hml.out
    have hr4 := hfr1.keep (k := w.heap.size) (heap_new w (.cells #[.nilIface, .int .i64 0, .bool false, .int .i64 0] 162)) (by simp; omega)
    have hs1 : w.heap.size < w1.heap.size := by have := hfr1.size; simp at this; omega
    have hs2 : C.pb < w1.heap.size := by omega
    have Hmv : Hid (Moves C w lv w1 lv (S.told a M')) := by
      rw [Hst.out]
      exact ⟨⟨hM1, hp1⟩, (hfr0.mono (fun x hx => by simp at hx)).trans hfr1 (fun x hx => by simp at hx; rcases hx with rfl | rfl <;> simp), fun g hg => .inl hg⟩
    obtain ⟨q0, q1, q2, q3, q4, fq⟩ := hp1.facts
    rw [Hlv.out] at q1
    rw [Ha.out, ← Hnn.out] at q2
    rw [Hl.out] at q3
    obtain ⟨r0, r1, r2, r3, fr⟩ := cells4 hr4
    clear hfr1 hfr0 hM1 hp1 hr4 p0 p1 p2 p3 p4 fp
    go_wp2_with fail
    have ne1 : ¬ w.heap.size = C.pb := by omega
    refine bodyPost_ret (by simp [results, Try.results96, go_sem, r0, r1, r2, r3, ne1, hs1]) rfl ⟨rfl, ?_⟩
    refine Hmv.out.post (T := [w.heap.size]) ((fr_set4 _ _ _ _ _ _).alloc _) ?_
    intro x hx
    simp only [List.mem_singleton] at hx
    subst hx
    exact ⟨Nat.le_refl _, by omega, by omega, by omega, fun hm => by have := Hlt.out _ hm; omega⟩

theorem ask_any {C : Ctx} {lv : Value} {S : St} {w : World} (hR : Rep w C lv S) (fid : Nat) (caps : Array Value) (q : MemS → Ans × MemS)
    (hcf : ∀ W, (callFunc fid caps).run Try.prog W = .ok (.enter fid caps) W)
    (hdo : ∀ W, Fr [] w W → Calls Try.prog fid caps W fun e W' => e = .returned (q S.M).1.val ∧ MemAt W' C.mb C.cb (q S.M).2 ∧ Fr [C.mb, C.cb] W W') :
    Calls Try.prog 96 #[.pointer (some ⟨C.pb, 0, none⟩), .func (.func fid) #[] caps] w ((S.ask q).out C w lv Ans.val) := by
  unfold St.ask
  cases hg : S.P.log[S.P.pos]? with
  | some a => exact (ask_replay hR _ a hg).mono fun _ _ ⟨h1, h2⟩ => ⟨h1, lv, h2⟩
  | none =>
    have hpos : S.P.pos = S.P.log.length := by
      have h1 := hR.2.2.2.2.1
      have h2 := List.getElem?_eq_none_iff.1 hg
      omega
    dsimp only
    by_cases h0 : S.P.left = 0
    · rw [if_pos h0]
      exact (ask_pause hR _ hpos h0).mono fun _ _ ⟨h1, h2⟩ => ⟨h1, lv, h2⟩
    · rw [if_neg h0]
      have h1 := hR.2.2.2.2.2
      by_cases h2 : S.P.left = 1
      · exact ask_step hR fid caps hpos h2 _ _ hcf hdo
      · exact (ask_do hR fid caps hpos (by omega) _ _ hcf hdo).mono fun _ _ ⟨h1, h2⟩ => ⟨h1, lv, h2⟩
end Go.Proofs.Ytngdmkgbldgmiaa
