/-
  StepCounts, the plain law: a word that is added to; each turn asks once.
-/
import Derived.Test.YtngdmkgbldgmiaaSc2
namespace Go.Proofs.Ytngdmkgbldgmiaa
open Go.RowKit

def Good (M : MemS) (h W : Int) : Prop := ∃ i, M.content h = some (i, .word W)
theorem find_ext {M M' : MemS} {h : Int} (hl : M'.l = M.l) : M'.find h = M.find h := by unfold MemS.find; rw [hl]
theorem content_ext {M M' : MemS} {h : Int} (hl : M'.l = M.l) : M'.content h = M.content h := by unfold MemS.content; rw [find_ext hl, hl]
theorem Good.cellSt {M : MemS} {h W : Int} (g : Good M h W) : Good (M.cellSt h) h W := by
  obtain ⟨i, hc⟩ := g
  exact ⟨i, by rw [content_ext (cellSt_l ..)]; exact hc⟩
theorem Good.word {M : MemS} {h W : Int} (g : Good M h W) : askWord h M = (⟨none, W, false, 0⟩, M.cellSt h) := by
  obtain ⟨i, hc⟩ := g
  unfold askWord MemS.wordM MemS.wordOf
  rw [hc]
theorem content_parts {M : MemS} {h : Int} {i : Nat} {v : Cont} (hc : M.content h = some (i, v)) : M.find h = some i ∧ ∃ c, M.l[i]? = some c ∧ c.v = some v := by
  unfold MemS.content at hc
  cases hf : M.find h with
  | none => rw [hf] at hc; simp at hc
  | some j =>
    rw [hf] at hc
    simp only [Option.bind_some, Option.map_eq_some_iff, Prod.mk.injEq] at hc
    obtain ⟨a, ha, rfl, rfl⟩ := hc
    obtain ⟨c, h1, h2⟩ := Option.bind_eq_some_iff.1 ha
    exact ⟨rfl, c, h1, h2⟩
theorem content_setV {M : MemS} {h : Int} {i : Nat} {v u : Cont} (hc : M.content h = some (i, v)) : (M.setV i u).content h = some (i, u) := by
  obtain ⟨hf, c, h1, h2⟩ := content_parts hc
  have hlt := getElem?_lt h1
  have hfi : (M.setV i u).find h = some i := by
    unfold MemS.find at hf ⊢
    split at hf
    · rename_i h0
      rw [if_pos h0]
      have hi : (hPlace h).toNat = i := by
        split at hf
        · split at hf
          · simpa using hf
          · simp at hf
        · simp at hf
      rw [hi] at hf ⊢
      simp only [MemS.setV, List.getElem?_set_self hlt]
      rw [h1] at hf
      simp only [List.getD_eq_getElem?_getD, h1, Option.getD_some, Option.isSome_some, true_and]
      dsimp only at hf
      by_cases hh : c.v.isSome = true ∧ c.gen = hGen h
      · rw [if_pos hh.2]
      · rw [if_neg hh] at hf; simp at hf
    · simp at hf
  unfold MemS.content
  rw [hfi]
  simp [MemS.setV, List.getElem?_set_self hlt]
theorem Good.swap {M : MemS} {h W : Int} (g : Good M h W) (old n : Int) : ∃ M', askSwap h old n M = (⟨none, 0, decide (W = old), 0⟩, M') ∧ Good M' h (if W = old then n else W) := by
  have g' := g.cellSt
  obtain ⟨i, hc⟩ := g
  obtain ⟨j, hc'⟩ := g'
  have : i = j := by
    rw [content_ext (cellSt_l ..), hc] at hc'
    simp at hc'; exact hc'
  subst this
  unfold askSwap MemS.swapOf
  rw [hc]
  dsimp only
  by_cases he : W = old
  · rw [if_pos he, if_pos he]
    exact ⟨_, by simp [he], i, content_setV hc'⟩
  · rw [if_neg he, if_neg he]
    exact ⟨_, by simp [he], i, hc'⟩

/-- What was told so far: a word, a swap that failed, a word, .. -/
def GoodLog : List Ans → Prop
  | [] => True
  | [a] => a.e = 0
  | a :: b :: l => a.e = 0 ∧ b.ok = false ∧ GoodLog l

theorem drop_cons {α : Type} {l : List α} {p : Nat} {a : α} {r : List α} (h : l.drop p = a :: r) : l[p]? = some a ∧ l.drop (p + 1) = r := by
  refine ⟨by rw [← List.head?_drop, h]; rfl, by rw [← List.drop_drop, h]; rfl⟩

theorem cnt_live (h W : Int) : ∀ (k : Nat) (rest : List Ans) (S : St), S.P.pos ≤ S.P.log.length → S.P.log.drop S.P.pos = rest → GoodLog rest → S.P.left = 1 → Good S.M h W → rest.length + 2 ≤ 2 * k →
    ∃ S1 x, S1.P.log = S.P.log ++ [x] ∧
      ((cntP h k S = .pause S1 ∧ GoodLog (rest ++ [x]) ∧ Good S1.M h W) ∨ (cntP h k S = .ok W S1 ∧ Good S1.M h (wrap64 (W + 1)))) := by
  intro k
  induction k with
  | zero => intro rest S _ _ _ _ _ hk; omega
  | succ k ih =>
    intro rest S hp hd hg hl hM hk
    match rest, hd, hg, hk with
    | [], hd, hg, hk =>
      have hpos : S.P.pos = S.P.log.length := by
        have := congrArg List.length hd
        simp at this
        omega
      have h1 : S.ask (askWord h) = .ok ⟨none, W, false, 0⟩ (S.told ⟨none, W, false, 0⟩ (S.M.cellSt h)) := by
        unfold St.ask
        rw [List.getElem?_eq_none (by omega)]
        dsimp only
        rw [if_neg (by omega), hM.word]
      have ht : S.told ⟨none, W, false, 0⟩ (S.M.cellSt h) = ⟨S.M.cellSt h, ⟨S.P.log ++ [⟨none, W, false, 0⟩], S.P.pos + 1, 0, S.P.note⟩⟩ := by
        unfold St.told
        rw [if_pos (by omega), hl]
        rfl
      rw [ht] at h1
      refine ⟨⟨S.M.cellSt h, ⟨S.P.log ++ [⟨none, W, false, 0⟩], S.P.pos + 1, 0, S.P.note⟩⟩, ⟨none, W, false, 0⟩, rfl, .inl ⟨?_, rfl, hM.cellSt⟩⟩
      · simp only [cntP, h1, Res.bind, if_true]
        unfold St.ask
        rw [List.getElem?_eq_none (by simp; omega)]
        rfl
    | [a], hd, hg, hk =>
      obtain ⟨ha, hd'⟩ := drop_cons hd
      have hlen : S.P.log.length = S.P.pos + 1 := by
        have := congrArg List.length hd
        simp at this
        omega
      have h1 : S.ask (askWord h) = .ok a (S.setPos (S.P.pos + 1)) := by
        unfold St.ask
        rw [ha]
      obtain ⟨M', hsw, hM'⟩ := hM.swap a.n (wrap64 (a.n + 1))
      have h2 : (S.setPos (S.P.pos + 1)).ask (askSwap h a.n (wrap64 (a.n + 1))) = .ok ⟨none, 0, decide (W = a.n), 0⟩ ⟨M', ⟨S.P.log ++ [⟨none, 0, decide (W = a.n), 0⟩], S.P.pos + 2, 0, S.P.note⟩⟩ := by
        unfold St.ask St.setPos
        dsimp only
        rw [List.getElem?_eq_none (by omega)]
        dsimp only
        rw [if_neg (by omega), hsw]
        unfold St.told
        rw [if_pos (by simp; omega)]
        simp [hl]
      have he : a.e = 0 := hg
      by_cases hW : W = a.n
      · rw [if_pos hW] at hM'
        refine ⟨⟨M', ⟨S.P.log ++ [⟨none, 0, decide (W = a.n), 0⟩], S.P.pos + 2, 0, S.P.note⟩⟩, _, rfl, .inr ⟨?_, hW ▸ hM'⟩⟩
        simp only [cntP, h1, Res.bind, if_pos he, h2, hW, decide_true, if_true]
      · rw [if_neg hW] at hM'
        refine ⟨⟨M', ⟨S.P.log ++ [⟨none, 0, decide (W = a.n), 0⟩], S.P.pos + 2, 0, S.P.note⟩⟩, _, rfl, .inl ⟨?_, ⟨he, by simp [hW], trivial⟩, hM'⟩⟩
        obtain ⟨k', rfl⟩ : ∃ k', k = k' + 1 := ⟨k - 1, by simp at hk; omega⟩
        simp only [cntP, h1, Res.bind, if_pos he, h2, hW, decide_false, Bool.false_eq_true, if_false]
        unfold St.ask
        rw [List.getElem?_eq_none (by simp; omega)]
        rfl
    | a :: b :: l, hd, hg, hk =>
      obtain ⟨ha, hd'⟩ := drop_cons hd
      obtain ⟨hb, hd''⟩ := drop_cons hd'
      obtain ⟨he, hok, hgl⟩ := hg
      have h1 : S.ask (askWord h) = .ok a (S.setPos (S.P.pos + 1)) := by
        unfold St.ask
        rw [ha]
      have h2 : (S.setPos (S.P.pos + 1)).ask (askSwap h a.n (wrap64 (a.n + 1))) = .ok b (S.setPos (S.P.pos + 2)) := by
        unfold St.ask St.setPos
        dsimp only
        rw [hb]
      have hlen := getElem?_lt hb
      obtain ⟨S1, x, hx, hr⟩ := ih l (S.setPos (S.P.pos + 2)) (by show S.P.pos + 2 ≤ S.P.log.length; omega) hd'' hgl hl hM (by simp at hk; omega)
      have hc : cntP h (k + 1) S = cntP h k (S.setPos (S.P.pos + 2)) := by
        simp only [cntP, h1, Res.bind, if_pos he, h2, hok, Bool.false_eq_true, if_false]
      rw [hc]
      refine ⟨S1, x, hx, ?_⟩
      rcases hr with ⟨r1, r2, r3⟩ | r
      · exact .inl ⟨r1, ⟨he, hok, r2⟩, r3⟩
      · exact .inr r
end Go.Proofs.Ytngdmkgbldgmiaa
