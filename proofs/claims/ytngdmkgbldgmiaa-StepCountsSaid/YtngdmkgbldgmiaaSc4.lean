/-
  StepCounts: the law's walk.
-/
import Derived.Test.YtngdmkgbldgmiaaSc3
namespace Go.Proofs.Ytngdmkgbldgmiaa
open Go.RowKit

def hWord : Int := ((MemS.new 1).asked.put (.word 0)).1.1
def mWord : MemS := ((MemS.new 1).asked.put (.word 0)).2
theorem word_ok : ((MemS.new 1).asked.put (.word 0)).1.2 = 0 := by decide +kernel
theorem word_good : Good mWord hWord 0 := ⟨0, by rfl⟩

theorem info31 : (Try.prog.info? 31).map (fun i => (i.zero, i.size, i.bytes)) = some (some (.pointer none), 1, 8) := by kernel_rfl

def Fresh (hb : Nat) (T : Mach) : Prop := T.fid = 19 ∧ T.caps = #[.pointer (some ⟨hb, 0, none⟩)] ∧ T.P = ⟨[], 0, 0, 0⟩ ∧ T.m = ⟨.nilIface, 0, false⟩
def mptr (T : Mach) : Value := .pointer (some ⟨T.xb, 0, none⟩)

theorem word_made {mb cb : Nat} {w : World} (hM : MemAt w mb cb (MemS.new (Int.toNat 1))) :
    Calls Try.prog 17 #[.pointer (some ⟨mb, 0, none⟩), .int .i64 0] w fun e w' => e = .returned (.tuple #[.int .i64 hWord, .int .i64 0]) ∧ MemAt w' mb cb mWord ∧ Fr [mb, cb] w w' := by
  have h := mallocWord_does hM 0
  have h0 : ((MemS.new (Int.toNat 1)).asked.put (.word 0)).1.2 = 0 := word_ok
  rw [h0] at h
  exact h

/-- A row of the call's own. -/
theorem row_fr {w w' : World} {base : Nat} {e : TypeId} {size n : Nat} {xs : List Value} {v : Value} {S : List Nat} (h : w.ownsRow base e size v n xs) (hf : Fr S w w') (h2 : ∀ g ∈ lvb v, g ∉ S) : w'.ownsRow base e size v n xs := by
  refine ⟨h.1, ?_⟩
  rcases h.2 with h' | ⟨g, cap, cur, hv, hb, hg, r⟩
  · exact .inl h'
  · exact .inr ⟨g, cap, cur, hv, hb, hf.keep hg (h2 g (by rw [hv]; simp [lvb, Value.ownBlock])), r⟩
theorem row_block {w : World} {base : Nat} {e : TypeId} {size n : Nat} {xs : List Value} {v : Value} (h : w.ownsRow base e size v n xs) {g : Nat} (hg : g ∈ lvb v) : base ≤ g ∧ ∃ cur, w.heap[g]? = some (.cells cur e (0, 0)) := by
  rcases h.2 with ⟨hv, _⟩ | ⟨g', cap, cur, hv, hb, hh, _⟩
  · rw [hv] at hg; simp [lvb, Value.ownBlock] at hg
  · rw [hv] at hg; simp [lvb, Value.ownBlock] at hg; subst hg; exact ⟨hb, cur, hh⟩

def boxed (w : World) (hb : Nat) : Prop := w.heap[hb]? = some (.cells #[.int .i64 hWord] 3 (0, 0))
/-- The first loop's relation. -/
def Rel1 (w0 : World) (mb cb hb : Nat) (v : Value) (i : Nat) (w : World) : Prop :=
  ∃ L : List Mach, L.length = i ∧ Band w0 w mb cb mWord L ∧ (∀ T ∈ L, Fresh hb T) ∧ boxed w hb ∧ w0.heap.size ≤ hb ∧ w.ownsRow w0.heap.size 31 1 v i (L.map mptr)

theorem rel1_start {w0 w w' : World} {mb cb : Nat} (h : Band w0 w mb cb mWord []) (hw : w' = w.alloc (.cells #[.int .i64 hWord] 3)) : Rel1 w0 mb cb w.heap.size (.slice none 0 0) 0 w' := by
  have hf : Fr [] w w' := by rw [hw]; exact (Fr.refl _ _).alloc _
  refine ⟨[], rfl, h.other hf (fun x hx => by simp at hx), by simp, ?_, h.fr.size, World.ownsRow_nil _ _ _ _⟩
  unfold boxed
  rw [hw, heap_new w _]

theorem rel1_made {w0 w w1 : World} {mb cb hb : Nat} {v : Value} {i : Nat} {L : List Mach} (hL : L.length = i) (hb1 : Band w0 w1 mb cb mWord (L ++ [Mach.born w 19 #[.pointer (some ⟨hb, 0, none⟩)]])) (hfr : Fr [] w w1) (hF : ∀ T ∈ L, Fresh hb T) (hbx : boxed w hb) (hhb : w0.heap.size ≤ hb)
    (hown : w.ownsRow w0.heap.size 31 1 v i (L.map mptr)) {v' : Value} {w2 : World}
    (hown' : w2.ownsRow w0.heap.size 31 1 v' (i + 1) (L.map mptr ++ [.pointer (some ⟨w.heap.size + 1, 0, none⟩)])) (hg : (w1.alloc (.cells #[.pointer (some ⟨w.heap.size + 1, 0, none⟩)] 31)).grownBy w2 v.ownBlock) : Rel1 w0 mb cb hb v' (i + 1) w2 := by
  have hfx : Fr [] w1 (w1.alloc (.cells #[.pointer (some ⟨w.heap.size + 1, 0, none⟩)] 31)) := (Fr.refl _ _).alloc _
  have hgf : Fr (lvb v) (w1.alloc (.cells #[.pointer (some ⟨w.heap.size + 1, 0, none⟩)] 31)) w2 := Fr.of_grown hg
  have hf2 : Fr (lvb v) w1 w2 := (hfx.mono (fun x hx => by simp at hx)).trans' hgf
  have hrow := row_fr hown hfr (fun _ _ => by simp)
  have hot : ∀ x ∈ lvb v, w1.heap.size ≤ x ∨ w0.heap.size ≤ x ∧ ∃ c T f, w1.heap[x]? = some (.cells c T f) ∧ T ≠ 153 ∧ T ≠ 219 ∧ T ≠ 158 ∧ T ≠ 160 ∧ T ≠ 162 := fun x hx => by
    obtain ⟨h1, cur, h2⟩ := row_block hrow hx
    exact .inr ⟨h1, cur, 31, (0, 0), h2, by decide, by decide, by decide, by decide, by decide⟩
  refine ⟨L ++ [Mach.born w 19 #[.pointer (some ⟨hb, 0, none⟩)]], by simp [hL], hb1.other hf2 hot, ?_, ?_, hhb, ?_⟩
  · intro T hT
    rw [List.mem_append, List.mem_singleton] at hT
    rcases hT with hT | rfl
    · exact hF T hT
    · exact ⟨rfl, rfl, rfl, rfl⟩
  · unfold boxed at hbx ⊢
    refine hf2.keep (hfr.keep hbx (by simp)) (fun hm => ?_)
    obtain ⟨_, cur, h2⟩ := row_block hrow hm
    exact ne_types (hfr.keep hbx (by simp)) h2 (by decide) rfl
  · simpa [mptr, Mach.born] using hown'

/-! ### The second loop -/
structure Inv (hb : Nat) (M : MemS) (L : List Mach) (W : Int) (j : Nat) : Prop where
  good : Good M hWord W
  count : W = (L.countP (fun T => T.m.ended) : Nat)
  fn : ∀ T ∈ L, T.fid = 19 ∧ T.caps = #[.pointer (some ⟨hb, 0, none⟩)]
  log : ∀ T ∈ L, T.m.ended = false → GoodLog T.P.log ∧ T.P.log.length ≤ j
  out : ∀ T ∈ L, T.m.ended = true → ∃ v : Int, 0 ≤ v ∧ v < W ∧ T.m.out = .iface 3 (.int .i64 v)
  apart : ∀ (a b : Nat) (T U : Mach), L[a]? = some T → L[b]? = some U → T.m.ended = true → U.m.ended = true → T.m.out = U.m.out → a = b

theorem Inv.mono {hb : Nat} {M : MemS} {L : List Mach} {W : Int} {j : Nat} (h : Inv hb M L W j) : Inv hb M L W (j + 1) :=
  ⟨h.good, h.count, h.fn, fun T hT he => ⟨(h.log T hT he).1, Nat.le_succ_of_le (h.log T hT he).2⟩, h.out, h.apart⟩

theorem Inv.paused {hb : Nat} {M M' : MemS} {L : List Mach} {W : Int} {j q : Nat} {T T' : Mach} (h : Inv hb M L W j) (hq : L[q]? = some T) (he : T.m.ended = false) (he' : T'.m.ended = false)
    (hM : Good M' hWord W) (hf : T'.fid = T.fid ∧ T'.caps = T.caps) (hg : GoodLog T'.P.log) (hl : T'.P.log.length ≤ j + 1) : Inv hb M' (L.set q T') W (j + 1) := by
  have hlt := getElem?_lt hq
  have hTq : L[q] = T := by rw [List.getElem?_eq_getElem hlt] at hq; simpa using hq
  have hm := List.mem_of_getElem? hq
  have back : ∀ (a : Nat) (U : Mach), (L.set q T')[a]? = some U → U.m.ended = true → L[a]? = some U := by
    intro a U hU hUe
    rw [List.getElem?_set] at hU
    split at hU
    · simp at hU; subst hU; rw [he'] at hUe; simp at hUe
    · exact hU
  refine ⟨hM, ?_, fun U hU => ?_, fun U hU hUe => ?_, fun U hU hUe => ?_, fun a b U V hU hV hUe hVe ho => h.apart a b U V (back a U hU hUe) (back b V hV hVe) hUe hVe ho⟩
  · rw [List.countP_set hlt, hTq, he, he']
    simpa using h.count
  · rcases List.mem_or_eq_of_mem_set hU with hU | rfl
    · exact h.fn U hU
    · rw [hf.1, hf.2]; exact h.fn T hm
  · rcases List.mem_or_eq_of_mem_set hU with hU | rfl
    · exact ⟨(h.log U hU hUe).1, Nat.le_succ_of_le (h.log U hU hUe).2⟩
    · exact ⟨hg, hl⟩
  · obtain ⟨a, ha⟩ := List.mem_iff_getElem?.1 hU
    exact h.out U (List.mem_of_getElem? (back a U ha hUe)) hUe

theorem Inv.ended {hb : Nat} {M M' : MemS} {L : List Mach} {W : Int} {j q : Nat} {T T' : Mach} (h : Inv hb M L W j) (hq : L[q]? = some T) (he : T.m.ended = false) (he' : T'.m.ended = true)
    (hM : Good M' hWord (W + 1)) (hf : T'.fid = T.fid ∧ T'.caps = T.caps) (ho : T'.m.out = .iface 3 (.int .i64 W)) : Inv hb M' (L.set q T') (W + 1) (j + 1) := by
  have hlt := getElem?_lt hq
  have hTq : L[q] = T := by rw [List.getElem?_eq_getElem hlt] at hq; simpa using hq
  have hm := List.mem_of_getElem? hq
  have hW : 0 ≤ W := by rw [h.count]; exact Int.natCast_nonneg _
  have parts : ∀ (a : Nat) (U : Mach), (L.set q T')[a]? = some U → (a = q ∧ U = T') ∨ (a ≠ q ∧ L[a]? = some U) := by
    intro a U hU
    rw [List.getElem?_set] at hU
    split at hU
    · rename_i hqa
      simp at hU; exact .inl ⟨hqa.symm, hU.symm⟩
    · rename_i hqa
      exact .inr ⟨fun e => hqa e.symm, hU⟩
  have old : ∀ (a : Nat) (U : Mach), L[a]? = some U → U.m.ended = true → U.m.out ≠ T'.m.out := by
    intro a U hU hUe hx
    obtain ⟨v, _, hv, hvo⟩ := h.out U (List.mem_of_getElem? hU) hUe
    rw [hvo, ho] at hx
    simp at hx
    omega
  refine ⟨hM, ?_, fun U hU => ?_, fun U hU hUe => ?_, fun U hU hUe => ?_, fun a b U V hU hV hUe hVe hx => ?_⟩
  · rw [List.countP_set hlt, hTq, he, he']
    simpa using h.count
  · rcases List.mem_or_eq_of_mem_set hU with hU | rfl
    · exact h.fn U hU
    · rw [hf.1, hf.2]; exact h.fn T hm
  · rcases List.mem_or_eq_of_mem_set hU with hU | rfl
    · exact ⟨(h.log U hU hUe).1, Nat.le_succ_of_le (h.log U hU hUe).2⟩
    · rw [he'] at hUe; simp at hUe
  · obtain ⟨a, ha⟩ := List.mem_iff_getElem?.1 hU
    rcases parts a U ha with ⟨_, rfl⟩ | ⟨_, ha⟩
    · exact ⟨W, hW, by omega, ho⟩
    · obtain ⟨v, h1, h2, h3⟩ := h.out U (List.mem_of_getElem? ha) hUe
      exact ⟨v, h1, by omega, h3⟩
  · rcases parts a U hU with ⟨rfl, rfl⟩ | ⟨_, ha⟩ <;> rcases parts b V hV with ⟨rfl, rfl⟩ | ⟨_, hb'⟩
    · rfl
    · exact absurd hx.symm (old b V hb' hVe)
    · exact absurd hx (old a U ha hUe)
    · exact h.apart a b U V ha hb' hUe hVe hx

def Rel2 (w0 : World) (mb cb hb : Nat) (v : Value) (n j : Nat) (w : World) : Prop :=
  ∃ (L : List Mach) (M : MemS) (W : Int), L.length = n ∧ Band w0 w mb cb M L ∧ Inv hb M L W j ∧ boxed w hb ∧ w0.heap.size ≤ hb ∧ w.ownsRow w0.heap.size 31 1 v n (L.map mptr)

theorem rel2_start {w0 w : World} {mb cb hb : Nat} {v : Value} {n : Nat} (h : Rel1 w0 mb cb hb v n w) : Rel2 w0 mb cb hb v n 0 w := by
  obtain ⟨L, hL, hbd, hF, hbx, hhb, hown⟩ := h
  have hne : ∀ T ∈ L, T.m.ended = false := fun T hT => by rw [(hF T hT).2.2.2]
  refine ⟨L, mWord, 0, hL, hbd, ⟨word_good, ?_, fun T hT => ⟨(hF T hT).1, (hF T hT).2.1⟩, fun T hT _ => ?_, fun T hT he => ?_, fun a b T U hT _ he => ?_⟩, hbx, hhb, hown⟩
  · have : L.countP (fun T => T.m.ended) = 0 := List.countP_eq_zero.2 (fun T hT => by rw [hne T hT]; simp)
    rw [this]; rfl
  · rw [(hF T hT).2.2.1]; exact ⟨trivial, Nat.zero_le _⟩
  · rw [hne T hT] at he; simp at he
  · rw [hne T (List.mem_of_getElem? hT)] at he; simp at he

theorem rel2_turn {w0 w : World} {mb cb hb : Nat} {v : Value} {n j : Nat} (h : Rel2 w0 mb cb hb v n j w) (hj : j ≤ 200) (hn : n ≤ 6) (q : Nat) (hq : q < n) :
    ∃ xb g cap, v = .slice (some ⟨g, 0, none⟩) n cap ∧ w.cell? ⟨g, q, none⟩ = some (.pointer (some ⟨xb, 0, none⟩)) ∧
      Calls Try.prog 22 #[.pointer (some ⟨xb, 0, none⟩)] w fun e w' => (∃ b, e = .returned (.bool b)) ∧ Rel2 w0 mb cb hb v n (j + 1) w' := by
  obtain ⟨L, M, W, hL, hbd, hI, hbx, hhb, hown⟩ := h
  have hkq : L[q]? = some L[q] := List.getElem?_eq_getElem (by omega)
  generalize L[q] = T at hkq
  have hrow := hown
  rcases hown.2 with ⟨hv, h0⟩ | ⟨g, cap, cur, hv, hbg, hg, _⟩
  · omega
  refine ⟨T.xb, g, cap, hv, ?_, ?_⟩
  · rw [hv] at hown
    rw [hown.cellAt q (by omega), List.getElem?_map, hkq]
    rfl
  · cases he : T.m.ended with
    | true =>
      refine (step_idle (hbd.at hkq) he).mono ?_
      rintro e w' ⟨rfl, rfl⟩
      exact ⟨⟨_, rfl⟩, L, M, W, hL, hbd, hI.mono, hbx, hhb, hrow⟩
    | false =>
      have hm := List.mem_of_getElem? hkq
      obtain ⟨f1, f2⟩ := hI.fn T hm
      obtain ⟨l1, l2⟩ := hI.log T hm he
      obtain ⟨S1, x, hx, hr⟩ := cnt_live hWord W 200 T.P.log (T.st M).again (Nat.zero_le _) rfl l1 rfl hI.good (by omega)
      have hne : cntP hWord 200 (T.st M).again ≠ .oof := by rcases hr with ⟨h, _⟩ | ⟨h, _⟩ <;> rw [h] <;> simp
      have hst := hbd.step hkq he (by omega) (enc := fun v : Int => .iface 3 (.int .i64 v)) (fun _ => .inr ⟨_, _, rfl⟩) hne
        (fun Wd => by rw [f1, f2]; kernel_rfl) (fun Wd hf hR => by
          rw [f1, f2]
          refine counts_does hR ?_ 200 hne
          obtain ⟨cp, hcp⟩ := (hbd.team.member hkq).pb_heap
          exact hf.keep hbx (by simp; exact ne_types hbx hcp (by decide)))
      refine hst.mono ?_
      rintro e w' ⟨rfl, lv', hb', hf'⟩
      have hbx' : boxed w' hb := by
        have hTk := hbd.team.member hkq
        obtain ⟨cp, hcp⟩ := hTk.pb_heap
        refine hf'.keep hbx ?_
        simp only [List.mem_cons, not_or]
        refine ⟨ne_types hbx hTk.1 (by decide), ne_types hbx hbd.team.1.1 (by decide), ne_types hbx hbd.team.1.2.1 (by decide), ne_types hbx hcp (by decide), fun hm' => ?_⟩
        obtain ⟨_, h'⟩ := hTk.lvb_heap hm'
        exact ne_types hbx h' (by decide) rfl
      have hown' : w'.ownsRow w0.heap.size 31 1 v n (L.map mptr) := by
        refine row_fr hrow hf' (fun y hy => ?_)
        obtain ⟨_, cur', h2⟩ := row_block hrow hy
        have hTk := hbd.team.member hkq
        obtain ⟨cp, hcp⟩ := hTk.pb_heap
        simp only [List.mem_cons, not_or]
        refine ⟨ne_types h2 hTk.1 (by decide), ne_types h2 hbd.team.1.1 (by decide), ne_types h2 hbd.team.1.2.1 (by decide), ne_types h2 hcp (by decide), fun hm' => ?_⟩
        obtain ⟨_, h'⟩ := hTk.lvb_heap hm'
        exact ne_types h2 h' (by decide) rfl
      have hset : ∀ T', T'.xb = T.xb → (L.set q T').map mptr = L.map mptr := by
        intro T' hxb
        rw [List.map_set]
        have : mptr T' = mptr T := by unfold mptr; rw [hxb]
        rw [this]
        refine List.ext_getElem? (fun i => ?_)
        rw [List.getElem?_set]
        split
        · rename_i hi
          subst hi
          split
          · rw [List.getElem?_map, hkq]; rfl
          · rename_i hl'; simp at hl'; omega
        · rfl
      have hcnt : L.countP (fun T => T.m.ended) ≤ n := by rw [← hL]; exact List.countP_le_length
      rcases hr with ⟨h1, h2, h3⟩ | ⟨h1, h3⟩
      · rw [h1] at hb'
        refine ⟨⟨_, rfl⟩, _, _, W, by simp [hL], hb', hI.paused hkq he rfl h3 ⟨rfl, rfl⟩ ?_ ?_, hbx', hhb, ?_⟩
        · show GoodLog S1.P.log
          rw [hx]; exact h2
        · show S1.P.log.length ≤ j + 1
          rw [hx]; simp [St.again, Mach.st]; omega
        · rw [hset]; exact hown'; rfl
      · rw [h1] at hb'
        have hWw : wrap64 (W + 1) = W + 1 := by
          have := hI.count
          unfold wrap64
          omega
        rw [hWw] at h3
        refine ⟨⟨_, rfl⟩, _, _, W + 1, by simp [hL], hb', hI.ended hkq he rfl h3 ⟨rfl, rfl⟩ rfl, hbx', hhb, ?_⟩
        rw [hset]; exact hown'; rfl
end Go.Proofs.Ytngdmkgbldgmiaa
