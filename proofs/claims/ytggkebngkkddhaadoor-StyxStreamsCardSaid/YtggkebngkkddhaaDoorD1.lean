/- The walk through one, of any visitor. -/
import Derived.Test.YtggkebngkkddhaaDoorD0
namespace Go.Proofs.YtggkebngkkddhaaDoor
open Go.RowKit

/-- A visitor that writes back what it read. -/
structure Vis.Same (V : Vis) : Prop where
  num : ∀ st x k, (V.num st x k).1 = x
  long : ∀ st x, (V.long st x).1 = x
theorem Vis.Same.qid {V : Vis} (h : V.Same) (st : V.σ) (q : QV) : (V.qid st q).1 = q := by
  unfold Vis.qid
  simp only [h.num, h.long]

/-- The qids of a message may be written: they are nobody else's, or the visitor writes back what it read. -/
def QFree (V : Vis) (_S : Nat → Prop) (w : World) (vn vq : Value) : Prop := (∀ a n c, vq = .slice (some a) n c → w.heap.size ≤ a.block ∧ Apart vn (fun c => c = a.block)) ∨ V.Same

theorem cells_setQ {w : World} {b o : Nat} {q q' : QV} (h : QAt w b o q) : QAt (setQ w b o q') b o q' := by
  unfold setQ
  have h0 := World.cell?_setCell_same w _ (.int .i64 q'.k) h.1
  have h1 : (w.setCell ⟨b, o, none⟩ (.int .i64 q'.k)).cell? ⟨b, o + 1, none⟩ = some (.int .i64 q.v) := (cell_ne _ _ _ _ _ (by omega)).trans h.2.1
  have h2 : ((w.setCell ⟨b, o, none⟩ (.int .i64 q'.k)).setCell ⟨b, o + 1, none⟩ (.int .i64 q'.v)).cell? ⟨b, o + 2, none⟩ = some (.int .i64 q.p) := (cell_ne _ _ _ _ _ (by omega)).trans ((cell_ne _ _ _ _ _ (by omega)).trans h.2.2)
  refine ⟨?_, ?_, World.cell?_setCell_same _ _ _ h2⟩
  · rw [cell_ne _ _ _ _ _ (by omega), cell_ne _ _ _ _ _ (by omega)]; exact h0
  · rw [cell_ne _ _ _ _ _ (by omega)]; exact World.cell?_setCell_same _ _ _ h1
theorem NoFrzAt.setQ {w : World} {b o n b' o' : Nat} {q : QV} (h : NoFrzAt w b o n) : NoFrzAt (Proofs.YtggkebngkkddhaaDoor.setQ w b' o' q) b o n := by
  unfold Proofs.YtggkebngkkddhaaDoor.setQ
  exact ((h.set _ _).set _ _).set _ _

section
variable {V : Vis} {F S : Nat → Prop} {w wk : World} {b : Nat} {st : V.σ} {m : MV} {vn vq : Value}

theorem MS.qid1 (hV : V.Good) (h : MS V F S w b st m vn vq wk) {q : QV} {qb qo cap : Nat} (hm : m.qids = [q]) (hvq : vq = .slice (some ⟨qb, qo, none⟩) 1 cap) (hS : QFree V S w vn vq) (hr : i64r q.p) (hfit : V.fit st 32) :
    Calls Tryd.prog 68 #[.iface V.T V.v, .pointer (some ⟨qb, qo, none⟩)] wk (fun e w' => e = .returned (.tuple #[]) ∧ MS V F S w b (V.qid st q).2 { m with qids := [(V.qid st q).1] } vn vq w') := by
  obtain ⟨F', hi, hF, a1, a2⟩ := h.ex
  have hb' : ¬ F' b := fun x => (hF _ x).elim h.nb (fun e => by have := h.lt; omega)
  have hqb : ¬ F' qb := a2 ⟨qb, qo, none⟩ 1 cap hvq (by omega)
  have hne : b ≠ qb := fun e => h.aq ⟨qb, qo, none⟩ 1 cap hvq (by omega) e.symm
  have hqs := h.qs
  rw [hm] at hqs
  obtain ⟨oa, cap', e1, hqs⟩ := hqs
  obtain ⟨b2, o2, e2, hq, hz⟩ := hqs 0 q rfl
  rw [hvq, e2] at e1
  injection e1 with e1
  injection e1 with e1
  injection e1 with e1 e3
  subst e1 e3
  rw [Nat.zero_mul, Nat.add_zero] at hq hz
  refine (qid_at V hV st F' wk wk wk qb qo q (VS.start hi) hqb (cell_lt hq.1) hq hz hr hfit).mono ?_
  rintro e w' ⟨rfl, F2, hi2, hF2, hfr2, hs2⟩
  have hx : Fr (fun c => F' c ∨ c = qb) wk w' := ((Fr.refl _ wk).setQ_ qo _ (Or.inr rfl)).trans (hfr2.mono (fun c x => .inl x))
  have hq2 : QAt (setQ wk qb qo (V.qid st q).1) qb qo (V.qid st q).1 := cells_setQ hq
  have hns : StrsAt w' vn m.names := by
    rcases hS with hS | hS
    · exact h.ns.fr hx (a1.or (hS _ _ _ hvq).2)
    · rw [hS.qid] at hfr2
      exact h.ns.fr (hfr2.unsameQ hq) a1
  refine ⟨rfl, ⟨F2, hi2, fun c hc => ?_, fun a n c e hn x => ?_, fun a n c e hn x => ?_⟩, h.nb, h.lt, ?_, hns, ?_, h.an, h.aq, ?_, h.sl, h.sn, h.sq⟩
  · rcases hF2 c hc with x | x
    · exact hF c x
    · have := h.fr.1; exact .inr (by omega)
  · rcases hF2 _ x with y | y
    · exact a1 a n c e hn y
    · have := h.ns.lt e hn; omega
  · rcases hF2 _ x with y | y
    · exact a2 a n c e hn y
    · have := h.qs.lt e hn; omega
  · exact hx.blk h.blk (fun x => x.elim hb' hne)
  · refine ⟨some ⟨qb, qo, none⟩, cap, hvq, fun i x hi => ?_⟩
    cases i with
    | zero =>
      simp at hi
      subst hi
      refine ⟨qb, qo, rfl, ?_, ?_⟩
      · rw [Nat.zero_mul, Nat.add_zero]; exact ⟨hfr2.cell hq2.1 hqb, hfr2.cell hq2.2.1 hqb, hfr2.cell hq2.2.2 hqb⟩
      · rw [Nat.zero_mul, Nat.add_zero]
        intro j hj
        have hzz := (hz.setQ (b' := qb) (o' := qo) (q := (V.qid st q).1)) j hj
        exact (World.frozen?_of_block (a := ⟨qb, qo + j, none⟩) (hfr2.2 qb (by rw [size_setQ]; exact cell_lt hq.1) hqb)).trans hzz
    | succ i => simp at hi
  · rcases hS with hS | hS
    · refine h.fr.trans_ hx (fun c hc hl => ?_)
      rcases hc with x | x
      · rcases hF c x with y | y
        · exact .inl y
        · omega
      · subst x
        have : w.heap.size ≤ c := (hS _ _ _ hvq).1
        omega
    · rw [hS.qid] at hfr2
      refine h.fr.trans_ (hfr2.unsameQ hq) (fun c hc hl => ?_)
      rcases hF c hc with y | y
      · exact .inl y
      · omega

def Vis.one (V : Vis) (st : V.σ) (m : MV) : MV × V.σ := let r := V.qid st (match m.qids with | [q] => q | _ => ⟨0, 0, 0⟩); ({ m with qids := [r.1] }, r.2)

/-- Behind a step that may give the message new lists. -/
def MPost (V : Vis) (F S : Nat → Prop) (w : World) (b : Nat) (r : MV × V.σ) (e : Ending) (w' : World) : Prop := e = .returned (.tuple #[]) ∧ ∃ vn vq, MS V F S w b r.2 r.1 vn vq w'

set_option maxRecDepth 20000 in
theorem one_yes (hV : V.Good) (h : MS V F S w b st m vn vq wk) {q : QV} (hm : m.qids = [q]) (hS : QFree V S w vn vq) (hr : i64r q.p) (hfit : V.fit st 32) :
    Calls Tryd.prog 56 #[.iface V.T V.v, .pointer (some ⟨b, 0, none⟩)] wk (MPost V F S w b (V.one st m)) := by
  have hone : V.one st m = ({ m with qids := [(V.qid st q).1] }, (V.qid st q).2) := by unfold Vis.one; rw [hm]
  rw [hone]
  have hqs := h.qs
  rw [hm] at hqs
  obtain ⟨oa, cap, hvq, hqs⟩ := hqs
  obtain ⟨qb, qo, rfl, _⟩ := hqs 0 q rfl
  have hvq : vq = .slice (some ⟨qb, qo, none⟩) 1 cap := hvq
  have H := Lib.hid (h.qid1 hV hm hvq hS hr hfit)
  have c1 : wk.cell? ⟨b, 14, none⟩ = some (.slice (some ⟨qb, qo, none⟩) 1 cap) := by rw [← hvq]; exact h.blk.cell 14
  clear hone hqs hvq h hm hS hr hfit
  go_enter Tryd.func56, Tryd.ntmps56
  go_wp2_with fail
  refine H.out.mono ?_
  rintro _ w1 ⟨rfl, h1⟩
  have H1 := Lib.hid h1
  clear h1 H
  go_wp2
  go_end0
  exact ⟨rfl, vn, vq, H1.out⟩

/-- A message whose qids are laid anew. -/
theorem MS.laid (hV : V.Good) (h : MS V F S w b st m vn vq wk) : MS V F S w b st { m with qids := [⟨0, 0, 0⟩] } vn (.slice (some ⟨wk.heap.size, 0, none⟩) 1 1)
    ((wk.alloc (.cells #[.int .i64 0, .int .i64 0, .int .i64 0] 26)).setCell ⟨b, 14, none⟩ (.slice (some ⟨wk.heap.size, 0, none⟩) 1 1)) := by
  have h1 : Fr none_ wk (wk.alloc (.cells #[.int .i64 0, .int .i64 0, .int .i64 0] 26)) := (Fr.refl _ wk).alloc _
  have h2 : Fr (fun c => c = b) wk ((wk.alloc (.cells #[.int .i64 0, .int .i64 0, .int .i64 0] 26)).setCell ⟨b, 14, none⟩ (.slice (some ⟨wk.heap.size, 0, none⟩) 1 1)) :=
    ((Fr.refl (fun c => c = b) wk).alloc _).set (p := ⟨b, 14, none⟩) (show b = b from rfl) _
  have hlt := h.blk.lt
  have hq := Blk.new wk 26 #[.int .i64 0, .int .i64 0, .int .i64 0]
  have hq2 := hq.far (p := ⟨b, 14, none⟩) (by show wk.heap.size ≠ b; omega) (.slice (some ⟨wk.heap.size, 0, none⟩) 1 1)
  obtain ⟨F', hi, hF, a1, a2⟩ := h.ex
  have hF' : ∀ c, F' c → c < wk.heap.size := fun c hc => hV.lt _ _ _ c hi hc
  have hnb : ∀ c, F' c → ¬ c = b := fun c hc e => by subst e; exact (hF _ hc).elim h.nb (fun e => by have := h.lt; omega)
  refine ⟨⟨F', hV.keep _ _ _ _ _ hi h2 hnb, hF, a1, fun a n c e hn x => ?_⟩, h.nb, h.lt, ?_, h.ns.fr h2 h.an, ⟨some ⟨wk.heap.size, 0, none⟩, 1, rfl, fun i x hi => ?_⟩, h.an, fun a n c e hn x => ?_, ?_, h.sl, h.sn, fun a n c e hn x => ?_⟩
  · injection e with e1 _ _
    injection e1 with e1
    subst e1
    have := hF' _ x
    exact absurd this (Nat.lt_irrefl _)
  · exact (h.blk.alloc _).set_ 14 _
  · cases i with
    | zero =>
      simp at hi
      subst hi
      exact ⟨wk.heap.size, 0, rfl, ⟨hq2.cell 0, hq2.cell 1, hq2.cell 2⟩, hq2.noFrz.at _ _⟩
    | succ i => simp at hi
  · injection e with e1 _ _
    injection e1 with e1
    subst e1
    have : wk.heap.size = b := x
    omega
  · exact h.fr.trans_ h2 (fun c hc _ => .inr hc)
  · injection e with e1 _ _
    injection e1 with e1
    subst e1
    have := h.sl _ x
    have := h.fr.1
    have : wk.heap.size < w.heap.size := h.sl _ x
    omega

theorem made_qid : madeCells (Value.agg #[.int .i64 0, .int .i64 0, .int .i64 0]).cells (Int.toNat 1 * 3) = #[.int .i64 0, .int .i64 0, .int .i64 0] := by
  apply Array.ext
  · simp [madeCells]
  · intro i h1 h2
    have h3 : i < 3 := by simpa [madeCells] using h1
    simp only [madeCells, Value.cells, Array.getElem_map, Array.getElem_range]
    have : i = 0 ∨ i = 1 ∨ i = 2 := by omega
    rcases this with rfl | rfl | rfl <;> rfl
theorem make_qid (w : World) : (Instr.makeSlice 24 (.int .i64 1) (.int .i64 1)).run Tryd.prog w = .ok (.slice (some ⟨w.heap.size, 0, none⟩) 1 1) (w.alloc (.cells #[.int .i64 0, .int .i64 0, .int .i64 0] 26)) := by
  obtain ⟨i0, hi0, hz0, hz1, hz2⟩ := info_parts info26
  have h := run_make (P := Tryd.prog) w 24 26 i0 _ Tryd.underlying24 hi0 hz0 .i64 .i64 1 1 (by omega) (by omega) (by rw [hz2]; omega) (by omega)
  rw [h, hz1, made_qid]
  rfl

set_option maxRecDepth 20000 in
theorem one_no (hV : V.Good) (h : MS V F S w b st m vn vq wk) (hm : m.qids = []) (hfit : V.fit st 32) :
    Calls Tryd.prog 56 #[.iface V.T V.v, .pointer (some ⟨b, 0, none⟩)] wk (MPost V F S w b (V.one st m)) := by
  have hone : V.one st m = ({ m with qids := [(V.qid st ⟨0, 0, 0⟩).1] }, (V.qid st ⟨0, 0, 0⟩).2) := by unfold Vis.one; rw [hm]
  rw [hone]
  have hqs := h.qs
  rw [hm] at hqs
  obtain ⟨oa, cap, hvq, hqs⟩ := hqs
  have hvq : vq = .slice oa 0 cap := hvq
  have c1 : wk.cell? ⟨b, 14, none⟩ = some (.slice oa 0 cap) := by rw [← hvq]; exact h.blk.cell 14
  have z1 := h.blk.frozen 14
  have c2 : (wk.alloc (.cells #[.int .i64 0, .int .i64 0, .int .i64 0] 26)).cell? ⟨b, 14, none⟩ = some (.slice oa 0 cap) := by rw [← hvq]; exact (h.blk.alloc _).cell 14
  have z2 := (h.blk.alloc (.cells #[.int .i64 0, .int .i64 0, .int .i64 0] 26)).frozen 14
  have h2 := h.laid hV
  have hqf : QFree V S w vn (.slice (some ⟨wk.heap.size, 0, none⟩) 1 1) := .inl (fun a n c e => by
    injection e with e1 _ _
    injection e1 with e1
    subst e1
    exact ⟨h.fr.1, fun a n c e hn x => by have := h.ns.lt e hn; have : a.block = wk.heap.size := x; omega⟩)
  have H := Lib.hid (h2.qid1 hV rfl rfl hqf ⟨by show _ ≤ (0 : Int); omega, by show (0 : Int) ≤ _; omega⟩ hfit)
  rw [World.setCell_alloc_past _ _ _ _ h.blk.lt] at H h2
  have c3 := h2.blk.cell 14
  simp [mcells] at c3
  have hlt := h.blk.lt
  have hmk := make_qid
  clear hone hqs hvq h hm hfit h2 hqf
  go_enter Tryd.func56, Tryd.ntmps56
  go_wp2_with fail
  refine H.out.mono ?_
  rintro _ w1 ⟨rfl, h1⟩
  have H1 := Lib.hid h1
  clear h1 H
  go_wp2
  go_end0
  exact ⟨rfl, vn, _, H1.out⟩
end
end Go.Proofs.YtggkebngkkddhaaDoor
