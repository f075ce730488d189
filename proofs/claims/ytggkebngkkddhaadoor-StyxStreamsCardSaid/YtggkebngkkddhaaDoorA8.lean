/- The walks through the rest of an input's methods. -/
import Derived.Test.YtggkebngkkddhaaDoorA7
import Derived.Deep.RegionWith
namespace Go.Proofs.YtggkebngkkddhaaDoor
open Go.RowKit

def IS.raw (st : IS) (n : Int) : ByteArray × IS :=
  let r := rdRaw st.s st.a st.e n
  (r.1, { st with a := r.2.2.1, e := r.2.2.2, cut := st.cut || r.2.1 != 0 })
def IS.sized (st : IS) (k : Int) : ByteArray × IS := (st.num k).2.raw (st.num k).1
def IS.count (st : IS) : Int × IS := let q := st.num 2; (q.1, { q.2 with over := q.2.over || decide (16 < q.1) })
def IS.finish (st : IS) : IS := { st with cut := (if st.e ≠ 0 then true else decide (st.a < st.s.size)) || st.cut, e := if st.e ≠ 0 then st.e else if st.a < st.s.size then 2 else 0 }

theorem IS.num_ok {st : IS} (h : st.Ok) {k : Int} (hk : 0 ≤ k) : (st.num k).2.Ok := by
  unfold IS.num rdNum
  by_cases he : st.e ≠ 0
  · simp only [if_pos he]; exact ⟨h.a0, h.a1, h.m⟩
  · by_cases hn : k ≤ st.s.size - st.a
    · simp only [if_neg he, if_pos hn]; exact ⟨by have := h.a0; show 0 ≤ st.a + k; omega, by show st.a + k ≤ st.s.size; omega, h.m⟩
    · simp only [if_neg he, if_neg hn]; exact ⟨h.a0, h.a1, h.m⟩
theorem IS.num_nn {st : IS} (h : st.Ok) {k : Int} (hk : 0 ≤ k) : 0 ≤ (st.num k).1 := by
  unfold IS.num rdNum
  by_cases he : st.e ≠ 0
  · simp only [if_pos he]; omega
  · by_cases hn : k ≤ st.s.size - st.a
    · simp only [if_neg he, if_pos hn]; exact (numAt_lt st.s st.a k h.a0 hk hn).1
    · simp only [if_neg he, if_neg hn]; omega
theorem IS.num_lt {st : IS} (h : st.Ok) {k : Int} (hk : k = 1 ∨ k = 2 ∨ k = 4) : (st.num k).1 < 4294967296 := by
  unfold IS.num rdNum
  by_cases he : st.e ≠ 0
  · simp only [if_pos he]; omega
  · by_cases hn : k ≤ st.s.size - st.a
    · simp only [if_neg he, if_pos hn]; exact (numAt_lt4 st.s st.a k h.a0 hk hn).2
    · simp only [if_neg he, if_neg hn]; omega
theorem IS.raw_ok {st : IS} (h : st.Ok) {n : Int} (hn0 : 0 ≤ n) : (st.raw n).2.Ok := by
  unfold IS.raw rdRaw
  by_cases he : st.e ≠ 0
  · simp only [if_pos he]; exact ⟨h.a0, h.a1, h.m⟩
  · by_cases hn : n ≤ st.s.size - st.a
    · simp only [if_neg he, if_pos hn]; exact ⟨by have := h.a0; show 0 ≤ st.a + n; omega, by show st.a + n ≤ st.s.size; omega, h.m⟩
    · simp only [if_neg he, if_neg hn]; exact ⟨h.a0, h.a1, h.m⟩
theorem IS.sized_ok {st : IS} (h : st.Ok) {k : Int} (hk : 0 ≤ k) : (st.sized k).2.Ok := IS.raw_ok (IS.num_ok h hk) (IS.num_nn h hk)

theorem Inp.alloc {w : World} {g r : Nat} {st : IS} (h : Inp w g r st) (o : Obj) : Inp (w.alloc o) g r st := ⟨h.b.alloc o, h.r.alloc o⟩
theorem Fr.unset {S : Nat → Prop} {w w' : World} {o : Obj} {v : Value} (h : Fr S ((w.alloc o).setCell ⟨w.heap.size, 0, none⟩ v) w') : Fr S w w' := by
  refine ⟨by have := h.1; simp [World.setCell] at this; omega, fun b hb hs => ?_, h.3⟩
  have e := h.2 b (by simp [World.setCell]; omega) hs
  have e1 := Below.heap_setCell (w.alloc o) ⟨w.heap.size, 0, none⟩ v b (fun e => by simp at e; omega)
  have e2 := Below.heap_alloc w o b hb
  exact e.trans (e1.trans e2)

theorem iRaw_step {w w1 : World} {g r : Nat} {st : IS} {n : Int} (h : Inp w g r st)
    (hr : Rdr w1 r st.s (rdRaw st.s st.a st.e n).2.2.1 (rdRaw st.s st.a st.e n).2.2.2) (hf : Fr (one_ r) w w1) :
    Inp (w1.setCell ⟨g, 3, none⟩ (.bool (st.raw n).2.cut)) g r (st.raw n).2 ∧ Fr (two_ g r) w (w1.setCell ⟨g, 3, none⟩ (.bool (st.raw n).2.cut)) := by
  have hb1 : Blk w1 g 53 _ := hf.blk h.b h.ne
  refine ⟨⟨?_, ?_⟩, ?_⟩
  · simpa [IS.raw] using hb1.set_ 3 (.bool (st.raw n).2.cut)
  · exact Blk.far hr (p := ⟨g, 3, none⟩) (fun e => h.ne e.symm) _
  · exact (hf.mono (S' := two_ g r) (fun _ x => .inr x)).set (p := ⟨g, 3, none⟩) (.inl rfl) _

set_option maxRecDepth 20000 in
theorem iSized_any (g r : Nat) (st : IS) (w : World) (k : Int) (h : Inp w g r st) (hok : st.Ok) (hk : k = 1 ∨ k = 2 ∨ k = 4) :
    Calls Tryd.prog 97 #[.pointer (some ⟨g, 0, none⟩), .int .i64 k] w (IPost (.string (st.sized k).1) g r (st.sized k).2 w) := by
  have hk0 : 0 ≤ k := by omega
  have hlt := h.b.lt
  have hltr := h.r.lt
  have H := Lib.hid (iNum_any g r st (w.alloc (.cells #[.int .i64 0] 3)) w.heap.size 0 (.int .i64 0) k (h.alloc _) hok hk ((Blk.new w 3 #[.int .i64 0]).cell 0) ((Blk.new w 3 #[.int .i64 0]).frozen 0) (by omega) (by omega))
  have hok2 := IS.num_ok hok hk0
  have hnn := IS.num_nn hok hk0
  have hs1 : ∀ v, ((w.alloc (.cells #[.int .i64 0] 3)).setCell ⟨w.heap.size, 0, none⟩ v).cell? ⟨w.heap.size, 0, none⟩ = some v := fun v => World.cell?_setCell_same _ _ _ ((Blk.new w 3 #[.int .i64 0]).cell 0)
  unfold IS.sized
  generalize st.num k = q at *
  obtain ⟨n, st1⟩ := q
  dsimp only at *
  have HS1 := Lib.hid (hs1 (.int .i64 n))
  have Hlt := Lib.hid hlt
  have Hltr := Lib.hid hltr
  have Hok2 := Lib.hid hok2
  have Hnn := Lib.hid hnn
  clear h hok hk hs1 hlt hltr hk0 hok2 hnn
  go_enter Tryd.func97, Tryd.ntmps97
  go_wp2_with fail
  refine H.out.mono ?_
  rintro _ w1 ⟨rfl, hi, hf⟩
  have hn1 : w1.cell? ⟨w.heap.size, 0, none⟩ = some (.int .i64 n) := hf.cell HS1.out (by rintro (e | e) <;> (have := Hlt.out; have := Hltr.out; simp at e; omega))
  have c0 : w1.cell? ⟨g, 0, none⟩ = some (.pointer (some ⟨r, 0, none⟩)) := hi.b.cell 0
  have H2 := Lib.hid (Raw_any r st1.s st1.a st1.e w1.drew n hi.r Hok2.out.a0 Hok2.out.a1 Hok2.out.m Hnn.out)
  have HI := Lib.hid hi.drew
  have HF := Lib.hid hf.unset
  clear hi hf H HS1 Hok2 Hnn
  go_wp2
  go_region_with (go_at_call 101; refine H2.out.mono ?_; rintro _ w2 ⟨rfl, hp⟩)
  all_goals
    obtain ⟨hr2, hg2⟩ := hp
    obtain ⟨hi2, hf2⟩ := iRaw_step HI.out hr2 hg2
    have hb2 : Blk w2 g 53 _ := hg2.blk HI.out.b HI.out.ne
    have d3 : w2.cell? ⟨g, 3, none⟩ = some (.bool st1.cut) := hb2.cell 3
    have df := hb2.frozen 3
    have HI2 := Lib.hid hi2
    have HF2 := Lib.hid ((HF.out.drew).trans hf2)
    have hcut : (st1.raw n).2.cut = (st1.cut || (rdRaw st1.s st1.a st1.e n).2.1 != 0) := rfl
    have Hcut := Lib.hid hcut
    have Hfst : Hid ((st1.raw n).1 = (rdRaw st1.s st1.a st1.e n).1) := Lib.hid rfl
    generalize (rdRaw st1.s st1.a st1.e n).2.1 = c at *
    generalize (rdRaw st1.s st1.a st1.e n).1 = v at *
    generalize hct : st1.cut = ct at *
    clear hcut hct hb2 hr2 hg2 hi2 hf2 HI HF c0 hn1 H2 Hlt Hltr
    cases ct
    · have e : (st1.raw n).2.cut = (c != 0) := by rw [Hcut.out]; rfl
      rw [e] at HI2 HF2
      clear e Hcut
      go_wp2
      go_ret
      exact ⟨by rw [Hfst.out]; rfl, HI2.out, HF2.out⟩
    · have e : (st1.raw n).2.cut = true := by rw [Hcut.out]; rfl
      rw [e] at HI2 HF2
      clear e Hcut
      go_wp2
      go_ret
      exact ⟨by rw [Hfst.out]; rfl, HI2.out, HF2.out⟩

theorem iText_any (g r : Nat) (st : IS) (w : World) (pb po : Nat) (x : Value) (h : Inp w g r st) (hok : st.Ok) (hp : w.cell? ⟨pb, po, none⟩ = some x) (hpf : w.frozen? ⟨pb, po, none⟩ = false) (hpg : pb ≠ g) (hpr : pb ≠ r) :
    Calls Tryd.prog 96 #[.pointer (some ⟨g, 0, none⟩), .pointer (some ⟨pb, po, none⟩)] w (IPost (.tuple #[]) g r (st.sized 2).2 (w.setCell ⟨pb, po, none⟩ (.string (st.sized 2).1))) := by
  have H := Lib.hid (iSized_any g r st w 2 h hok (by omega))
  have Hp := Lib.hid hp
  have Hpf := Lib.hid hpf
  have Hn : Hid (¬ two_ g r pb) := Lib.hid (fun x => x.elim hpg hpr)
  have Hpg := Lib.hid hpg
  have Hpr := Lib.hid hpr
  generalize st.sized 2 = q at *
  obtain ⟨v, st'⟩ := q
  dsimp only at *
  clear h hok hp hpf hpg hpr
  go_enter Tryd.func96, Tryd.ntmps96
  go_wp2_with fail
  refine H.out.mono ?_
  rintro _ w1 ⟨rfl, hi, hf⟩
  have hp1 := hf.cell Hp.out Hn.out
  have hf1 := hf.frozen Hp.out Hpf.out Hn.out
  have HI : Hid (Inp (w1.setCell ⟨pb, po, none⟩ (.string v)) g r st') := Lib.hid ⟨hi.b.far (p := ⟨pb, po, none⟩) (fun e => Hpg.out e.symm) _, Blk.far hi.r (p := ⟨pb, po, none⟩) (fun e => Hpr.out e.symm) _⟩
  have HF := Lib.hid (hf.setCong (p := ⟨pb, po, none⟩) (.string v) Hn.out)
  clear hi hf H
  go_wp2
  go_end0
  exact ⟨rfl, HI.out, HF.out⟩

theorem iData_any (g r : Nat) (st : IS) (w : World) (pb po : Nat) (x : Value) (h : Inp w g r st) (hok : st.Ok) (hp : w.cell? ⟨pb, po, none⟩ = some x) (hpf : w.frozen? ⟨pb, po, none⟩ = false) (hpg : pb ≠ g) (hpr : pb ≠ r) :
    Calls Tryd.prog 91 #[.pointer (some ⟨g, 0, none⟩), .pointer (some ⟨pb, po, none⟩)] w (IPost (.tuple #[]) g r (st.sized 4).2 (w.setCell ⟨pb, po, none⟩ (.string (st.sized 4).1))) := by
  have H := Lib.hid (iSized_any g r st w 4 h hok (by omega))
  have Hp := Lib.hid hp
  have Hpf := Lib.hid hpf
  have Hn : Hid (¬ two_ g r pb) := Lib.hid (fun x => x.elim hpg hpr)
  have Hpg := Lib.hid hpg
  have Hpr := Lib.hid hpr
  generalize st.sized 4 = q at *
  obtain ⟨v, st'⟩ := q
  dsimp only at *
  clear h hok hp hpf hpg hpr
  go_enter Tryd.func91, Tryd.ntmps91
  go_wp2_with fail
  refine H.out.mono ?_
  rintro _ w1 ⟨rfl, hi, hf⟩
  have hp1 := hf.cell Hp.out Hn.out
  have hf1 := hf.frozen Hp.out Hpf.out Hn.out
  have HI : Hid (Inp (w1.setCell ⟨pb, po, none⟩ (.string v)) g r st') := Lib.hid ⟨hi.b.far (p := ⟨pb, po, none⟩) (fun e => Hpg.out e.symm) _, Blk.far hi.r (p := ⟨pb, po, none⟩) (fun e => Hpr.out e.symm) _⟩
  have HF := Lib.hid (hf.setCong (p := ⟨pb, po, none⟩) (.string v) Hn.out)
  clear hi hf H
  go_wp2
  go_end0
  exact ⟨rfl, HI.out, HF.out⟩

theorem iCount_any (g r : Nat) (st : IS) (w : World) (h : Inp w g r st) (hok : st.Ok) :
    Calls Tryd.prog 100 #[.pointer (some ⟨g, 0, none⟩)] w (IPost (.int .i64 st.count.1) g r st.count.2 w) := by
  have hlt := h.b.lt
  have hltr := h.r.lt
  have H := Lib.hid (iNum_any g r st (w.alloc (.cells #[.int .i64 0] 3)) w.heap.size 0 (.int .i64 0) 2 (h.alloc _) hok (by omega) ((Blk.new w 3 #[.int .i64 0]).cell 0) ((Blk.new w 3 #[.int .i64 0]).frozen 0) (by omega) (by omega))
  have hs1 : ∀ v, ((w.alloc (.cells #[.int .i64 0] 3)).setCell ⟨w.heap.size, 0, none⟩ v).cell? ⟨w.heap.size, 0, none⟩ = some v := fun v => World.cell?_setCell_same _ _ _ ((Blk.new w 3 #[.int .i64 0]).cell 0)
  unfold IS.count
  dsimp only
  generalize st.num 2 = q at *
  obtain ⟨n, st1⟩ := q
  dsimp only at *
  have HS1 := Lib.hid (hs1 (.int .i64 n))
  have Hlt := Lib.hid hlt
  have Hltr := Lib.hid hltr
  clear h hok hs1 hlt hltr
  go_enter Tryd.func100, Tryd.ntmps100
  go_wp2_with fail
  refine H.out.mono ?_
  rintro _ w1 ⟨rfl, hi, hf⟩
  have hn1 : w1.cell? ⟨w.heap.size, 0, none⟩ = some (.int .i64 n) := hf.cell HS1.out (by rintro (e | e) <;> (have := Hlt.out; have := Hltr.out; simp at e; omega))
  have hgn : g ≠ w.heap.size := by have := Hlt.out; omega
  have d2 : w1.cell? ⟨g, 2, none⟩ = some (.bool st1.over) := hi.b.cell 2
  have df := hi.b.frozen 2
  have hI : ∀ b, Inp (w1.setCell ⟨g, 2, none⟩ (.bool b)) g r { st1 with over := b } := fun b => ⟨by simpa using hi.b.set_ 2 (.bool b), Blk.far hi.r (p := ⟨g, 2, none⟩) (fun e => hi.ne e.symm) _⟩
  have hF : ∀ b, Fr (two_ g r) w (w1.setCell ⟨g, 2, none⟩ (.bool b)) := fun b => (hf.unset).set (p := ⟨g, 2, none⟩) (.inl rfl) _
  have HI := Lib.hid hI
  have HF := Lib.hid hF
  clear hi hf H HS1 hI hF Hlt Hltr
  generalize hov : st1.over = ov at *
  have Hov := Lib.hid hov
  clear hov
  cases ov
  · go_wp2
    go_ret
    exact ⟨rfl, by simpa using HI.out (decide (16 < n)), by simpa using HF.out (decide (16 < n))⟩
  · go_wp2
    go_ret
    exact ⟨rfl, by simpa using HI.out true, by simpa using HF.out true⟩

theorem iErr_any (g r : Nat) (st : IS) (w : World) (h : Inp w g r st) :
    Calls Tryd.prog 25 #[.pointer (some ⟨g, 0, none⟩)] w (fun e w' => e = .returned (.int .i64 (if st.cut then 2 else if st.bad then 11 else if st.over then 3 else 0)) ∧ w = w') := by
  have c1 : w.cell? ⟨g, 1, none⟩ = some (.bool st.bad) := h.b.cell 1
  have c2 : w.cell? ⟨g, 2, none⟩ = some (.bool st.over) := h.b.cell 2
  have c3 : w.cell? ⟨g, 3, none⟩ = some (.bool st.cut) := h.b.cell 3
  clear h
  generalize st.bad = b at c1 ⊢
  generalize st.over = o at c2 ⊢
  generalize st.cut = c at c3 ⊢
  cases b <;> cases o <;> cases c <;>
  · go_enter Tryd.func25, Tryd.ntmps25
    go_wp2
    go_ret
    exact ⟨rfl, rfl⟩

theorem End_any (r : Nat) (s : ByteArray) (a e : Int) (w : World) (h : Rdr w r s a e) (hs : a ≤ s.size) :
    Calls Tryd.prog 57 #[.pointer (some ⟨r, 0, none⟩)] w (fun x w' => x = .returned (.int .i64 (if e ≠ 0 then e else if a < s.size then 2 else 0)) ∧ Rdr w' r s a (if e ≠ 0 then e else if a < s.size then 2 else 0) ∧ Fr (one_ r) w w') := by
  by_cases he : e ≠ 0
  · rw [if_pos he]
    exact (End_err r s a w e he h).mono fun _ _ ⟨h1, h2, h3⟩ => ⟨h1, h2, h3⟩
  · rw [if_neg he]
    obtain rfl : e = 0 := by omega
    by_cases hc : a < s.size
    · rw [if_pos hc]
      exact (End_more r s a w h hc).mono fun _ _ ⟨h1, h2, h3⟩ => ⟨h1, h2, h3⟩
    · rw [if_neg hc]
      exact (End_end r s a w h (by omega)).mono fun _ _ ⟨h1, h2, h3⟩ => ⟨h1, h2, h3⟩

theorem iFinish_any (g r : Nat) (st : IS) (w : World) (h : Inp w g r st) (hok : st.Ok) :
    Calls Tryd.prog 24 #[.pointer (some ⟨g, 0, none⟩)] w (IPost (.tuple #[]) g r st.finish w) := by
  have H := Lib.hid (End_any r st.s st.a st.e w h.r hok.a1)
  have c0 : w.cell? ⟨g, 0, none⟩ = some (.pointer (some ⟨r, 0, none⟩)) := h.b.cell 0
  have HH := Lib.hid h
  have hcut : st.finish.cut = ((if st.e ≠ 0 then st.e else if st.a < st.s.size then 2 else 0) != 0 || st.cut) := by
    unfold IS.finish
    by_cases he : st.e ≠ 0
    · simp [he]
    · by_cases hc : st.a < st.s.size <;> simp [he, hc]
  have he : st.finish.e = (if st.e ≠ 0 then st.e else if st.a < st.s.size then 2 else 0) := rfl
  have Hcut := Lib.hid hcut
  have He := Lib.hid he
  generalize (if st.e ≠ 0 then st.e else if st.a < st.s.size then 2 else (0 : Int)) = c at *
  clear h hok hcut he
  go_enter Tryd.func24, Tryd.ntmps24
  go_wp2_with fail
  refine H.out.mono ?_
  rintro _ w1 ⟨rfl, hr, hf⟩
  have hb1 : Blk w1 g 53 _ := hf.blk HH.out.b HH.out.ne
  have d3 : w1.cell? ⟨g, 3, none⟩ = some (.bool st.cut) := hb1.cell 3
  have df := hb1.frozen 3
  have hI : Inp (w1.setCell ⟨g, 3, none⟩ (.bool st.finish.cut)) g r st.finish := ⟨by simpa [IS.finish] using hb1.set_ 3 (.bool st.finish.cut), by rw [He.out]; exact Blk.far hr (p := ⟨g, 3, none⟩) (fun e => HH.out.ne e.symm) _⟩
  have hF : Fr (two_ g r) w (w1.setCell ⟨g, 3, none⟩ (.bool st.finish.cut)) := (hf.mono (S' := two_ g r) (fun _ x => .inr x)).set (p := ⟨g, 3, none⟩) (.inl rfl) _
  have HI := Lib.hid hI
  have HF := Lib.hid hF
  clear hI hF hr hf hb1 H HH He c0
  by_cases hc : c = 0
  · have hcb : (c != 0) = false := by simp [hc]
    have e : st.finish.cut = st.cut := by rw [Hcut.out, hcb]; rfl
    rw [e] at HI HF
    clear hc e Hcut
    go_wp2
    go_end0
    exact ⟨rfl, HI.out, HF.out⟩
  · have hcb : (c != 0) = true := by simp [hc]
    have e : st.finish.cut = true := by rw [Hcut.out, hcb]; rfl
    rw [e] at HI HF
    clear hc e Hcut
    go_wp2
    go_end0
    exact ⟨rfl, HI.out, HF.out⟩
end Go.Proofs.YtggkebngkkddhaaDoor
