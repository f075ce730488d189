/- The walks through the methods of an input. -/
import Derived.Test.YtggkebngkkddhaaDoorA3
import Derived.StillTailTactics
import Derived.RegionTactic
import Derived.BigRegion
namespace Go.Proofs.YtggkebngkkddhaaDoor
open Go.RowKit

/-- What an input holds: its reader's text, place and error, and what is wrong. -/
structure IS where
  s : ByteArray
  a : Int
  e : Int
  bad : Bool
  over : Bool
  cut : Bool

structure IS.Ok (st : IS) : Prop where
  a0 : 0 ≤ st.a
  a1 : st.a ≤ st.s.size
  m : st.s.size ≤ maxLen

structure Inp (w : World) (g r : Nat) (st : IS) : Prop where
  b : Blk w g 53 #[.pointer (some ⟨r, 0, none⟩), .bool st.bad, .bool st.over, .bool st.cut]
  r : Rdr w r st.s st.a st.e

theorem Inp.ne {w : World} {g r : Nat} {st : IS} (h : Inp w g r st) : g ≠ r := Blk.ne_ h.b h.r (by decide)

def IPost (v : Value) (g r : Nat) (st : IS) (W : World) (e : Ending) (w' : World) : Prop := e = .returned v ∧ Inp w' g r st ∧ Fr (two_ g r) W w'

/-- What Little, Signed and Raw do to a reader: the value, the code, the place, the error. -/
def rdNum (s : ByteArray) (a e : Int) (k : Int) : Int × Int × Int × Int :=
  if e ≠ 0 then (0, e, a, e) else if k ≤ s.size - a then (numAt s a k, 0, a + k, 0) else (0, 16, a, 16)
def rdLong (s : ByteArray) (a e : Int) : Int × Int × Int × Int :=
  if e ≠ 0 then (0, e, a, e) else if 8 ≤ s.size - a then (wrap64 (numAt s a 8), 0, a + 8, 0) else (0, 16, a, 16)
def rdRaw (s : ByteArray) (a e : Int) (n : Int) : ByteArray × Int × Int × Int :=
  if e ≠ 0 then (⟨#[]⟩, e, a, e) else if n ≤ s.size - a then (s.extract a.toNat (a + n).toNat, 0, a + n, 0) else (⟨#[]⟩, 16, a, 16)

section
variable (g : Nat) (s : ByteArray) (a e : Int) (w : World)
theorem Little_any (k : Int) (h : Rdr w g s a e) (ha : 0 ≤ a) (hs : a ≤ s.size) (hm : s.size ≤ maxLen) (hk : k = 1 ∨ k = 2 ∨ k = 4) :
    Calls Tryd.prog 54 #[.pointer (some ⟨g, 0, none⟩), .int .i64 k] w (RdPost (.int .i64 (rdNum s a e k).1) (rdNum s a e k).2.1 g s (rdNum s a e k).2.2.1 (rdNum s a e k).2.2.2 w) := by
  unfold rdNum
  by_cases he : e ≠ 0
  · rw [if_pos he]; exact Little_err g s a k w e he h
  · rw [if_neg he]
    obtain rfl : e = 0 := by omega
    by_cases hn : k ≤ s.size - a
    · rw [if_pos hn]; exact Little_yes g s a k w h ha hs hm hk hn
    · rw [if_neg hn]; exact Little_no g s a k w h ha hs hm hk (by omega)
theorem Signed_any (h : Rdr w g s a e) (ha : 0 ≤ a) (hs : a ≤ s.size) (hm : s.size ≤ maxLen) :
    Calls Tryd.prog 102 #[.pointer (some ⟨g, 0, none⟩), .int .i64 8] w (RdPost (.int .i64 (rdLong s a e).1) (rdLong s a e).2.1 g s (rdLong s a e).2.2.1 (rdLong s a e).2.2.2 w) := by
  unfold rdLong
  by_cases he : e ≠ 0
  · rw [if_pos he]; exact Signed_err g s a w e he h
  · rw [if_neg he]
    obtain rfl : e = 0 := by omega
    by_cases hn : 8 ≤ s.size - a
    · rw [if_pos hn]; exact Signed_yes g s a w h ha hs hm hn
    · rw [if_neg hn]; exact Signed_no g s a w h ha hs hm (by omega)
theorem Raw_any (n : Int) (h : Rdr w g s a e) (ha : 0 ≤ a) (hs : a ≤ s.size) (hm : s.size ≤ maxLen) (hn0 : 0 ≤ n) :
    Calls Tryd.prog 101 #[.pointer (some ⟨g, 0, none⟩), .int .i64 n] w (RdPost (.string (rdRaw s a e n).1) (rdRaw s a e n).2.1 g s (rdRaw s a e n).2.2.1 (rdRaw s a e n).2.2.2 w) := by
  unfold rdRaw
  by_cases he : e ≠ 0
  · rw [if_pos he]; exact Raw_err g s a n w e he h
  · rw [if_neg he]
    obtain rfl : e = 0 := by omega
    by_cases hn : n ≤ s.size - a
    · rw [if_pos hn]; exact Raw_yes g s a n w h ha hs hm hn0 hn
    · rw [if_neg hn]; exact Raw_no g s a n w h ha hs hm hn0 (by omega)
end

def IS.num (st : IS) (k : Int) : Int × IS :=
  let r := rdNum st.s st.a st.e k
  (r.1, { st with a := r.2.2.1, e := r.2.2.2, cut := st.cut || r.2.1 != 0 })

theorem Inp.fr {S : Nat → Prop} {w w' : World} {g r : Nat} {st : IS} (h : Inp w g r st) (hf : Fr S w w') (hg : ¬ S g) (hr : ¬ S r) : Inp w' g r st := ⟨hf.blk h.b hg, hf.blk h.r hr⟩
theorem Fr.setCong {S : Nat → Prop} {w w' : World} (h : Fr S w w') {p : Addr} (v : Value) (hp : ¬ S p.block) : Fr S (w.setCell p v) (w'.setCell p v) := by
  refine ⟨by simpa [World.setCell] using h.1, fun b hb hs => ?_, h.3⟩
  have hb' : b < w.heap.size := by simpa [World.setCell] using hb
  simp only [World.setCell, Array.getElem?_modify]
  rw [h.2 b hb' hs]

theorem cell_lt {w : World} {p : Addr} {x : Value} (h : w.cell? p = some x) : p.block < w.heap.size := by
  rcases Nat.lt_or_ge p.block w.heap.size with hlt | hge
  · exact hlt
  · simp [World.cell?, Array.getElem?_eq_none hge] at h
theorem Fr.cell {S : Nat → Prop} {w w' : World} (hf : Fr S w w') {p : Addr} {x : Value} (h : w.cell? p = some x) (hn : ¬ S p.block) : w'.cell? p = some x :=
  (World.cell?_of_block (hf.2 p.block (cell_lt h) hn)).trans h
theorem Fr.frozen {S : Nat → Prop} {w w' : World} (hf : Fr S w w') {p : Addr} {x : Value} {b : Bool} (hc : w.cell? p = some x) (h : w.frozen? p = b) (hn : ¬ S p.block) : w'.frozen? p = b :=
  (World.frozen?_of_block (hf.2 p.block (cell_lt hc) hn)).trans h

/-- What a store does to a block's object. -/
def putAt (p : Addr) (v : Value) : Obj → Obj
  | .cells c elem frozen => .cells (if p.spot.isSome then c else c.setIfInBounds p.off v) elem frozen
  | o => o
theorem heap_setCell_eq (w : World) (p : Addr) (v : Value) (b : Nat) : (w.setCell p v).heap[b]? = if p.block = b then (w.heap[b]?).map (putAt p v) else w.heap[b]? := by
  simp only [World.setCell, Array.getElem?_modify]
  rfl
theorem putAt_twice (p : Addr) (u v : Value) (o : Obj) : putAt p v (putAt p u o) = putAt p v o := by
  cases o <;> simp only [putAt]
  split <;> simp
theorem Fr.reset {S : Nat → Prop} {w w' : World} {p : Addr} {u : Value} (h : Fr S (w.setCell p u) w') (v : Value) (hp : ¬ S p.block) : Fr S (w.setCell p v) (w'.setCell p v) := by
  refine ⟨by have := h.1; simpa [World.setCell] using this, fun b hb hs => ?_, h.3⟩
  have hb' : b < (w.setCell p u).heap.size := by simpa [World.setCell] using hb
  have e := h.2 b hb' hs
  rw [heap_setCell_eq, heap_setCell_eq, e, heap_setCell_eq]
  by_cases hpb : p.block = b
  · simp only [if_pos hpb, Option.map_map]
    congr 1
    funext o
    exact putAt_twice p u v o
  · simp only [if_neg hpb]

set_option maxRecDepth 20000 in
theorem iNum_any (g r : Nat) (st : IS) (w : World) (pb po : Nat) (x : Value) (k : Int) (h : Inp w g r st) (hok : st.Ok) (hk : k = 1 ∨ k = 2 ∨ k = 4) (hp : w.cell? ⟨pb, po, none⟩ = some x) (hpf : w.frozen? ⟨pb, po, none⟩ = false) (hpg : pb ≠ g) (hpr : pb ≠ r) :
    Calls Tryd.prog 21 #[.pointer (some ⟨g, 0, none⟩), .pointer (some ⟨pb, po, none⟩), .int .i64 k] w (IPost (.tuple #[]) g r (st.num k).2 (w.setCell ⟨pb, po, none⟩ (.int .i64 (st.num k).1))) := by
  have H := Lib.hid (Little_any r st.s st.a st.e w k h.r hok.a0 hok.a1 hok.m hk)
  have HH := Lib.hid h
  have c0 : w.cell? ⟨g, 0, none⟩ = some (.pointer (some ⟨r, 0, none⟩)) := h.b.cell 0
  have Hpf := Lib.hid hpf
  have Hp := Lib.hid hp
  unfold IS.num
  dsimp only
  generalize rdNum st.s st.a st.e k = q at *
  obtain ⟨v, c, a', e'⟩ := q
  dsimp only at *
  clear h hk hp hpf hok
  go_enter Tryd.func21, Tryd.ntmps21
  go_wp2_with fail
  refine H.out.mono ?_
  rintro _ w1 ⟨rfl, hr, hf⟩
  have hb1 : Blk w1 g 53 _ := hf.blk HH.out.b HH.out.ne
  have d3 : w1.cell? ⟨g, 3, none⟩ = some (.bool st.cut) := hb1.cell 3
  have df := hb1.frozen 3
  have hp1 := hf.cell Hp.out hpr
  have hpf1 := hf.frozen Hp.out Hpf.out hpr
  have hI : ∀ b, Inp ((w1.setCell ⟨pb, po, none⟩ (.int .i64 v)).setCell ⟨g, 3, none⟩ (.bool b)) g r { st with a := a', e := e', cut := b } := fun b =>
    ⟨by simpa using (hb1.far (p := ⟨pb, po, none⟩) (fun e => hpg e.symm) (.int .i64 v)).set_ 3 (.bool b),
     (Blk.far (Blk.far hr (p := ⟨pb, po, none⟩) (fun e => hpr e.symm) _) (p := ⟨g, 3, none⟩) (fun e => HH.out.ne e.symm) _)⟩
  have hF : ∀ b, Fr (two_ g r) (w.setCell ⟨pb, po, none⟩ (.int .i64 v)) ((w1.setCell ⟨pb, po, none⟩ (.int .i64 v)).setCell ⟨g, 3, none⟩ (.bool b)) := fun b =>
    ((hf.mono (S' := two_ g r) (fun _ x => .inr x)).setCong _ (fun x => x.elim hpg hpr)).set (p := ⟨g, 3, none⟩) (.inl rfl) _
  have HI := Lib.hid hI
  have HF := Lib.hid hF
  have hgp : g ≠ pb := fun e => hpg e.symm
  clear hI hF hb1 hr hf c0 H HH Hp Hpf hpr
  generalize st.cut = ct at *
  cases ct
  · go_wp2
    go_end0
    exact ⟨rfl, by simpa using HI.out (c != 0), by simpa using HF.out (c != 0)⟩
  · go_wp2
    go_end0
    exact ⟨rfl, by simpa using HI.out true, by simpa using HF.out true⟩

theorem Inp.drew {w : World} {g r : Nat} {st : IS} (h : Inp w g r st) : Inp w.drew g r st := ⟨h.b, h.r⟩
def IS.least (st : IS) (least : Int) : Int × IS :=
  let r := rdLong st.s st.a st.e
  (r.1, { st with a := r.2.2.1, e := r.2.2.2, bad := st.bad || decide (r.1 < least), cut := st.cut || r.2.1 != 0 })

set_option maxRecDepth 20000 in
theorem iLeast_any (g r : Nat) (st : IS) (w : World) (pb po : Nat) (x : Value) (least : Int) (h : Inp w g r st) (hok : st.Ok) (hp : w.cell? ⟨pb, po, none⟩ = some x) (hpf : w.frozen? ⟨pb, po, none⟩ = false) (hpg : pb ≠ g) (hpr : pb ≠ r) :
    Calls Tryd.prog 99 #[.pointer (some ⟨g, 0, none⟩), .pointer (some ⟨pb, po, none⟩), .int .i64 least] w (IPost (.tuple #[]) g r (st.least least).2 (w.setCell ⟨pb, po, none⟩ (.int .i64 (st.least least).1))) := by
  have H := Lib.hid (Signed_any r st.s st.a st.e w h.r hok.a0 hok.a1 hok.m)
  have HH := Lib.hid h
  have c0 : w.cell? ⟨g, 0, none⟩ = some (.pointer (some ⟨r, 0, none⟩)) := h.b.cell 0
  have Hpf := Lib.hid hpf
  have Hp := Lib.hid hp
  unfold IS.least
  dsimp only
  generalize rdLong st.s st.a st.e = q at *
  obtain ⟨v, c, a', e'⟩ := q
  dsimp only at *
  clear h hp hpf hok
  go_enter Tryd.func99, Tryd.ntmps99
  go_wp2_with fail
  refine H.out.mono ?_
  rintro _ w1 ⟨rfl, hr, hf⟩
  have hb1 : Blk w1 g 53 _ := hf.blk HH.out.b HH.out.ne
  have d3 : w1.cell? ⟨g, 3, none⟩ = some (.bool st.cut) := hb1.cell 3
  have df := hb1.frozen 3
  have d1 : w1.cell? ⟨g, 1, none⟩ = some (.bool st.bad) := hb1.cell 1
  have df1 := hb1.frozen 1
  have hp1 := hf.cell Hp.out hpr
  have hpf1 := hf.frozen Hp.out Hpf.out hpr
  have hI : ∀ b c, Inp (((w1.setCell ⟨pb, po, none⟩ (.int .i64 v)).setCell ⟨g, 1, none⟩ (.bool b)).setCell ⟨g, 3, none⟩ (.bool c)) g r { st with a := a', e := e', bad := b, cut := c } := fun b c =>
    ⟨by simpa using ((hb1.far (p := ⟨pb, po, none⟩) (fun e => hpg e.symm) (.int .i64 v)).set_ 1 (.bool b)).set_ 3 (.bool c),
     (Blk.far (Blk.far (Blk.far hr (p := ⟨pb, po, none⟩) (fun e => hpr e.symm) _) (p := ⟨g, 1, none⟩) (fun e => HH.out.ne e.symm) _) (p := ⟨g, 3, none⟩) (fun e => HH.out.ne e.symm) _)⟩
  have hF : ∀ b c, Fr (two_ g r) (w.setCell ⟨pb, po, none⟩ (.int .i64 v)) (((w1.setCell ⟨pb, po, none⟩ (.int .i64 v)).setCell ⟨g, 1, none⟩ (.bool b)).setCell ⟨g, 3, none⟩ (.bool c)) := fun b c =>
    (((hf.mono (S' := two_ g r) (fun _ x => .inr x)).setCong _ (fun x => x.elim hpg hpr)).set (p := ⟨g, 1, none⟩) (.inl rfl) _).set (p := ⟨g, 3, none⟩) (.inl rfl) _
  have HI := Lib.hid hI
  have HF := Lib.hid hF
  have hgp : g ≠ pb := fun e => hpg e.symm
  clear hI hF hb1 hr hf c0 H HH Hp Hpf hpr
  generalize st.cut = ct at *
  generalize st.bad = bd at *
  cases ct <;> cases bd
  · go_wp2
    go_region
    go_end0
    exact ⟨rfl, by simpa using (HI.out (decide (v < least)) (c != 0)).drew, by simpa using (HF.out (decide (v < least)) (c != 0)).drew⟩
  · go_wp2
    go_region
    go_end0
    exact ⟨rfl, by simpa using (HI.out true (c != 0)).drew, by simpa using (HF.out true (c != 0)).drew⟩
  · go_wp2
    go_region
    go_end0
    exact ⟨rfl, by simpa using (HI.out (decide (v < least)) true).drew, by simpa using (HF.out (decide (v < least)) true).drew⟩
  · go_wp2
    go_region
    go_end0
    exact ⟨rfl, by simpa using (HI.out true true).drew, by simpa using (HF.out true true).drew⟩

theorem iLong_any (g r : Nat) (st : IS) (w : World) (pb po : Nat) (x : Value) (h : Inp w g r st) (hok : st.Ok) (hp : w.cell? ⟨pb, po, none⟩ = some x) (hpf : w.frozen? ⟨pb, po, none⟩ = false) (hpg : pb ≠ g) (hpr : pb ≠ r) :
    Calls Tryd.prog 93 #[.pointer (some ⟨g, 0, none⟩), .pointer (some ⟨pb, po, none⟩)] w (IPost (.tuple #[]) g r (st.least (0)).2 (w.setCell ⟨pb, po, none⟩ (.int .i64 (st.least (0)).1))) := by
  have H := Lib.hid (iLeast_any g r st w pb po x (0) h hok hp hpf hpg hpr)
  clear h hok hp hpf hpg hpr
  go_enter Tryd.func93, Tryd.ntmps93
  go_wp2_with fail
  refine H.out.mono ?_
  rintro _ w1 ⟨rfl, hi, hf⟩
  have HI := Lib.hid hi
  have HF := Lib.hid hf
  clear hi hf H
  go_wp2
  go_end0
  exact ⟨rfl, HI.out, HF.out⟩

theorem iOptional_any (g r : Nat) (st : IS) (w : World) (pb po : Nat) (x : Value) (h : Inp w g r st) (hok : st.Ok) (hp : w.cell? ⟨pb, po, none⟩ = some x) (hpf : w.frozen? ⟨pb, po, none⟩ = false) (hpg : pb ≠ g) (hpr : pb ≠ r) :
    Calls Tryd.prog 131 #[.pointer (some ⟨g, 0, none⟩), .pointer (some ⟨pb, po, none⟩)] w (IPost (.tuple #[]) g r (st.least (-1)).2 (w.setCell ⟨pb, po, none⟩ (.int .i64 (st.least (-1)).1))) := by
  have H := Lib.hid (iLeast_any g r st w pb po x (-1) h hok hp hpf hpg hpr)
  clear h hok hp hpf hpg hpr
  go_enter Tryd.func131, Tryd.ntmps131
  go_wp2_with fail
  refine H.out.mono ?_
  rintro _ w1 ⟨rfl, hi, hf⟩
  have HI := Lib.hid hi
  have HF := Lib.hid hf
  clear hi hf H
  go_wp2
  go_end0
  exact ⟨rfl, HI.out, HF.out⟩

def IS.mode (st : IS) : Int × IS := let r := st.num 4; (if r.1 = 4294967295 then -1 else r.1, r.2)

theorem iMode_any (g r : Nat) (st : IS) (w : World) (pb po : Nat) (x : Value) (h : Inp w g r st) (hok : st.Ok) (hp : w.cell? ⟨pb, po, none⟩ = some x) (hpf : w.frozen? ⟨pb, po, none⟩ = false) (hpg : pb ≠ g) (hpr : pb ≠ r) :
    Calls Tryd.prog 130 #[.pointer (some ⟨g, 0, none⟩), .pointer (some ⟨pb, po, none⟩)] w (IPost (.tuple #[]) g r st.mode.2 (w.setCell ⟨pb, po, none⟩ (.int .i64 st.mode.1))) := by
  have H := Lib.hid (iNum_any g r st w pb po x 4 h hok (by omega) hp hpf hpg hpr)
  have hq := cell_lt hp
  have hp1 := World.cell?_setCell_same w _ (.int .i64 (st.num 4).1) hp
  have hf1 : (w.setCell ⟨pb, po, none⟩ (.int .i64 (st.num 4).1)).frozen? ⟨pb, po, none⟩ = false := by rw [World.frozen?_setCell]; exact hpf
  have hn : ¬ two_ g r pb := fun x => x.elim hpg hpr
  have Hpg := Lib.hid hpg
  have Hpr := Lib.hid hpr
  unfold IS.mode
  dsimp only
  generalize st.num 4 = q at *
  obtain ⟨v, st'⟩ := q
  dsimp only at *
  clear h hok hpg hpr hp hpf
  by_cases hv : v = 4294967295
  · subst hv
    rw [if_pos rfl]
    go_enter Tryd.func130, Tryd.ntmps130
    go_wp2_with fail
    refine H.out.mono ?_
    rintro _ w1 ⟨rfl, hi, hf⟩
    have hp2 := hf.cell hp1 hn
    have hf2 := hf.frozen hp1 hf1 hn
    have HI : Hid (Inp (w1.setCell ⟨pb, po, none⟩ (.int .i64 (-1))) g r st') := Lib.hid ⟨hi.b.far (p := ⟨pb, po, none⟩) (fun e => Hpg.out e.symm) _, Blk.far hi.r (p := ⟨pb, po, none⟩) (fun e => Hpr.out e.symm) _⟩
    have HF : Hid (Fr (two_ g r) (w.setCell ⟨pb, po, none⟩ (.int .i64 (-1))) (w1.setCell ⟨pb, po, none⟩ (.int .i64 (-1)))) := Lib.hid (hf.reset _ hn)
    clear hi hf H hp1 hf1 hn
    go_wp2
    go_end0
    exact ⟨rfl, HI.out, HF.out⟩
  · have hvb : (v == 4294967295) = false := by rw [beq_eq_false_iff_ne]; exact hv
    rw [if_neg hv]
    clear hv
    go_enter Tryd.func130, Tryd.ntmps130
    go_wp2_with fail
    refine H.out.mono ?_
    rintro _ w1 ⟨rfl, hi, hf⟩
    have hp2 := hf.cell hp1 hn
    have hf2 := hf.frozen hp1 hf1 hn
    have HI := Lib.hid hi
    have HF := Lib.hid hf
    clear hi hf H hp1 hf1 hn
    go_wp2
    go_end0
    exact ⟨rfl, HI.out, HF.out⟩
end Go.Proofs.YtggkebngkkddhaaDoor
