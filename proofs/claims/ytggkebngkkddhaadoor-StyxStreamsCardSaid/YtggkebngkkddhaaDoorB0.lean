/- A visitor, whichever it is: what its methods do to what they visit and to what it holds; and the walks through qid and body, of any visitor. -/
import Derived.Test.YtggkebngkkddhaaDoorA7
namespace Go.Proofs.YtggkebngkkddhaaDoor
open Go.RowKit

/-- A method of a visitor: how the program comes from the interface value to the function. -/
structure Meth (T : TypeId) (v : Value) (name : String) (f : FuncId) : Prop where
  n : ∀ w, (nilAhead 260 T v name).run Tryd.prog w = .ok (some false) w
  m : ∀ w, (method 260 T v name).run Tryd.prog w = .ok (f, v) w
  c : ∀ args w, (callFunc f args).run Tryd.prog w = .ok (.enter f args) w

/-- A visitor: its dynamic type and value, its states, and what its methods do. -/
structure Vis where
  T : TypeId
  v : Value
  σ : Type
  inv : σ → (Nat → Prop) → World → Prop
  fit : σ → Nat → Prop
  fnum : FuncId
  flong : FuncId
  fopt : FuncId
  fmode : FuncId
  ftext : FuncId
  fdata : FuncId
  num : σ → Int → Nat → Int × σ
  long : σ → Int → Int × σ
  opt : σ → Int → Int × σ
  mode : σ → Int → Int × σ
  text : σ → ByteArray → ByteArray × σ
  data : σ → ByteArray → ByteArray × σ

/-- Where a visitor stands behind some visits: it has the state st, what it visited reads as in A, and all else is as it was in w. -/
def VS (V : Vis) (F : Nat → Prop) (w : World) (st : V.σ) (A w' : World) : Prop :=
  ∃ F', V.inv st F' w' ∧ (∀ b, F' b → F b ∨ w.heap.size ≤ b) ∧ Fr F A w' ∧ A.heap.size = w.heap.size

/-- What a method does with the cell p. -/
def VCall (V : Vis) (f : FuncId) (args : Array Value) (st : V.σ) (p : Addr) (old u : Value) (st' : V.σ) : Prop :=
  ∀ F w, V.inv st F w → ¬ F p.block → w.cell? p = some old → w.frozen? p = false →
    Calls Tryd.prog f args w (fun e w' => e = .returned (.tuple #[]) ∧ VS V F w st' (w.setCell p u) w')

theorem VS.call {V : Vis} {F : Nat → Prop} {w A wk : World} {st st' : V.σ} {f : FuncId} {args : Array Value} {p : Addr} {old u : Value} (hc : VCall V f args st p old u st') (h : VS V F w st A wk)
    (hb : ¬ F p.block) (hlt : p.block < w.heap.size) (ho : A.cell? p = some old) (hz : A.frozen? p = false) :
    Calls Tryd.prog f args wk (fun e w' => e = .returned (.tuple #[]) ∧ VS V F w st' (A.setCell p u) w') := by
  obtain ⟨F', hi, hF, hfr, hs⟩ := h
  have hb' : ¬ F' p.block := fun x => (hF _ x).elim hb (fun e => by omega)
  refine (hc F' wk hi hb' (hfr.cell ho hb) (hfr.frozen ho hz hb)).mono ?_
  rintro e w2 ⟨rfl, F2, hi2, hF2, hfr2, hs2⟩
  refine ⟨rfl, F2, hi2, fun b hb2 => ?_, ?_, by simpa [World.setCell] using hs⟩
  · rcases hF2 b hb2 with e | e
    · exact hF b e
    · have := hfr.1; exact .inr (by omega)
  · have h1 := hfr.setCong (p := p) u hb
    refine ⟨Nat.le_trans h1.1 hfr2.1, fun b hlt2 hs3 => ?_, hfr2.3.1.trans h1.3.1, hfr2.3.2.trans h1.3.2⟩
    have hbA : b < w.heap.size := by have : (A.setCell p u).heap.size = A.heap.size := by simp [World.setCell]
                                     omega
    have : ¬ F' b := fun x => (hF _ x).elim hs3 (fun e => by omega)
    exact (hfr2.2 b (Nat.lt_of_lt_of_le hlt2 h1.1) this).trans (h1.2 b hlt2 hs3)
theorem VS.start {V : Vis} {F : Nat → Prop} {w : World} {st : V.σ} (h : V.inv st F w) : VS V F w st w w := ⟨F, h, fun _ x => .inl x, Fr.refl _ _, rfl⟩

def i64r (x : Int) : Prop := -9223372036854775808 ≤ x ∧ x ≤ 9223372036854775807

structure Vis.Good (V : Vis) : Prop where
  mnum : Meth V.T V.v "acheron/styx.num" V.fnum
  mlong : Meth V.T V.v "acheron/styx.long" V.flong
  mopt : Meth V.T V.v "acheron/styx.optional" V.fopt
  mmode : Meth V.T V.v "acheron/styx.mode" V.fmode
  mtext : Meth V.T V.v "acheron/styx.text" V.ftext
  mdata : Meth V.T V.v "acheron/styx.data" V.fdata
  fit_le : ∀ st m n, V.fit st n → m ≤ n → V.fit st m
  hnum : ∀ st b o x k, (k = 1 ∨ k = 2 ∨ k = 4) → V.fit st 8 → VCall V V.fnum #[V.v, .pointer (some ⟨b, o, none⟩), .int .i64 (k : Nat)] st ⟨b, o, none⟩ (.int .i64 x) (.int .i64 (V.num st x k).1) (V.num st x k).2
  hlong : ∀ st b o x, i64r x → V.fit st 8 → VCall V V.flong #[V.v, .pointer (some ⟨b, o, none⟩)] st ⟨b, o, none⟩ (.int .i64 x) (.int .i64 (V.long st x).1) (V.long st x).2
  hopt : ∀ st b o x, i64r x → V.fit st 8 → VCall V V.fopt #[V.v, .pointer (some ⟨b, o, none⟩)] st ⟨b, o, none⟩ (.int .i64 x) (.int .i64 (V.opt st x).1) (V.opt st x).2
  hmode : ∀ st b o x, V.fit st 8 → VCall V V.fmode #[V.v, .pointer (some ⟨b, o, none⟩)] st ⟨b, o, none⟩ (.int .i64 x) (.int .i64 (V.mode st x).1) (V.mode st x).2
  htext : ∀ st b o x, V.fit st (x.size + 8) → VCall V V.ftext #[V.v, .pointer (some ⟨b, o, none⟩)] st ⟨b, o, none⟩ (.string x) (.string (V.text st x).1) (V.text st x).2
  hdata : ∀ st b o x, V.fit st (x.size + 8) → VCall V V.fdata #[V.v, .pointer (some ⟨b, o, none⟩)] st ⟨b, o, none⟩ (.string x) (.string (V.data st x).1) (V.data st x).2
  fnumS : ∀ st x k n, k ≤ 4 → V.fit st (n + 8) → V.fit (V.num st x k).2 n
  flongS : ∀ st x n, V.fit st (n + 8) → V.fit (V.long st x).2 n
  foptS : ∀ st x n, V.fit st (n + 8) → V.fit (V.opt st x).2 n
  fmodeS : ∀ st x n, V.fit st (n + 8) → V.fit (V.mode st x).2 n
  ftextS : ∀ st x n, V.fit st (n + x.size + 8) → V.fit (V.text st x).2 n
  fdataS : ∀ st x n, V.fit st (n + x.size + 8) → V.fit (V.data st x).2 n
  drew : ∀ st F w, V.inv st F w → V.inv st F w.drew
  lt : ∀ st F w b, V.inv st F w → F b → b < w.heap.size
  keep : ∀ st F w w' S, V.inv st F w → Fr S w w' → (∀ b, F b → ¬ S b) → V.inv st F w'

/-- A qid in memory. -/
structure QV where
  k : Int
  v : Int
  p : Int
def QAt (w : World) (b o : Nat) (q : QV) : Prop := w.cell? ⟨b, o, none⟩ = some (.int .i64 q.k) ∧ w.cell? ⟨b, o + 1, none⟩ = some (.int .i64 q.v) ∧ w.cell? ⟨b, o + 2, none⟩ = some (.int .i64 q.p)
def NoFrz (w : World) (b : Nat) : Prop := ∀ o, w.frozen? ⟨b, o, none⟩ = false
def Vis.qid (V : Vis) (st : V.σ) (q : QV) : QV × V.σ :=
  let r := V.num st q.k 1
  let s := V.num r.2 q.v 4
  let t := V.long s.2 q.p
  (⟨r.1, s.1, t.1⟩, t.2)
def setQ (w : World) (b o : Nat) (q : QV) : World := ((w.setCell ⟨b, o, none⟩ (.int .i64 q.k)).setCell ⟨b, o + 1, none⟩ (.int .i64 q.v)).setCell ⟨b, o + 2, none⟩ (.int .i64 q.p)

theorem VS.drew {V : Vis} (hV : V.Good) {F : Nat → Prop} {w A wk : World} {st : V.σ} (h : VS V F w st A wk) : VS V F w st A wk.drew := by
  obtain ⟨F', hi, hF, hfr, hs⟩ := h
  exact ⟨F', hV.drew _ _ _ hi, hF, hfr.drew, hs⟩
theorem cell_ne (w : World) (b i j : Nat) (u : Value) (h : i ≠ j) : (w.setCell ⟨b, i, none⟩ u).cell? ⟨b, j, none⟩ = w.cell? ⟨b, j, none⟩ :=
  World.cell?_setCell_other w _ _ u (fun e => h (by cases e; rfl))
theorem NoFrz.set {w : World} {b : Nat} (h : NoFrz w b) (p : Addr) (u : Value) : NoFrz (w.setCell p u) b := fun o => by rw [World.frozen?_setCell]; exact h o

/-- No cell of a stretch is frozen. -/
def NoFrzAt (w : World) (b o n : Nat) : Prop := ∀ i, i < n → w.frozen? ⟨b, o + i, none⟩ = false
theorem NoFrzAt.set {w : World} {b o n : Nat} (h : NoFrzAt w b o n) (p : Addr) (u : Value) : NoFrzAt (w.setCell p u) b o n := fun i hi => by rw [World.frozen?_setCell]; exact h i hi
set_option maxRecDepth 20000 in
theorem qid_at (V : Vis) (hV : V.Good) (st : V.σ) (F : Nat → Prop) (w A wk : World) (b o : Nat) (q : QV) (hi : VS V F w st A wk) (hb : ¬ F b) (hlt : b < w.heap.size) (hq : QAt A b o q) (hf : NoFrzAt A b o 3) (hp : i64r q.p) (hfit : V.fit st 32) :
    Calls Tryd.prog 68 #[.iface V.T V.v, .pointer (some ⟨b, o, none⟩)] wk (fun e w' => e = .returned (.tuple #[]) ∧ VS V F w (V.qid st q).2 (setQ A b o (V.qid st q).1) w') := by
  have n1 := hV.mnum.n
  have m1 := hV.mnum.m
  have e1 := hV.mnum.c
  have n2 := hV.mlong.n
  have m2 := hV.mlong.m
  have e2 := hV.mlong.c
  unfold Vis.qid setQ
  dsimp only
  have f1 : V.fit st (24 + 8) := hfit
  have f2 := hV.fnumS st q.k 1 24 (by omega) f1
  have f3 := hV.fnumS _ q.v 4 16 (by omega) f2
  have H1 : Hid (Calls Tryd.prog V.fnum #[V.v, .pointer (some ⟨b, o, none⟩), .int .i64 1] wk.drew _) := Lib.hid (VS.call (hV.hnum st b o q.k 1 (by omega) (hV.fit_le _ _ _ hfit (by omega))) (hi.drew hV) hb hlt hq.1 (hf 0 (by omega)))
  generalize V.num st q.k 1 = r1 at *
  have A1 : (A.setCell ⟨b, o, none⟩ (.int .i64 r1.1)).cell? ⟨b, o + 1, none⟩ = some (.int .i64 q.v) := (cell_ne _ _ _ _ _ (by omega)).trans hq.2.1
  have A2 : (A.setCell ⟨b, o, none⟩ (.int .i64 r1.1)).cell? ⟨b, o + 2, none⟩ = some (.int .i64 q.p) := (cell_ne _ _ _ _ _ (by omega)).trans hq.2.2
  have H2 : Hid (∀ wk, VS V F w r1.2 (A.setCell ⟨b, o, none⟩ (.int .i64 r1.1)) wk → Calls Tryd.prog V.fnum #[V.v, .pointer (some ⟨b, o + 1, none⟩), .int .i64 4] wk _) :=
    Lib.hid (fun wk h => VS.call (hV.hnum r1.2 b (o + 1) q.v 4 (by omega) (hV.fit_le _ _ _ f2 (by omega))) h hb hlt A1 (hf.set _ _ 1 (by omega)))
  generalize V.num r1.2 q.v 4 = r2 at *
  have A3 : ((A.setCell ⟨b, o, none⟩ (.int .i64 r1.1)).setCell ⟨b, o + 1, none⟩ (.int .i64 r2.1)).cell? ⟨b, o + 2, none⟩ = some (.int .i64 q.p) := (cell_ne _ _ _ _ _ (by omega)).trans A2
  have H3 : Hid (∀ wk, VS V F w r2.2 ((A.setCell ⟨b, o, none⟩ (.int .i64 r1.1)).setCell ⟨b, o + 1, none⟩ (.int .i64 r2.1)) wk → Calls Tryd.prog V.flong #[V.v, .pointer (some ⟨b, o + 2, none⟩)] wk _) :=
    Lib.hid (fun wk h => VS.call (hV.hlong r2.2 b (o + 2) q.p hp (hV.fit_le _ _ _ f3 (by omega))) h hb hlt A3 ((hf.set _ _).set _ _ 2 (by omega)))
  generalize V.long r2.2 q.p = r3 at *
  have HV := Lib.hid hV
  clear f1 f2 f3 hfit hi hq hf hp A1 A2 A3 hV hb hlt
  go_enter Tryd.func68, Tryd.ntmps68
  go_wp2
  go_still_tail 7, (by kernel_rfl)
  go_wp2_with fail
  refine H1.out.mono ?_
  rintro _ w1 ⟨rfl, h1⟩
  have G1 := Lib.hid (h1.drew HV.out)
  clear h1 H1
  go_wp2
  go_still_tail 7, (by kernel_rfl)
  go_wp2_with fail
  refine (H2.out _ G1.out).mono ?_
  rintro _ w2 ⟨rfl, h1⟩
  have G2 := Lib.hid (h1.drew HV.out)
  clear h1 H2 G1
  go_wp2
  go_still_tail 7, (by kernel_rfl)
  go_wp2_with fail
  refine (H3.out _ G2.out).mono ?_
  rintro _ w3 ⟨rfl, h1⟩
  have G3 := Lib.hid h1
  clear h1 H3 G2
  go_wp2
  go_end0
  exact ⟨rfl, G3.out⟩

theorem qid_any (V : Vis) (hV : V.Good) (st : V.σ) (F : Nat → Prop) (w A wk : World) (b o : Nat) (q : QV) (hi : VS V F w st A wk) (hb : ¬ F b) (hlt : b < w.heap.size) (hq : QAt A b o q) (hf : NoFrz A b) (hp : i64r q.p) (hfit : V.fit st 32) :
    Calls Tryd.prog 68 #[.iface V.T V.v, .pointer (some ⟨b, o, none⟩)] wk (fun e w' => e = .returned (.tuple #[]) ∧ VS V F w (V.qid st q).2 (setQ A b o (V.qid st q).1) w') :=
  qid_at V hV st F w A wk b o q hi hb hlt hq (fun i _ => hf (o + i)) hp hfit
end Go.Proofs.YtggkebngkkddhaaDoor
