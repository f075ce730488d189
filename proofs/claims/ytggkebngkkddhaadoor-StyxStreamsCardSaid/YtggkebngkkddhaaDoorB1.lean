/- The walk through body, of any visitor. -/
import Derived.Test.YtggkebngkkddhaaDoorB0
import Derived.Deep.LoopGhost
namespace Go.Proofs.YtggkebngkkddhaaDoor
open Go.RowKit

/-- A Dir in memory. -/
structure DV where
  q : QV
  mode : Int
  time : Int
  len : Int
  name : ByteArray
  owner : ByteArray
  group : ByteArray
  last : ByteArray
structure DAt (w : World) (b o : Nat) (d : DV) : Prop where
  q : QAt w b o d.q
  mode : w.cell? ⟨b, o + 3, none⟩ = some (.int .i64 d.mode)
  time : w.cell? ⟨b, o + 4, none⟩ = some (.int .i64 d.time)
  len : w.cell? ⟨b, o + 5, none⟩ = some (.int .i64 d.len)
  name : w.cell? ⟨b, o + 6, none⟩ = some (.string d.name)
  owner : w.cell? ⟨b, o + 7, none⟩ = some (.string d.owner)
  group : w.cell? ⟨b, o + 8, none⟩ = some (.string d.group)
  last : w.cell? ⟨b, o + 9, none⟩ = some (.string d.last)
structure DV.R (d : DV) : Prop where
  p : i64r d.q.p
  time : i64r d.time
  len : i64r d.len
def DV.room (d : DV) : Nat := d.name.size + d.owner.size + d.group.size + d.last.size

/-- body, as the visitor does it. -/
def Vis.body (V : Vis) (st : V.σ) (d : DV) : DV × V.σ :=
  let q := V.qid st d.q
  let m := V.mode q.2 d.mode
  let t := V.opt m.2 d.time
  let l := V.opt t.2 d.len
  let a := V.text l.2 d.name
  let b := V.text a.2 d.owner
  let c := V.text b.2 d.group
  let e := V.text c.2 d.last
  (⟨q.1, m.1, t.1, l.1, a.1, b.1, c.1, e.1⟩, e.2)
def setD (w : World) (b o : Nat) (d : DV) : World :=
  ((((((((setQ w b o d.q).setCell ⟨b, o + 3, none⟩ (.int .i64 d.mode)).setCell ⟨b, o + 4, none⟩ (.int .i64 d.time)).setCell ⟨b, o + 5, none⟩ (.int .i64 d.len)).setCell
    ⟨b, o + 6, none⟩ (.string d.name)).setCell ⟨b, o + 7, none⟩ (.string d.owner)).setCell ⟨b, o + 8, none⟩ (.string d.group)).setCell ⟨b, o + 9, none⟩ (.string d.last))

theorem cell_setQ (w : World) (b o j : Nat) (q : QV) (h : o + 3 ≤ j) : (setQ w b o q).cell? ⟨b, j, none⟩ = w.cell? ⟨b, j, none⟩ := by
  unfold setQ
  rw [cell_ne _ _ _ _ _ (by omega), cell_ne _ _ _ _ _ (by omega), cell_ne _ _ _ _ _ (by omega)]

/-- What was visited behind a block that was laid, seen from where it began. -/
theorem VS.join {V : Vis} {F F1 : Nat → Prop} {w A' B B' w' : World} {st' : V.σ} (hfr : Fr F A' B') (hA : A'.heap.size = w.heap.size) (hB : w.heap.size ≤ B.heap.size) (hF : ∀ b, F1 b → F b ∨ w.heap.size ≤ b)
    (h2 : VS V F1 B st' B' w') : VS V F w st' A' w' := by
  obtain ⟨F2, hi, hF2, hfr2, hs⟩ := h2
  refine ⟨F2, hi, fun b hb => ?_, ⟨Nat.le_trans hfr.1 hfr2.1, fun b hlt hs3 => ?_, hfr2.3.1.trans hfr.3.1, hfr2.3.2.trans hfr.3.2⟩, hA⟩
  · rcases hF2 b hb with e | e
    · exact hF b e
    · exact .inr (by omega)
  · have : ¬ F1 b := fun x => (hF b x).elim hs3 (fun e => by omega)
    exact (hfr2.2 b (Nat.lt_of_lt_of_le hlt hfr.1) this).trans (hfr.2 b hlt hs3)

theorem cell_far {w : World} {p q : Addr} (u : Value) (h : q.block ≠ p.block) : (w.setCell p u).cell? q = w.cell? q := World.cell?_setCell_other w _ _ u (fun e => h (by rw [e]))

theorem Vis.Good.fqid {V : Vis} (hV : V.Good) (st : V.σ) (q : QV) (n : Nat) (h : V.fit st (n + 24)) : V.fit (V.qid st q).2 n := by
  unfold Vis.qid
  exact hV.flongS _ _ _ (hV.fnumS _ _ _ _ (by omega) (hV.fnumS _ _ _ _ (by omega) h))

set_option maxRecDepth 20000 in
set_option maxHeartbeats 1000000 in
/-- The four strings of a Dir, visited through a list of pointers. -/
theorem body_any (V : Vis) (hV : V.Good) (st : V.σ) (F : Nat → Prop) (w A wk : World) (b o : Nat) (d : DV) (hi : VS V F w st A wk) (hb : ¬ F b) (hlt : b < w.heap.size) (hd : DAt A b o d) (hf : NoFrz A b) (hr : d.R) (hfit : V.fit st (d.room + 200)) :
    Calls Tryd.prog 98 #[.iface V.T V.v, .pointer (some ⟨b, o, none⟩)] wk (fun e w' => e = .returned (.tuple #[]) ∧ VS V F w (V.body st d).2 (setD A b o (V.body st d).1) w') := by
  have n1 := hV.mmode.n
  have m1 := hV.mmode.m
  have e1 := hV.mmode.c
  have n2 := hV.mopt.n
  have m2 := hV.mopt.m
  have e2 := hV.mopt.c
  have n3 := hV.mtext.n
  have m3 := hV.mtext.m
  have e3 := hV.mtext.c
  unfold Vis.body setD
  dsimp only
  unfold DV.room at hfit
  have g0 := hV.fqid st d.q (d.name.size + d.owner.size + d.group.size + d.last.size + 176) (hV.fit_le _ _ _ hfit (by omega))
  have H0 := Lib.hid (qid_any V hV st F w A wk b o d.q hi hb hlt hd.q hf hr.p (hV.fit_le _ _ _ hfit (by omega)))
  generalize V.qid st d.q = q at *
  have z1 : NoFrz (setQ A b o q.1) b := ((hf.set _ _).set _ _).set _ _
  have g1 := hV.fmodeS q.2 d.mode (d.name.size + d.owner.size + d.group.size + d.last.size + 168) g0
  have H1 : Hid (∀ wk, VS V F w q.2 (setQ A b o q.1) wk → Calls Tryd.prog V.fmode #[V.v, .pointer (some ⟨b, o + 3, none⟩)] wk _) :=
    Lib.hid (fun wk h => VS.call (hV.hmode q.2 b (o + 3) d.mode (hV.fit_le _ _ _ g0 (by omega))) h hb hlt ((cell_setQ _ _ _ _ _ (by omega)).trans hd.mode) ((z1) _))
  generalize V.mode q.2 d.mode = m at *
  have g2 := hV.foptS m.2 d.time (d.name.size + d.owner.size + d.group.size + d.last.size + 160) g1
  have H2 : Hid (∀ wk, VS V F w m.2 ((setQ A b o q.1).setCell ⟨b, o + 3, none⟩ (.int .i64 m.1)) wk → Calls Tryd.prog V.fopt #[V.v, .pointer (some ⟨b, o + 4, none⟩)] wk _) :=
    Lib.hid (fun wk h => VS.call (hV.hopt m.2 b (o + 4) d.time hr.time (hV.fit_le _ _ _ g1 (by omega))) h hb hlt (((cell_ne _ _ _ _ _ (by omega)).trans (cell_setQ _ _ _ _ _ (by omega))).trans hd.time) ((z1.set _ _) _))
  generalize V.opt m.2 d.time = t at *
  have g3 := hV.foptS t.2 d.len (d.name.size + d.owner.size + d.group.size + d.last.size + 152) g2
  have H3 : Hid (∀ wk, VS V F w t.2 (((setQ A b o q.1).setCell ⟨b, o + 3, none⟩ (.int .i64 m.1)).setCell ⟨b, o + 4, none⟩ (.int .i64 t.1)) wk → Calls Tryd.prog V.fopt #[V.v, .pointer (some ⟨b, o + 5, none⟩)] wk _) :=
    Lib.hid (fun wk h => VS.call (hV.hopt t.2 b (o + 5) d.len hr.len (hV.fit_le _ _ _ g2 (by omega))) h hb hlt (((cell_ne _ _ _ _ _ (by omega)).trans ((cell_ne _ _ _ _ _ (by omega)).trans (cell_setQ _ _ _ _ _ (by omega)))).trans hd.len) (((z1.set _ _).set _ _) _))
  generalize V.opt t.2 d.len = l at *
  have z4 : NoFrz ((((setQ A b o q.1).setCell ⟨b, o + 3, none⟩ (.int .i64 m.1)).setCell ⟨b, o + 4, none⟩ (.int .i64 t.1)).setCell ⟨b, o + 5, none⟩ (.int .i64 l.1)) b := ((z1.set _ _).set _ _).set _ _
  have t6 : World.cell? ((((setQ A b o q.1).setCell ⟨b, o + 3, none⟩ (.int .i64 m.1)).setCell ⟨b, o + 4, none⟩ (.int .i64 t.1)).setCell ⟨b, o + 5, none⟩ (.int .i64 l.1)) ⟨b, o + 6, none⟩ = some (.string d.name) := ((cell_ne _ _ _ _ _ (by omega)).trans ((cell_ne _ _ _ _ _ (by omega)).trans ((cell_ne _ _ _ _ _ (by omega)).trans (cell_setQ _ _ _ _ _ (by omega))))).trans hd.name
  have t7 : World.cell? ((((setQ A b o q.1).setCell ⟨b, o + 3, none⟩ (.int .i64 m.1)).setCell ⟨b, o + 4, none⟩ (.int .i64 t.1)).setCell ⟨b, o + 5, none⟩ (.int .i64 l.1)) ⟨b, o + 7, none⟩ = some (.string d.owner) := ((cell_ne _ _ _ _ _ (by omega)).trans ((cell_ne _ _ _ _ _ (by omega)).trans ((cell_ne _ _ _ _ _ (by omega)).trans (cell_setQ _ _ _ _ _ (by omega))))).trans hd.owner
  have t8 : World.cell? ((((setQ A b o q.1).setCell ⟨b, o + 3, none⟩ (.int .i64 m.1)).setCell ⟨b, o + 4, none⟩ (.int .i64 t.1)).setCell ⟨b, o + 5, none⟩ (.int .i64 l.1)) ⟨b, o + 8, none⟩ = some (.string d.group) := ((cell_ne _ _ _ _ _ (by omega)).trans ((cell_ne _ _ _ _ _ (by omega)).trans ((cell_ne _ _ _ _ _ (by omega)).trans (cell_setQ _ _ _ _ _ (by omega))))).trans hd.group
  have t9 : World.cell? ((((setQ A b o q.1).setCell ⟨b, o + 3, none⟩ (.int .i64 m.1)).setCell ⟨b, o + 4, none⟩ (.int .i64 t.1)).setCell ⟨b, o + 5, none⟩ (.int .i64 l.1)) ⟨b, o + 9, none⟩ = some (.string d.last) := ((cell_ne _ _ _ _ _ (by omega)).trans ((cell_ne _ _ _ _ _ (by omega)).trans ((cell_ne _ _ _ _ _ (by omega)).trans (cell_setQ _ _ _ _ _ (by omega))))).trans hd.last
  generalize hA4 : (((setQ A b o q.1).setCell ⟨b, o + 3, none⟩ (.int .i64 m.1)).setCell ⟨b, o + 4, none⟩ (.int .i64 t.1)).setCell ⟨b, o + 5, none⟩ (.int .i64 l.1) = A4 at *
  have g4 := hV.ftextS l.2 d.name (d.owner.size + d.group.size + d.last.size + 144) (hV.fit_le _ _ _ g3 (by omega))
  have T0 := Lib.hid (hV.htext l.2 b (o + 6) d.name (hV.fit_le _ _ _ g3 (by omega)))
  generalize V.text l.2 d.name = a at *
  have g5 := hV.ftextS a.2 d.owner (d.group.size + d.last.size + 136) (hV.fit_le _ _ _ g4 (by omega))
  have T1 := Lib.hid (hV.htext a.2 b (o + 7) d.owner (hV.fit_le _ _ _ g4 (by omega)))
  generalize V.text a.2 d.owner = bb at *
  have g6 := hV.ftextS bb.2 d.group (d.last.size + 128) (hV.fit_le _ _ _ g5 (by omega))
  have T2 := Lib.hid (hV.htext bb.2 b (o + 8) d.group (hV.fit_le _ _ _ g5 (by omega)))
  generalize V.text bb.2 d.group = c at *
  have g7 := hV.ftextS c.2 d.last (120) (hV.fit_le _ _ _ g6 (by omega))
  have T3 := Lib.hid (hV.htext c.2 b (o + 9) d.last (hV.fit_le _ _ _ g6 (by omega)))
  generalize V.text c.2 d.last = e at *
  have HV := Lib.hid hV
  have Hz4 := Lib.hid z4
  have Ht6 := Lib.hid t6
  have Ht7 := Lib.hid t7
  have Ht8 := Lib.hid t8
  have Ht9 := Lib.hid t9
  have Hb := Lib.hid hb
  have Hlt := Lib.hid hlt
  have HA4 := Lib.hid hA4
  clear g0 g1 g2 g3 g4 g5 g6 g7 hfit z1 z4 t6 t7 t8 t9 hd hf hr hi hb hlt hV hA4
  go_enter Tryd.func98, Tryd.ntmps98
  go_wp2_with fail
  refine H0.out.mono ?_
  rintro _ w1 ⟨rfl, h1⟩
  have G := Lib.hid (h1.drew HV.out)
  clear h1 H0
  go_wp2
  go_still_tail 7, (by kernel_rfl)
  go_wp2_with fail
  refine (H1.out _ G.out).mono ?_
  rintro _ w2 ⟨rfl, h1⟩
  have G := Lib.hid (h1.drew HV.out)
  clear h1 H1
  go_wp2
  go_still_tail 7, (by kernel_rfl)
  go_wp2_with fail
  refine (H2.out _ G.out).mono ?_
  rintro _ w3 ⟨rfl, h1⟩
  have G := Lib.hid (h1.drew HV.out)
  clear h1 H2
  go_wp2
  go_still_tail 7, (by kernel_rfl)
  go_wp2_with fail
  refine (H3.out _ G.out).mono ?_
  rintro _ w4 ⟨rfl, h1⟩
  have G := Lib.hid (h1.drew HV.out)
  clear h1 H3
  clear HA4
  obtain ⟨F1, hi1, hF1, hfr1, hs1⟩ := G.out
  have Hi1 := Lib.hid hi1
  have HF1 := Lib.hid hF1
  have Hfr1 := Lib.hid hfr1
  have Hs1 := Lib.hid hs1
  clear hi1 hF1 hfr1 hs1 G
  go_wp2
  go_region
  go_wp2
  obtain ⟨O, hO⟩ : ∃ O, O = Obj.cells #[.pointer (some ⟨b, o + 6, none⟩), .pointer (some ⟨b, o + 7, none⟩), .pointer (some ⟨b, o + 8, none⟩), .pointer (some ⟨b, o + 9, none⟩)] 107 := ⟨_, rfl⟩
  have HO := Lib.hid hO
  have hsz : w.heap.size ≤ w4.heap.size := by have := Hfr1.out.1; have := Hs1.out; simp at *; omega
  have hbF1 : ¬ F1 b := fun x => (HF1.out b x).elim Hb.out (fun e => by have := Hlt.out; omega)
  have hcF1 : ¬ F1 w4.heap.size := fun x => by have := HV.out.lt _ _ _ _ Hi1.out x; simp at this
  have hbc : b ≠ w4.heap.size := by have := Hlt.out; omega
  have hbl : b < (w4.alloc O).heap.size := by have := Hlt.out; simp; omega
  have up : ∀ (j : Nat) (x : Value), A4.cell? ⟨b, j, none⟩ = some x → (w4.alloc O).cell? ⟨b, j, none⟩ = some x ∧ (w4.alloc O).frozen? ⟨b, j, none⟩ = false := fun j x h => by
    have h1 : w4.cell? ⟨b, j, none⟩ = some x := Hfr1.out.cell (p := ⟨b, j, none⟩) h Hb.out
    have h2 : w4.frozen? ⟨b, j, none⟩ = false := Hfr1.out.frozen (p := ⟨b, j, none⟩) h (Hz4.out j) Hb.out
    exact ⟨((Fr.refl none_ w4).alloc O).cell h1 (fun x => x), ((Fr.refl none_ w4).alloc O).frozen h1 h2 (fun x => x)⟩
  have U6 := Lib.hid (up _ _ Ht6.out)
  have U7 := Lib.hid (up _ _ Ht7.out)
  have U8 := Lib.hid (up _ _ Ht8.out)
  have U9 := Lib.hid (up _ _ Ht9.out)
  have hO0 : Blk (w4.alloc O) w4.heap.size 107 #[.pointer (some ⟨b, o + 6, none⟩), .pointer (some ⟨b, o + 7, none⟩), .pointer (some ⟨b, o + 8, none⟩), .pointer (some ⟨b, o + 9, none⟩)] := by rw [hO]; exact Blk.new _ _ _
  have HO0 := Lib.hid hO0
  have HbF1 := Lib.hid hbF1
  have HcF1 := Lib.hid hcF1
  have Hbc := Lib.hid hbc
  have Hbl := Lib.hid hbl
  have Hsz := Lib.hid hsz
  clear hO up hO0 hbF1 hcF1 hbc hbl hsz Ht6 Ht7 Ht8 Ht9 Hz4
  go_loopg [5, 49] 4 (fun gk _ i wr => (gk = 4 ∧ i = .int .i64 0 ∧ VS V F1 (w4.alloc O) l.2 (w4.alloc O) wr) ∨
    (gk = 3 ∧ i = .int .i64 1 ∧ VS V F1 (w4.alloc O) a.2 ((w4.alloc O).setCell ⟨b, o + 6, none⟩ (.string a.1)) wr) ∨
    (gk = 2 ∧ i = .int .i64 2 ∧ VS V F1 (w4.alloc O) bb.2 (((w4.alloc O).setCell ⟨b, o + 6, none⟩ (.string a.1)).setCell ⟨b, o + 7, none⟩ (.string bb.1)) wr) ∨
    (gk = 1 ∧ i = .int .i64 3 ∧ VS V F1 (w4.alloc O) c.2 ((((w4.alloc O).setCell ⟨b, o + 6, none⟩ (.string a.1)).setCell ⟨b, o + 7, none⟩ (.string bb.1)).setCell ⟨b, o + 8, none⟩ (.string c.1)) wr) ∨
    (gk = 0 ∧ i = .int .i64 4 ∧ VS V F1 (w4.alloc O) e.2 (((((w4.alloc O).setCell ⟨b, o + 6, none⟩ (.string a.1)).setCell ⟨b, o + 7, none⟩ (.string bb.1)).setCell ⟨b, o + 8, none⟩ (.string c.1)).setCell ⟨b, o + 9, none⟩ (.string e.1)) wr))
  case atStart =>
    refine .inl ⟨rfl, rfl, ?_⟩
    have hk : V.inv l.2 F1 (w4.alloc O) := HV.out.keep _ _ _ _ none_ Hi1.out ((Fr.refl none_ _).alloc O) (fun _ _ x => x)
    have := VS.start hk
    rw [HO.out] at this ⊢
    exact this.drew HV.out
  case round =>
    rcases hrel with ⟨rfl, rfl, hs⟩ | ⟨rfl, rfl, hs⟩ | ⟨rfl, rfl, hs⟩ | ⟨rfl, rfl, hs⟩ | ⟨rfl, rfl, hs⟩
    · have hx : wr.cell? ⟨w4.heap.size, 0, none⟩ = some (.pointer (some ⟨b, o + 6, none⟩)) := by
        obtain ⟨_, _, _, hfr, _⟩ := hs
        have hA : ((w4.alloc O)).cell? ⟨w4.heap.size, 0, none⟩ = some (.pointer (some ⟨b, o + 6, none⟩)) := HO0.out.cell 0
        exact hfr.cell hA HcF1.out
      have HT := Lib.hid (VS.call T0.out hs HbF1.out Hbl.out (U6.out.1) (by exact U6.out.2))
      clear hs
      go_wp2_with fail
      refine HT.out.mono ?_
      rintro _ wn ⟨rfl, h1⟩
      have HS := Lib.hid h1
      clear h1 HT hx
      go_wp2
      go_roundg 3
      case measure => omega
      case rel => exact .inr (.inl ⟨rfl, rfl, HS.out⟩)
    · have hx : wr.cell? ⟨w4.heap.size, 1, none⟩ = some (.pointer (some ⟨b, o + 7, none⟩)) := by
        obtain ⟨_, _, _, hfr, _⟩ := hs
        have hA : (((w4.alloc O)).setCell ⟨b, o + 6, none⟩ (.string a.1)).cell? ⟨w4.heap.size, 1, none⟩ = some (.pointer (some ⟨b, o + 7, none⟩)) := (cell_far _ Hbc.out.symm).trans (HO0.out.cell 1)
        exact hfr.cell hA HcF1.out
      have HT := Lib.hid (VS.call T1.out hs HbF1.out Hbl.out ((cell_ne _ _ _ _ _ (by omega)).trans (U7.out.1)) (by rw [World.frozen?_setCell]; exact U7.out.2))
      clear hs
      go_wp2_with fail
      refine HT.out.mono ?_
      rintro _ wn ⟨rfl, h1⟩
      have HS := Lib.hid h1
      clear h1 HT hx
      go_wp2
      go_roundg 2
      case measure => omega
      case rel => exact .inr (.inr (.inl ⟨rfl, rfl, HS.out⟩))
    · have hx : wr.cell? ⟨w4.heap.size, 2, none⟩ = some (.pointer (some ⟨b, o + 8, none⟩)) := by
        obtain ⟨_, _, _, hfr, _⟩ := hs
        have hA : ((((w4.alloc O)).setCell ⟨b, o + 6, none⟩ (.string a.1)).setCell ⟨b, o + 7, none⟩ (.string bb.1)).cell? ⟨w4.heap.size, 2, none⟩ = some (.pointer (some ⟨b, o + 8, none⟩)) := (cell_far _ Hbc.out.symm).trans ((cell_far _ Hbc.out.symm).trans (HO0.out.cell 2))
        exact hfr.cell hA HcF1.out
      have HT := Lib.hid (VS.call T2.out hs HbF1.out Hbl.out ((cell_ne _ _ _ _ _ (by omega)).trans ((cell_ne _ _ _ _ _ (by omega)).trans (U8.out.1))) (by rw [World.frozen?_setCell, World.frozen?_setCell]; exact U8.out.2))
      clear hs
      go_wp2_with fail
      refine HT.out.mono ?_
      rintro _ wn ⟨rfl, h1⟩
      have HS := Lib.hid h1
      clear h1 HT hx
      go_wp2
      go_roundg 1
      case measure => omega
      case rel => exact .inr (.inr (.inr (.inl ⟨rfl, rfl, HS.out⟩)))
    · have hx : wr.cell? ⟨w4.heap.size, 3, none⟩ = some (.pointer (some ⟨b, o + 9, none⟩)) := by
        obtain ⟨_, _, _, hfr, _⟩ := hs
        have hA : (((((w4.alloc O)).setCell ⟨b, o + 6, none⟩ (.string a.1)).setCell ⟨b, o + 7, none⟩ (.string bb.1)).setCell ⟨b, o + 8, none⟩ (.string c.1)).cell? ⟨w4.heap.size, 3, none⟩ = some (.pointer (some ⟨b, o + 9, none⟩)) := (cell_far _ Hbc.out.symm).trans ((cell_far _ Hbc.out.symm).trans ((cell_far _ Hbc.out.symm).trans (HO0.out.cell 3)))
        exact hfr.cell hA HcF1.out
      have HT := Lib.hid (VS.call T3.out hs HbF1.out Hbl.out ((cell_ne _ _ _ _ _ (by omega)).trans ((cell_ne _ _ _ _ _ (by omega)).trans ((cell_ne _ _ _ _ _ (by omega)).trans (U9.out.1)))) (by rw [World.frozen?_setCell, World.frozen?_setCell, World.frozen?_setCell]; exact U9.out.2))
      clear hs
      go_wp2_with fail
      refine HT.out.mono ?_
      rintro _ wn ⟨rfl, h1⟩
      have HS := Lib.hid h1
      clear h1 HT hx
      go_wp2
      go_roundg 0
      case measure => omega
      case rel => exact .inr (.inr (.inr (.inr (⟨rfl, rfl, HS.out⟩))))
    · have HS := Lib.hid hs
      clear hs
      go_wp2
      go_end0
      refine ⟨rfl, VS.join ?_ ?_ ?_ HF1.out HS.out⟩
      · exact ((((Hfr1.out.alloc O).setCong _ Hb.out).setCong _ Hb.out).setCong _ Hb.out).setCong _ Hb.out
      · simp [World.setCell]; exact Hs1.out
      · have := Hsz.out; simp; omega
end Go.Proofs.YtggkebngkkddhaaDoor
