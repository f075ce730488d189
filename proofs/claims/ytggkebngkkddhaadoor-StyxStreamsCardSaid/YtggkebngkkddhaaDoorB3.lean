/- The walks through the output's dir, names and qids. -/
import Derived.Test.YtggkebngkkddhaaDoorB2
import Derived.Test.YtggkebngkkddhaaDoorR2
namespace Go.Proofs.YtggkebngkkddhaaDoor
open Go.RowKit

attribute [local irreducible] OS.sized OS.mode OS.count OS.least OS.num OS.little

theorem cell_same (w : World) (p q : Addr) (x y : Value) (hx : w.cell? p = some x) (hy : w.cell? q = some y) : (w.setCell p x).cell? q = some y := by
  by_cases h : q = p
  · subst h; rw [World.cell?_setCell_same _ _ _ hx, ← hx, hy]
  · rw [World.cell?_setCell_other w _ _ _ (fun e => h e.symm), hy]
theorem DAt.same {w : World} {b o : Nat} {d : DV} (h : DAt w b o d) {p : Addr} {x : Value} (hx : w.cell? p = some x) : DAt (w.setCell p x) b o d :=
  ⟨⟨cell_same _ _ _ _ _ hx h.q.1, cell_same _ _ _ _ _ hx h.q.2.1, cell_same _ _ _ _ _ hx h.q.2.2⟩, cell_same _ _ _ _ _ hx h.mode, cell_same _ _ _ _ _ hx h.time, cell_same _ _ _ _ _ hx h.len,
    cell_same _ _ _ _ _ hx h.name, cell_same _ _ _ _ _ hx h.owner, cell_same _ _ _ _ _ hx h.group, cell_same _ _ _ _ _ hx h.last⟩
theorem QAt.same {w : World} {b o : Nat} {d : QV} (h : QAt w b o d) {p : Addr} {x : Value} (hx : w.cell? p = some x) : QAt (w.setCell p x) b o d :=
  ⟨cell_same _ _ _ _ _ hx h.1, cell_same _ _ _ _ _ hx h.2.1, cell_same _ _ _ _ _ hx h.2.2⟩
theorem Fr.sameQ {S : Nat → Prop} {A w' : World} {b o : Nat} {q : QV} (h : Fr S A w') (hq : QAt A b o q) : Fr S (setQ A b o q) w' := by
  unfold setQ
  have h1 := h.same hq.1
  have q1 := hq.same hq.1
  have h2 := h1.same q1.2.1
  have q2 := q1.same q1.2.1
  exact h2.same q2.2.2
theorem DAt.setQ {w : World} {b o : Nat} {d : DV} (h : DAt w b o d) : DAt (Proofs.YtggkebngkkddhaaDoor.setQ w b o d.q) b o d := by
  unfold Proofs.YtggkebngkkddhaaDoor.setQ
  have h1 := h.same h.q.1
  have h2 := h1.same h1.q.2.1
  exact h2.same h2.q.2.2
theorem Fr.sameD {S : Nat → Prop} {A w' : World} {b o : Nat} {d : DV} (h : Fr S A w') (hd : DAt A b o d) : Fr S (setD A b o d) w' := by
  unfold setD
  have h0 := h.sameQ hd.q
  have d0 := hd.setQ
  have h1 := h0.same d0.mode
  have d1 := d0.same d0.mode
  have h2 := h1.same d1.time
  have d2 := d1.same d1.time
  have h3 := h2.same d2.len
  have d3 := d2.same d2.len
  have h4 := h3.same d3.name
  have d4 := d3.same d3.name
  have h5 := h4.same d4.owner
  have d5 := d4.same d4.owner
  have h6 := h5.same d5.group
  have d6 := d5.same d5.group
  exact h6.same d6.last
theorem size_setQ (A : World) (b o : Nat) (q : QV) : (setQ A b o q).heap.size = A.heap.size := by simp [setQ, World.setCell]
theorem size_setD (A : World) (b o : Nat) (d : DV) : (setD A b o d).heap.size = A.heap.size := by simp [setD, setQ, World.setCell]
theorem Fr.unsame {S : Nat → Prop} {A w' : World} {p : Addr} {x : Value} (h : Fr S (A.setCell p x) w') (hx : A.cell? p = some x) : Fr S A w' := by
  have h1 := ((Fr.refl S (A.setCell p x)))
  have h2 : Fr S A (A.setCell p x) := by
    refine ⟨by simp [World.setCell], fun b hb hs => ?_, rfl, rfl⟩
    exact ((Fr.same (Fr.refl none_ A) hx).2 b (by simpa [World.setCell] using hb) (fun x => x)).symm
  exact h2.trans h
theorem Fr.unsameQ {S : Nat → Prop} {A w' : World} {b o : Nat} {q : QV} (h : Fr S (setQ A b o q) w') (hq : QAt A b o q) : Fr S A w' := by
  unfold setQ at h
  have q1 := hq.same hq.1
  have q2 := q1.same q1.2.1
  exact ((h.unsame q2.2.2).unsame q1.2.1).unsame hq.1
theorem Fr.unsameD {S : Nat → Prop} {A w' : World} {b o : Nat} {d : DV} (h : Fr S (setD A b o d) w') (hd : DAt A b o d) : Fr S A w' := by
  unfold setD at h
  have d0 := hd.setQ
  have d1 := d0.same d0.mode
  have d2 := d1.same d1.time
  have d3 := d2.same d2.len
  have d4 := d3.same d3.name
  have d5 := d4.same d4.owner
  have d6 := d5.same d5.group
  exact (((((((h.unsame d6.last).unsame d5.group).unsame d4.owner).unsame d3.name).unsame d2.len).unsame d1.time).unsame d0.mode).unsameQ hd.q

/-- What a Dir's fields write. -/
def OS.qid (st : OS) (q : QV) : OS := ((st.num q.k 1).num q.v 4).least q.p 0
def OS.body (st : OS) (d : DV) : OS := ((((((((st.qid d.q).mode d.mode).least d.time (-1)).least d.len (-1)).sized d.name 2).sized d.owner 2).sized d.group 2).sized d.last 2)
theorem vout_qid (g : Nat) (st : OS) (q : QV) : (VOut g).qid st q = (q, st.qid q) := rfl
theorem vout_body (g : Nat) (st : OS) (d : DV) : (VOut g).body st d = (d, st.body d) := rfl

def OS.dir (st : OS) (d : DV) : OS :=
  let i := (OS.mk [] false false).body d
  ({ st with bad := st.bad || i.bad, over := st.over || i.over || decide (1022 < i.l.length) } : OS).sized ⟨i.l.toArray⟩ 2

theorem DAt.fr {S : Nat → Prop} {w w' : World} {b o : Nat} {d : DV} (h : DAt w b o d) (hf : Fr S w w') (hb : ¬ S b) : DAt w' b o d :=
  ⟨⟨hf.cell h.q.1 hb, hf.cell h.q.2.1 hb, hf.cell h.q.2.2 hb⟩, hf.cell h.mode hb, hf.cell h.time hb, hf.cell h.len hb, hf.cell h.name hb, hf.cell h.owner hb, hf.cell h.group hb, hf.cell h.last hb⟩
theorem NoFrz.fr {S : Nat → Prop} {w w' : World} {b : Nat} (h : NoFrz w b) (hf : Fr S w w') (hlt : b < w.heap.size) (hb : ¬ S b) : NoFrz w' b := fun o =>
  (World.frozen?_of_block (a := ⟨b, o, none⟩) (hf.2 b hlt hb)).trans (h o)

theorem OS.body_len (st : OS) (d : DV) : (st.body d).l.length ≤ st.l.length + d.room + 60 := by
  have h1 := OS.num_len st d.q.k 1
  have h2 := OS.num_len (st.num d.q.k 1) d.q.v 4
  have h3 := OS.least_len ((st.num d.q.k 1).num d.q.v 4) d.q.p 0
  have h4 := OS.mode_len (st.qid d.q) d.mode
  have h5 := OS.least_len ((st.qid d.q).mode d.mode) d.time (-1)
  have h6 := OS.least_len (((st.qid d.q).mode d.mode).least d.time (-1)) d.len (-1)
  have h7 := OS.sized_len ((((st.qid d.q).mode d.mode).least d.time (-1)).least d.len (-1)) d.name 2
  have h8 := OS.sized_len (((((st.qid d.q).mode d.mode).least d.time (-1)).least d.len (-1)).sized d.name 2) d.owner 2
  have h9 := OS.sized_len ((((((st.qid d.q).mode d.mode).least d.time (-1)).least d.len (-1)).sized d.name 2).sized d.owner 2) d.group 2
  have h10 := OS.sized_len (((((((st.qid d.q).mode d.mode).least d.time (-1)).least d.len (-1)).sized d.name 2).sized d.owner 2).sized d.group 2) d.last 2
  unfold OS.body DV.room
  unfold OS.qid at *
  omega

theorem oDir_after {wk w2 : World} {g : Nat} {sv sv2 : Value} {st i : OS} (ho3 : Out w2 g sv st) (ho2 : Out w2 wk.heap.size sv2 i) (hfr : Fr (fun x => x = wk.heap.size) wk w2) (b ov : Bool) (hl : st.l.length + i.l.length + 8 ≤ 1000000) :
    Out ((w2.setCell ⟨g, 1, none⟩ (.bool b)).setCell ⟨g, 2, none⟩ (.bool ov)) g sv { st with bad := b, over := ov } := by
  have h1 := Wrt.set2 (c := .bool ov) (Wrt.set1 (c := .bool b) ho3)
  exact h1
set_option maxRecDepth 20000 in
set_option maxHeartbeats 20000000 in
theorem oDir_walk (g : Nat) (sv : Value) (st : OS) (wk : World) (b o : Nat) (d : DV) (ho : Out wk g sv st) (hlt : b < wk.heap.size) (hd : DAt wk b o d) (hf : NoFrz wk b) (hr : d.R) (hfit : st.l.length + d.room + 400 ≤ 1000000) :
    Calls Tryd.prog 109 #[.pointer (some ⟨g, 0, none⟩), .pointer (some ⟨b, o, none⟩)] wk (OPost g sv.ownBlock (st.dir d) wk) := by
  have hlen := OS.body_len ⟨[], false, false⟩ d
  let w1 := wk.alloc (.cells #[.slice none 0 0, .bool false, .bool false] 84)
  have h1 : (VOut wk.heap.size).inv (OS.mk [] false false) (fun x => x = wk.heap.size) w1 :=
    ⟨.slice none 0 0, ⟨Blk.new wk 84 _, World.ownsRow_nil _ _ _ _⟩, fun b => ⟨.inl, fun x => x.elim id (fun e => by cases e)⟩⟩
  have H := Lib.hid (body_any (VOut wk.heap.size) (VOut_good _) (OS.mk [] false false) _ w1 w1 w1 b o d (VS.start h1) (by omega) (by show b < (wk.alloc _).heap.size; simp; omega)
    (hd.fr ((Fr.refl none_ wk).alloc _) (fun x => x)) (hf.fr ((Fr.refl none_ wk).alloc _) hlt (fun x => x)) hr (by show _ + _ ≤ _; simp; omega))
  rw [vout_body] at H
  dsimp only at H
  unfold OS.dir
  generalize hi : (OS.mk [] false false).body d = i at *
  dsimp only
  have Hd := Lib.hid hd
  have Ho := Lib.hid ho
  have Hlt := Lib.hid hlt
  have Hlen := Lib.hid hlen
  have Hfit := Lib.hid hfit
  clear hi hd hf hr ho h1 hlt hlen hfit
  go_enter Tryd.func109, Tryd.ntmps109
  go_wp2_with fail
  refine H.out.mono ?_
  rintro _ w2 ⟨rfl, F2, ⟨sv2, ho2, hF2⟩, hFF, hfr2, hszz⟩
  have hd1 : DAt w1 b o d := Hd.out.fr ((Fr.refl none_ wk).alloc _) (fun x => x)
  have hfr3 : Fr (fun x => x = wk.heap.size) wk w2 := by
    have h := hfr2.unsameD hd1
    exact ((Fr.refl _ wk).alloc _).trans h
  have ho3 : Out w2 g sv st := Ho.out.fr hfr3 (by have := Ho.out.lt; omega) (fun r hr => by have := Ho.out.lt_own (.inr hr.symm); omega)
  have b1 := ho3.cell1
  have b2 := ho3.cell2
  have k1 := ho2.cell1
  have k2 := ho2.cell2
  have z1 := ho3.1.frozen 1
  have z2 := ho3.1.frozen 2
  have HL : Hid (Calls Tryd.prog 39 #[.pointer (some ⟨wk.heap.size, 0, none⟩)] w2.drew (fun e w' => e = .returned (.int .i64 i.l.length) ∧ w' = w2.drew)) := Lib.hid ((wLen_any wk.heap.size 84 sv2 [.bool i.bad, .bool i.over] i.l w2.drew ho2 (by have := Hlen.out; have := Hfit.out; simp at *; omega)).mono fun _ _ h => ⟨h.1, h.2.symm⟩)
  have Ho2 := Lib.hid ho2
  have Ho3 := Lib.hid ho3
  have Hfr3 := Lib.hid hfr3
  have hne : g ≠ wk.heap.size := by have := Ho.out.lt; omega
  have e1 : IntKind.i64.wrap ((i.l.length : Int) + 2) = i.l.length + 2 := IntWalk.i64_in _ (by have := Hlen.out; have := Hfit.out; simp at *; omega)
  have hown : ∀ r, sv2.ownBlock = some r → r ≠ g := fun r hr e => by
    have h := hFF r ((hF2 r).2 (.inr hr.symm))
    have := Ho.out.lt
    rcases h with h | h
    · have h : r = wk.heap.size := h
      omega
    · have h : (wk.alloc (.cells #[.slice none 0 0, .bool false, .bool false] 84)).heap.size ≤ r := h
      simp at h
      omega
  clear hszz hfr2 hF2 hFF hd1 H w1
  generalize hsb : st.bad = sb at *
  generalize hso : st.over = so at *
  generalize hib : i.bad = ib at *
  generalize hio : i.over = io at *
  -- printed from here
  have hdd : decide (1022 < i.l.length) = decide ((1024 : Int) < (i.l.length : Int) + 2) := decide_eq_decide.2 (by omega)
  rw [hdd]
  generalize hdv : decide ((1024 : Int) < (i.l.length : Int) + 2) = dv at *
  obtain ⟨W1, hW1⟩ : ∃ W, W = w2.drew.setCell ⟨g, 1, none⟩ (.bool (sb || ib)) := ⟨_, rfl⟩
  obtain ⟨W2, hW2⟩ : ∃ W, W = W1.setCell ⟨g, 2, none⟩ (.bool (so || io || dv)) := ⟨_, rfl⟩
  have o1 : Out W1 g sv ⟨st.l, sb || ib, so⟩ := by rw [hW1, ← hso]; exact Wrt.set1 ho3
  have o2 : Out W2 g sv ⟨st.l, sb || ib, so || io || dv⟩ := by rw [hW2]; exact Wrt.set2 o1
  have b3 := o1.cell2
  have b4 := o1.1.frozen 2
  have i1 : Out W1 wk.heap.size sv2 i := by
    rw [hW1]
    exact Wrt.fr (S := one_ g) (w := w2) ho2 (((Fr.refl (one_ g) w2).drew).set (p := ⟨g, 1, none⟩) (show one_ g g from rfl) _) (fun e => hne e.symm) (fun r hr e => hown r hr e)
  have i2 : Out W2 wk.heap.size sv2 i := by
    rw [hW2]
    exact Wrt.fr (S := one_ g) (w := W1) i1 ((Fr.refl (one_ g) W1).set (p := ⟨g, 2, none⟩) (show one_ g g from rfl) _) (fun e => hne e.symm) (fun r hr e => hown r hr e)
  have HT : Hid (Calls Tryd.prog 43 #[.pointer (some ⟨wk.heap.size, 0, none⟩)] W2 _) := Lib.hid (wText_any wk.heap.size 84 sv2 [.bool i.bad, .bool i.over] i.l W2 i2)
  have HS : Hid (Calls Tryd.prog 116 #[.pointer (some ⟨g, 0, none⟩), .string ⟨i.l.toArray⟩, .int .i64 2] W2 _) := Lib.hid (oSized_any g sv ⟨st.l, sb || ib, so || io || dv⟩ W2 ⟨i.l.toArray⟩ 2 o2 (by omega) (by have := Hlen.out; have := Hfit.out; simp [ByteArray.size] at *; omega))
  have hws : WSt g sv.ownBlock wk sv.ownBlock W2 := by
    rw [hW2, hW1]
    have h0 : WSt g sv.ownBlock wk sv.ownBlock w2.drew := ⟨⟨hfr3.1, fun b hb _ => hfr3.2 b hb (fun e => by have e : b = wk.heap.size := e; omega), hfr3.3⟩, .inl rfl⟩
    exact (h0.set 1 _).set 2 _
  have HW := Lib.hid hws
  have HD := Lib.hid hdd
  clear o1 o2 i1 i2 hws hdd hown hfr3
  obtain ⟨Ws, hs0, hs1, hs2⟩ : ∃ Ws : Nat → World, Ws 0 = w2.drew ∧ Ws 1 = W1 ∧ Ws 2 = W2 := ⟨fun i => if i = 0 then w2.drew else if i = 1 then W1 else W2, rfl, rfl, rfl⟩
  cases sb <;> cases so
  · cases io
    · simp only [Bool.true_or, Bool.false_or, Bool.or_true, Bool.or_false] at hW1 hW2
      have HW1 := Lib.hid hW1
      have HW2 := Lib.hid hW2
      clear hW1 hW2
      go_wp2
      refine wp_region_stores [32, 35] Ws (by kernel_rfl) (by kernel_rfl) hs0 ?_
      refine wpSt_any (v := ?v_1) rfl (by kernel_rfl) (fun w K hK => ?h1_1) ?h2_1
      case h1_1 => go_simp; exact hK
      simp only [Act.put, List.setIfInBounds_toArray, List.set_cons_succ, List.set_cons_zero]
      refine wpSt_any (v := ?v_2) rfl (by kernel_rfl) (fun w K hK => ?h1_2) ?h2_2
      case h1_2 => go_simp; exact hK
      simp only [Act.put, List.setIfInBounds_toArray, List.set_cons_succ, List.set_cons_zero]
      refine wpSt_any (v := ?v_3) rfl (by kernel_rfl) (fun w K hK => ?h1_3) ?h2_3
      case h1_3 => go_simp; exact hK
      simp only [Act.put, List.setIfInBounds_toArray, List.set_cons_succ, List.set_cons_zero]
      refine wpSt_any (v := ?v_4) rfl (by kernel_rfl) (fun w K hK => ?h1_4) ?h2_4
      case h1_4 => go_simp; exact hK
      simp only [Act.put, List.setIfInBounds_toArray, List.set_cons_succ, List.set_cons_zero]
      refine wpSt_any (v := ?v_5) rfl (by kernel_rfl) (fun w K hK => ?h1_5) ?h2_5
      case h1_5 => go_simp; exact hK
      simp only [Act.put, List.setIfInBounds_toArray, List.set_cons_succ, List.set_cons_zero]
      refine wpSt_0 (v := ?v_6) (by kernel_rfl) hs0 rfl (by kernel_rfl) (fun K hK => ?h1_6) ?h2_6
      case h1_6 => go_simp; exact hK
      simp only [Act.put, List.setIfInBounds_toArray, List.set_cons_succ, List.set_cons_zero]
      refine wpSt_any (v := ?v_7) rfl (by kernel_rfl) (fun w K hK => ?h1_7) ?h2_7
      case h1_7 => go_simp; exact hK
      simp only [Act.put, List.setIfInBounds_toArray, List.set_cons_succ, List.set_cons_zero]
      refine wpSt_any (v := ?v_8) rfl (by kernel_rfl) (fun w K hK => ?h1_8) ?h2_8
      case h1_8 => go_simp; exact hK
      simp only [Act.put, List.setIfInBounds_toArray, List.set_cons_succ, List.set_cons_zero]
      refine wpSt_any (v := ?v_9) rfl (by kernel_rfl) (fun w K hK => ?h1_9) ?h2_9
      case h1_9 => go_simp; exact hK
      simp only [Act.put, List.setIfInBounds_toArray, List.set_cons_succ, List.set_cons_zero]
      refine wpSt_any (v := ?v_10) rfl (by kernel_rfl) (fun w K hK => ?h1_10) ?h2_10
      case h1_10 => go_simp; exact hK
      simp only [Act.put, List.setIfInBounds_toArray, List.set_cons_succ, List.set_cons_zero]
      refine wpSt_0 (v := ?v_11) (by kernel_rfl) hs0 rfl (by kernel_rfl) (fun K hK => ?h1_11) ?h2_11
      case h1_11 => go_simp; exact hK
      simp only [Act.put, List.setIfInBounds_toArray, List.set_cons_succ, List.set_cons_zero]
      refine wpSt_any (v := ?v_12) rfl (by kernel_rfl) (fun w K hK => ?h1_12) ?h2_12
      case h1_12 => go_simp; exact hK
      simp only [Act.put, List.setIfInBounds_toArray, List.set_cons_succ, List.set_cons_zero]
      refine wpSt_any (v := ?v_13) rfl (by kernel_rfl) (fun w K hK => ?h1_13) ?h2_13
      case h1_13 => go_simp; exact hK
      simp only [Act.put, List.setIfInBounds_toArray, List.set_cons_succ, List.set_cons_zero]
      refine wpSt_any (v := ?v_14) rfl (by kernel_rfl) (fun w K hK => ?h1_14) ?h2_14
      case h1_14 => go_simp; exact hK
      simp only [Act.put, List.setIfInBounds_toArray, List.set_cons_succ, List.set_cons_zero]
      refine wpSt_any (v := ?v_15) rfl (by kernel_rfl) (fun w K hK => ?h1_15) ?h2_15
      case h1_15 => go_simp; exact hK
      simp only [Act.put, List.setIfInBounds_toArray, List.set_cons_succ, List.set_cons_zero]
      refine wpSt_0 (v := ?v_16) (by kernel_rfl) hs0 rfl (by kernel_rfl) (fun K hK => ?h1_16) ?h2_16
      case h1_16 => go_simp; exact hK
      simp only [Act.put, List.setIfInBounds_toArray, List.set_cons_succ, List.set_cons_zero]
      refine wpSt_any (v := ?v_17) rfl (by kernel_rfl) (fun w K hK => ?h1_17) ?h2_17
      case h1_17 => go_simp; exact hK
      simp only [Act.put, List.setIfInBounds_toArray, List.set_cons_succ, List.set_cons_zero]
      refine wpSt_any (v := ?v_18) rfl (by kernel_rfl) (fun w K hK => ?h1_18) ?h2_18
      case h1_18 => go_simp; exact hK
      simp only [Act.put, List.setIfInBounds_toArray, List.set_cons_succ, List.set_cons_zero]
      refine wpSt_any (v := ?v_19) rfl (by kernel_rfl) (fun w K hK => ?h1_19) ?h2_19
      case h1_19 => go_simp; exact hK
      simp only [Act.put, List.setIfInBounds_toArray, List.set_cons_succ, List.set_cons_zero]
      refine wpSt_any (v := ?v_20) rfl (by kernel_rfl) (fun w K hK => ?h1_20) ?h2_20
      case h1_20 => go_simp; exact hK
      simp only [Act.put, List.setIfInBounds_toArray, List.set_cons_succ, List.set_cons_zero]
      refine wpSt_0 (v := ?v_21) (by kernel_rfl) hs0 rfl (by kernel_rfl) (fun K hK => ?h1_21) ?h2_21
      case h1_21 => go_simp; exact hK
      simp only [Act.put, List.setIfInBounds_toArray, List.set_cons_succ, List.set_cons_zero]
      refine wpSt_any (v := ?v_22) rfl (by kernel_rfl) (fun w K hK => ?h1_22) ?h2_22
      case h1_22 => go_simp; exact hK
      simp only [Act.put, List.setIfInBounds_toArray, List.set_cons_succ, List.set_cons_zero]
      refine wpSt_any (v := ?v_23) rfl (by kernel_rfl) (fun w K hK => ?h1_23) ?h2_23
      case h1_23 => go_simp; exact hK
      simp only [Act.put, List.setIfInBounds_toArray, List.set_cons_succ, List.set_cons_zero]
      refine wpSt_any (v := ?v_24) rfl (by kernel_rfl) (fun w K hK => ?h1_24) ?h2_24
      case h1_24 => go_simp; exact hK
      simp only [Act.put, List.setIfInBounds_toArray, List.set_cons_succ, List.set_cons_zero]
      refine wpSt_any (v := ?v_25) rfl (by kernel_rfl) (fun w K hK => ?h1_25) ?h2_25
      case h1_25 => go_simp; exact hK
      simp only [Act.put, List.setIfInBounds_toArray, List.set_cons_succ, List.set_cons_zero]
      refine wpSt_any (v := ?v_26) rfl (by kernel_rfl) (fun w K hK => ?h1_26) ?h2_26
      case h1_26 => go_simp; exact hK
      simp only [Act.put, List.setIfInBounds_toArray, List.set_cons_succ, List.set_cons_zero]
      refine wpSt_0 (v := ?v_27) (by kernel_rfl) hs0 rfl (by kernel_rfl) (fun K hK => ?h1_27) ?h2_27
      case h1_27 => go_simp; refine ⟨_, HL.out, ?_⟩; exact hK
      simp only [Act.put, List.setIfInBounds_toArray, List.set_cons_succ, List.set_cons_zero]
      refine wpSt_any (v := ?v_28) rfl (by kernel_rfl) (fun w K hK => ?h1_28) ?h2_28
      case h1_28 => go_simp; exact hK
      simp only [Act.put, List.setIfInBounds_toArray, List.set_cons_succ, List.set_cons_zero]
      refine wpSt_any (v := ?v_29) rfl (by kernel_rfl) (fun w K hK => ?h1_29) ?h2_29
      case h1_29 => go_simp; exact hK
      simp only [Act.put, List.setIfInBounds_toArray, List.set_cons_succ, List.set_cons_zero]
      refine wpSt_any (v := ?v_30) rfl (by kernel_rfl) (fun w K hK => ?h1_30) ?h2_30
      case h1_30 => go_simp; exact hK
      simp only [Act.put, List.setIfInBounds_toArray, List.set_cons_succ, List.set_cons_zero]
      refine wpSt_any (v := ?v_31) rfl (by kernel_rfl) (fun w K hK => ?h1_31) ?h2_31
      case h1_31 => go_simp; exact hK
      simp only [Act.put, List.setIfInBounds_toArray, List.set_cons_succ, List.set_cons_zero]
      refine wpSt_any (v := ?v_32) rfl (by kernel_rfl) (fun w K hK => ?h1_32) ?h2_32
      case h1_32 => go_simp; exact hK
      simp only [Act.put, List.setIfInBounds_toArray, List.set_cons_succ, List.set_cons_zero]
      refine wpSt_store rfl hs0 hs1 rfl (by kernel_rfl) ?h1_33 ?h2_33
      case h1_33 => rw [HW1.out]; go_simp
      refine wpSt_any (v := ?v_34) rfl (by kernel_rfl) (fun w K hK => ?h1_34) ?h2_34
      case h1_34 => go_simp; exact hK
      simp only [Act.put, List.setIfInBounds_toArray, List.set_cons_succ, List.set_cons_zero]
      refine wpSt_any (v := ?v_35) rfl (by kernel_rfl) (fun w K hK => ?h1_35) ?h2_35
      case h1_35 => go_simp; exact hK
      simp only [Act.put, List.setIfInBounds_toArray, List.set_cons_succ, List.set_cons_zero]
      refine wpSt_store rfl hs1 hs2 rfl (by kernel_rfl) ?h1_36 ?h2_36
      case h1_36 => rw [HW2.out]; go_simp
      refine wpSt_nil rfl ?_
      rw [show Ws [32, 35].length = W2 from hs2]
      go_wp2_with fail
      refine HT.out.mono ?_
      rintro _ _ ⟨rfl, rfl⟩
      go_wp2_with fail
      refine HS.out.mono ?_
      rintro _ w3 ⟨v3, rfl, o3, s3⟩
      have HO3 := Lib.hid o3
      have HS3 := Lib.hid (HW.out.trans s3)
      clear o3 s3
      go_wp2
      go_end0
      refine ⟨v3, rfl, ?_, HS3.out⟩
      rw [HD.out]
      exact HO3.out
    · simp only [Bool.true_or, Bool.false_or, Bool.or_true, Bool.or_false] at hW1 hW2
      have HW1 := Lib.hid hW1
      have HW2 := Lib.hid hW2
      clear hW1 hW2
      go_wp2
      refine wp_region_stores [32, 35] Ws (by kernel_rfl) (by kernel_rfl) hs0 ?_
      refine wpSt_any (v := ?v_38) rfl (by kernel_rfl) (fun w K hK => ?h1_38) ?h2_38
      case h1_38 => go_simp; exact hK
      simp only [Act.put, List.setIfInBounds_toArray, List.set_cons_succ, List.set_cons_zero]
      refine wpSt_any (v := ?v_39) rfl (by kernel_rfl) (fun w K hK => ?h1_39) ?h2_39
      case h1_39 => go_simp; exact hK
      simp only [Act.put, List.setIfInBounds_toArray, List.set_cons_succ, List.set_cons_zero]
      refine wpSt_any (v := ?v_40) rfl (by kernel_rfl) (fun w K hK => ?h1_40) ?h2_40
      case h1_40 => go_simp; exact hK
      simp only [Act.put, List.setIfInBounds_toArray, List.set_cons_succ, List.set_cons_zero]
      refine wpSt_any (v := ?v_41) rfl (by kernel_rfl) (fun w K hK => ?h1_41) ?h2_41
      case h1_41 => go_simp; exact hK
      simp only [Act.put, List.setIfInBounds_toArray, List.set_cons_succ, List.set_cons_zero]
      refine wpSt_any (v := ?v_42) rfl (by kernel_rfl) (fun w K hK => ?h1_42) ?h2_42
      case h1_42 => go_simp; exact hK
      simp only [Act.put, List.setIfInBounds_toArray, List.set_cons_succ, List.set_cons_zero]
      refine wpSt_0 (v := ?v_43) (by kernel_rfl) hs0 rfl (by kernel_rfl) (fun K hK => ?h1_43) ?h2_43
      case h1_43 => go_simp; exact hK
      simp only [Act.put, List.setIfInBounds_toArray, List.set_cons_succ, List.set_cons_zero]
      refine wpSt_any (v := ?v_44) rfl (by kernel_rfl) (fun w K hK => ?h1_44) ?h2_44
      case h1_44 => go_simp; exact hK
      simp only [Act.put, List.setIfInBounds_toArray, List.set_cons_succ, List.set_cons_zero]
      refine wpSt_any (v := ?v_45) rfl (by kernel_rfl) (fun w K hK => ?h1_45) ?h2_45
      case h1_45 => go_simp; exact hK
      simp only [Act.put, List.setIfInBounds_toArray, List.set_cons_succ, List.set_cons_zero]
      refine wpSt_any (v := ?v_46) rfl (by kernel_rfl) (fun w K hK => ?h1_46) ?h2_46
      case h1_46 => go_simp; exact hK
      simp only [Act.put, List.setIfInBounds_toArray, List.set_cons_succ, List.set_cons_zero]
      refine wpSt_any (v := ?v_47) rfl (by kernel_rfl) (fun w K hK => ?h1_47) ?h2_47
      case h1_47 => go_simp; exact hK
      simp only [Act.put, List.setIfInBounds_toArray, List.set_cons_succ, List.set_cons_zero]
      refine wpSt_0 (v := ?v_48) (by kernel_rfl) hs0 rfl (by kernel_rfl) (fun K hK => ?h1_48) ?h2_48
      case h1_48 => go_simp; exact hK
      simp only [Act.put, List.setIfInBounds_toArray, List.set_cons_succ, List.set_cons_zero]
      refine wpSt_any (v := ?v_49) rfl (by kernel_rfl) (fun w K hK => ?h1_49) ?h2_49
      case h1_49 => go_simp; exact hK
      simp only [Act.put, List.setIfInBounds_toArray, List.set_cons_succ, List.set_cons_zero]
      refine wpSt_any (v := ?v_50) rfl (by kernel_rfl) (fun w K hK => ?h1_50) ?h2_50
      case h1_50 => go_simp; exact hK
      simp only [Act.put, List.setIfInBounds_toArray, List.set_cons_succ, List.set_cons_zero]
      refine wpSt_any (v := ?v_51) rfl (by kernel_rfl) (fun w K hK => ?h1_51) ?h2_51
      case h1_51 => go_simp; exact hK
      simp only [Act.put, List.setIfInBounds_toArray, List.set_cons_succ, List.set_cons_zero]
      refine wpSt_any (v := ?v_52) rfl (by kernel_rfl) (fun w K hK => ?h1_52) ?h2_52
      case h1_52 => go_simp; exact hK
      simp only [Act.put, List.setIfInBounds_toArray, List.set_cons_succ, List.set_cons_zero]
      refine wpSt_0 (v := ?v_53) (by kernel_rfl) hs0 rfl (by kernel_rfl) (fun K hK => ?h1_53) ?h2_53
      case h1_53 => go_simp; exact hK
      simp only [Act.put, List.setIfInBounds_toArray, List.set_cons_succ, List.set_cons_zero]
      refine wpSt_any (v := ?v_54) rfl (by kernel_rfl) (fun w K hK => ?h1_54) ?h2_54
      case h1_54 => go_simp; exact hK
      simp only [Act.put, List.setIfInBounds_toArray, List.set_cons_succ, List.set_cons_zero]
      refine wpSt_any (v := ?v_55) rfl (by kernel_rfl) (fun w K hK => ?h1_55) ?h2_55
      case h1_55 => go_simp; exact hK
      simp only [Act.put, List.setIfInBounds_toArray, List.set_cons_succ, List.set_cons_zero]
      refine wpSt_any (v := ?v_56) rfl (by kernel_rfl) (fun w K hK => ?h1_56) ?h2_56
      case h1_56 => go_simp; exact hK
      simp only [Act.put, List.setIfInBounds_toArray, List.set_cons_succ, List.set_cons_zero]
      refine wpSt_any (v := ?v_57) rfl (by kernel_rfl) (fun w K hK => ?h1_57) ?h2_57
      case h1_57 => go_simp; exact hK
      simp only [Act.put, List.setIfInBounds_toArray, List.set_cons_succ, List.set_cons_zero]
      refine wpSt_0 (v := ?v_58) (by kernel_rfl) hs0 rfl (by kernel_rfl) (fun K hK => ?h1_58) ?h2_58
      case h1_58 => go_simp; exact hK
      simp only [Act.put, List.setIfInBounds_toArray, List.set_cons_succ, List.set_cons_zero]
      refine wpSt_any (v := ?v_59) rfl (by kernel_rfl) (fun w K hK => ?h1_59) ?h2_59
      case h1_59 => go_simp; exact hK
      simp only [Act.put, List.setIfInBounds_toArray, List.set_cons_succ, List.set_cons_zero]
      refine wpSt_any (v := ?v_60) rfl (by kernel_rfl) (fun w K hK => ?h1_60) ?h2_60
      case h1_60 => go_simp; exact hK
      simp only [Act.put, List.setIfInBounds_toArray, List.set_cons_succ, List.set_cons_zero]
      refine wpSt_off rfl (by kernel_rfl) ?_
      simp only [Act.put, List.setIfInBounds_toArray, List.set_cons_succ, List.set_cons_zero]
      refine wpSt_off rfl (by kernel_rfl) ?_
      simp only [Act.put, List.setIfInBounds_toArray, List.set_cons_succ, List.set_cons_zero]
      refine wpSt_off rfl (by kernel_rfl) ?_
      simp only [Act.put, List.setIfInBounds_toArray, List.set_cons_succ, List.set_cons_zero]
      refine wpSt_off rfl (by kernel_rfl) ?_
      simp only [Act.put, List.setIfInBounds_toArray, List.set_cons_succ, List.set_cons_zero]
      refine wpSt_off rfl (by kernel_rfl) ?_
      simp only [Act.put, List.setIfInBounds_toArray, List.set_cons_succ, List.set_cons_zero]
      refine wpSt_off rfl (by kernel_rfl) ?_
      simp only [Act.put, List.setIfInBounds_toArray, List.set_cons_succ, List.set_cons_zero]
      refine wpSt_any (v := ?v_67) rfl (by kernel_rfl) (fun w K hK => ?h1_67) ?h2_67
      case h1_67 => go_simp; exact hK
      simp only [Act.put, List.setIfInBounds_toArray, List.set_cons_succ, List.set_cons_zero]
      refine wpSt_any (v := ?v_68) rfl (by kernel_rfl) (fun w K hK => ?h1_68) ?h2_68
      case h1_68 => go_simp; exact hK
      simp only [Act.put, List.setIfInBounds_toArray, List.set_cons_succ, List.set_cons_zero]
      refine wpSt_any (v := ?v_69) rfl (by kernel_rfl) (fun w K hK => ?h1_69) ?h2_69
      case h1_69 => go_simp; exact hK
      simp only [Act.put, List.setIfInBounds_toArray, List.set_cons_succ, List.set_cons_zero]
      refine wpSt_store rfl hs0 hs1 rfl (by kernel_rfl) ?h1_70 ?h2_70
      case h1_70 => rw [HW1.out]; go_simp
      refine wpSt_any (v := ?v_71) rfl (by kernel_rfl) (fun w K hK => ?h1_71) ?h2_71
      case h1_71 => go_simp; exact hK
      simp only [Act.put, List.setIfInBounds_toArray, List.set_cons_succ, List.set_cons_zero]
      refine wpSt_any (v := ?v_72) rfl (by kernel_rfl) (fun w K hK => ?h1_72) ?h2_72
      case h1_72 => go_simp; exact hK
      simp only [Act.put, List.setIfInBounds_toArray, List.set_cons_succ, List.set_cons_zero]
      refine wpSt_store rfl hs1 hs2 rfl (by kernel_rfl) ?h1_73 ?h2_73
      case h1_73 => rw [HW2.out]; go_simp
      refine wpSt_nil rfl ?_
      rw [show Ws [32, 35].length = W2 from hs2]
      go_wp2_with fail
      refine HT.out.mono ?_
      rintro _ _ ⟨rfl, rfl⟩
      go_wp2_with fail
      refine HS.out.mono ?_
      rintro _ w3 ⟨v3, rfl, o3, s3⟩
      have HO3 := Lib.hid o3
      have HS3 := Lib.hid (HW.out.trans s3)
      clear o3 s3
      go_wp2
      go_end0
      refine ⟨v3, rfl, ?_, HS3.out⟩
      rw [HD.out]
      exact HO3.out
  · simp only [Bool.true_or, Bool.false_or, Bool.or_true, Bool.or_false] at hW1 hW2
    have HW1 := Lib.hid hW1
    have HW2 := Lib.hid hW2
    clear hW1 hW2
    go_wp2
    refine wp_region_stores [32, 35] Ws (by kernel_rfl) (by kernel_rfl) hs0 ?_
    refine wpSt_any (v := ?v_75) rfl (by kernel_rfl) (fun w K hK => ?h1_75) ?h2_75
    case h1_75 => go_simp; exact hK
    simp only [Act.put, List.setIfInBounds_toArray, List.set_cons_succ, List.set_cons_zero]
    refine wpSt_any (v := ?v_76) rfl (by kernel_rfl) (fun w K hK => ?h1_76) ?h2_76
    case h1_76 => go_simp; exact hK
    simp only [Act.put, List.setIfInBounds_toArray, List.set_cons_succ, List.set_cons_zero]
    refine wpSt_any (v := ?v_77) rfl (by kernel_rfl) (fun w K hK => ?h1_77) ?h2_77
    case h1_77 => go_simp; exact hK
    simp only [Act.put, List.setIfInBounds_toArray, List.set_cons_succ, List.set_cons_zero]
    refine wpSt_any (v := ?v_78) rfl (by kernel_rfl) (fun w K hK => ?h1_78) ?h2_78
    case h1_78 => go_simp; exact hK
    simp only [Act.put, List.setIfInBounds_toArray, List.set_cons_succ, List.set_cons_zero]
    refine wpSt_any (v := ?v_79) rfl (by kernel_rfl) (fun w K hK => ?h1_79) ?h2_79
    case h1_79 => go_simp; exact hK
    simp only [Act.put, List.setIfInBounds_toArray, List.set_cons_succ, List.set_cons_zero]
    refine wpSt_0 (v := ?v_80) (by kernel_rfl) hs0 rfl (by kernel_rfl) (fun K hK => ?h1_80) ?h2_80
    case h1_80 => go_simp; exact hK
    simp only [Act.put, List.setIfInBounds_toArray, List.set_cons_succ, List.set_cons_zero]
    refine wpSt_any (v := ?v_81) rfl (by kernel_rfl) (fun w K hK => ?h1_81) ?h2_81
    case h1_81 => go_simp; exact hK
    simp only [Act.put, List.setIfInBounds_toArray, List.set_cons_succ, List.set_cons_zero]
    refine wpSt_any (v := ?v_82) rfl (by kernel_rfl) (fun w K hK => ?h1_82) ?h2_82
    case h1_82 => go_simp; exact hK
    simp only [Act.put, List.setIfInBounds_toArray, List.set_cons_succ, List.set_cons_zero]
    refine wpSt_any (v := ?v_83) rfl (by kernel_rfl) (fun w K hK => ?h1_83) ?h2_83
    case h1_83 => go_simp; exact hK
    simp only [Act.put, List.setIfInBounds_toArray, List.set_cons_succ, List.set_cons_zero]
    refine wpSt_any (v := ?v_84) rfl (by kernel_rfl) (fun w K hK => ?h1_84) ?h2_84
    case h1_84 => go_simp; exact hK
    simp only [Act.put, List.setIfInBounds_toArray, List.set_cons_succ, List.set_cons_zero]
    refine wpSt_0 (v := ?v_85) (by kernel_rfl) hs0 rfl (by kernel_rfl) (fun K hK => ?h1_85) ?h2_85
    case h1_85 => go_simp; exact hK
    simp only [Act.put, List.setIfInBounds_toArray, List.set_cons_succ, List.set_cons_zero]
    refine wpSt_any (v := ?v_86) rfl (by kernel_rfl) (fun w K hK => ?h1_86) ?h2_86
    case h1_86 => go_simp; exact hK
    simp only [Act.put, List.setIfInBounds_toArray, List.set_cons_succ, List.set_cons_zero]
    refine wpSt_any (v := ?v_87) rfl (by kernel_rfl) (fun w K hK => ?h1_87) ?h2_87
    case h1_87 => go_simp; exact hK
    simp only [Act.put, List.setIfInBounds_toArray, List.set_cons_succ, List.set_cons_zero]
    refine wpSt_any (v := ?v_88) rfl (by kernel_rfl) (fun w K hK => ?h1_88) ?h2_88
    case h1_88 => go_simp; exact hK
    simp only [Act.put, List.setIfInBounds_toArray, List.set_cons_succ, List.set_cons_zero]
    refine wpSt_any (v := ?v_89) rfl (by kernel_rfl) (fun w K hK => ?h1_89) ?h2_89
    case h1_89 => go_simp; exact hK
    simp only [Act.put, List.setIfInBounds_toArray, List.set_cons_succ, List.set_cons_zero]
    refine wpSt_0 (v := ?v_90) (by kernel_rfl) hs0 rfl (by kernel_rfl) (fun K hK => ?h1_90) ?h2_90
    case h1_90 => go_simp; exact hK
    simp only [Act.put, List.setIfInBounds_toArray, List.set_cons_succ, List.set_cons_zero]
    refine wpSt_any (v := ?v_91) rfl (by kernel_rfl) (fun w K hK => ?h1_91) ?h2_91
    case h1_91 => go_simp; exact hK
    simp only [Act.put, List.setIfInBounds_toArray, List.set_cons_succ, List.set_cons_zero]
    refine wpSt_off rfl (by kernel_rfl) ?_
    simp only [Act.put, List.setIfInBounds_toArray, List.set_cons_succ, List.set_cons_zero]
    refine wpSt_off rfl (by kernel_rfl) ?_
    simp only [Act.put, List.setIfInBounds_toArray, List.set_cons_succ, List.set_cons_zero]
    refine wpSt_off rfl (by kernel_rfl) ?_
    simp only [Act.put, List.setIfInBounds_toArray, List.set_cons_succ, List.set_cons_zero]
    refine wpSt_off rfl (by kernel_rfl) ?_
    simp only [Act.put, List.setIfInBounds_toArray, List.set_cons_succ, List.set_cons_zero]
    refine wpSt_any (v := ?v_96) rfl (by kernel_rfl) (fun w K hK => ?h1_96) ?h2_96
    case h1_96 => go_simp; exact hK
    simp only [Act.put, List.setIfInBounds_toArray, List.set_cons_succ, List.set_cons_zero]
    refine wpSt_any (v := ?v_97) rfl (by kernel_rfl) (fun w K hK => ?h1_97) ?h2_97
    case h1_97 => go_simp; exact hK
    simp only [Act.put, List.setIfInBounds_toArray, List.set_cons_succ, List.set_cons_zero]
    refine wpSt_off rfl (by kernel_rfl) ?_
    simp only [Act.put, List.setIfInBounds_toArray, List.set_cons_succ, List.set_cons_zero]
    refine wpSt_off rfl (by kernel_rfl) ?_
    simp only [Act.put, List.setIfInBounds_toArray, List.set_cons_succ, List.set_cons_zero]
    refine wpSt_off rfl (by kernel_rfl) ?_
    simp only [Act.put, List.setIfInBounds_toArray, List.set_cons_succ, List.set_cons_zero]
    refine wpSt_off rfl (by kernel_rfl) ?_
    simp only [Act.put, List.setIfInBounds_toArray, List.set_cons_succ, List.set_cons_zero]
    refine wpSt_off rfl (by kernel_rfl) ?_
    simp only [Act.put, List.setIfInBounds_toArray, List.set_cons_succ, List.set_cons_zero]
    refine wpSt_off rfl (by kernel_rfl) ?_
    simp only [Act.put, List.setIfInBounds_toArray, List.set_cons_succ, List.set_cons_zero]
    refine wpSt_any (v := ?v_104) rfl (by kernel_rfl) (fun w K hK => ?h1_104) ?h2_104
    case h1_104 => go_simp; exact hK
    simp only [Act.put, List.setIfInBounds_toArray, List.set_cons_succ, List.set_cons_zero]
    refine wpSt_any (v := ?v_105) rfl (by kernel_rfl) (fun w K hK => ?h1_105) ?h2_105
    case h1_105 => go_simp; exact hK
    simp only [Act.put, List.setIfInBounds_toArray, List.set_cons_succ, List.set_cons_zero]
    refine wpSt_any (v := ?v_106) rfl (by kernel_rfl) (fun w K hK => ?h1_106) ?h2_106
    case h1_106 => go_simp; exact hK
    simp only [Act.put, List.setIfInBounds_toArray, List.set_cons_succ, List.set_cons_zero]
    refine wpSt_store rfl hs0 hs1 rfl (by kernel_rfl) ?h1_107 ?h2_107
    case h1_107 => rw [HW1.out]; go_simp
    refine wpSt_any (v := ?v_108) rfl (by kernel_rfl) (fun w K hK => ?h1_108) ?h2_108
    case h1_108 => go_simp; exact hK
    simp only [Act.put, List.setIfInBounds_toArray, List.set_cons_succ, List.set_cons_zero]
    refine wpSt_any (v := ?v_109) rfl (by kernel_rfl) (fun w K hK => ?h1_109) ?h2_109
    case h1_109 => go_simp; exact hK
    simp only [Act.put, List.setIfInBounds_toArray, List.set_cons_succ, List.set_cons_zero]
    refine wpSt_store rfl hs1 hs2 rfl (by kernel_rfl) ?h1_110 ?h2_110
    case h1_110 => rw [HW2.out]; go_simp
    refine wpSt_nil rfl ?_
    rw [show Ws [32, 35].length = W2 from hs2]
    go_wp2_with fail
    refine HT.out.mono ?_
    rintro _ _ ⟨rfl, rfl⟩
    go_wp2_with fail
    refine HS.out.mono ?_
    rintro _ w3 ⟨v3, rfl, o3, s3⟩
    have HO3 := Lib.hid o3
    have HS3 := Lib.hid (HW.out.trans s3)
    clear o3 s3
    go_wp2
    go_end0
    refine ⟨v3, rfl, ?_, HS3.out⟩
    rw [HD.out]
    exact HO3.out
  · cases io
    · simp only [Bool.true_or, Bool.false_or, Bool.or_true, Bool.or_false] at hW1 hW2
      have HW1 := Lib.hid hW1
      have HW2 := Lib.hid hW2
      clear hW1 hW2
      go_wp2
      refine wp_region_stores [32, 35] Ws (by kernel_rfl) (by kernel_rfl) hs0 ?_
      refine wpSt_any (v := ?v_112) rfl (by kernel_rfl) (fun w K hK => ?h1_112) ?h2_112
      case h1_112 => go_simp; exact hK
      simp only [Act.put, List.setIfInBounds_toArray, List.set_cons_succ, List.set_cons_zero]
      refine wpSt_any (v := ?v_113) rfl (by kernel_rfl) (fun w K hK => ?h1_113) ?h2_113
      case h1_113 => go_simp; exact hK
      simp only [Act.put, List.setIfInBounds_toArray, List.set_cons_succ, List.set_cons_zero]
      refine wpSt_any (v := ?v_114) rfl (by kernel_rfl) (fun w K hK => ?h1_114) ?h2_114
      case h1_114 => go_simp; exact hK
      simp only [Act.put, List.setIfInBounds_toArray, List.set_cons_succ, List.set_cons_zero]
      refine wpSt_any (v := ?v_115) rfl (by kernel_rfl) (fun w K hK => ?h1_115) ?h2_115
      case h1_115 => go_simp; exact hK
      simp only [Act.put, List.setIfInBounds_toArray, List.set_cons_succ, List.set_cons_zero]
      refine wpSt_any (v := ?v_116) rfl (by kernel_rfl) (fun w K hK => ?h1_116) ?h2_116
      case h1_116 => go_simp; exact hK
      simp only [Act.put, List.setIfInBounds_toArray, List.set_cons_succ, List.set_cons_zero]
      refine wpSt_0 (v := ?v_117) (by kernel_rfl) hs0 rfl (by kernel_rfl) (fun K hK => ?h1_117) ?h2_117
      case h1_117 => go_simp; exact hK
      simp only [Act.put, List.setIfInBounds_toArray, List.set_cons_succ, List.set_cons_zero]
      refine wpSt_any (v := ?v_118) rfl (by kernel_rfl) (fun w K hK => ?h1_118) ?h2_118
      case h1_118 => go_simp; exact hK
      simp only [Act.put, List.setIfInBounds_toArray, List.set_cons_succ, List.set_cons_zero]
      refine wpSt_off rfl (by kernel_rfl) ?_
      simp only [Act.put, List.setIfInBounds_toArray, List.set_cons_succ, List.set_cons_zero]
      refine wpSt_off rfl (by kernel_rfl) ?_
      simp only [Act.put, List.setIfInBounds_toArray, List.set_cons_succ, List.set_cons_zero]
      refine wpSt_off rfl (by kernel_rfl) ?_
      simp only [Act.put, List.setIfInBounds_toArray, List.set_cons_succ, List.set_cons_zero]
      refine wpSt_off rfl (by kernel_rfl) ?_
      simp only [Act.put, List.setIfInBounds_toArray, List.set_cons_succ, List.set_cons_zero]
      refine wpSt_any (v := ?v_123) rfl (by kernel_rfl) (fun w K hK => ?h1_123) ?h2_123
      case h1_123 => go_simp; exact hK
      simp only [Act.put, List.setIfInBounds_toArray, List.set_cons_succ, List.set_cons_zero]
      refine wpSt_any (v := ?v_124) rfl (by kernel_rfl) (fun w K hK => ?h1_124) ?h2_124
      case h1_124 => go_simp; exact hK
      simp only [Act.put, List.setIfInBounds_toArray, List.set_cons_succ, List.set_cons_zero]
      refine wpSt_any (v := ?v_125) rfl (by kernel_rfl) (fun w K hK => ?h1_125) ?h2_125
      case h1_125 => go_simp; exact hK
      simp only [Act.put, List.setIfInBounds_toArray, List.set_cons_succ, List.set_cons_zero]
      refine wpSt_any (v := ?v_126) rfl (by kernel_rfl) (fun w K hK => ?h1_126) ?h2_126
      case h1_126 => go_simp; exact hK
      simp only [Act.put, List.setIfInBounds_toArray, List.set_cons_succ, List.set_cons_zero]
      refine wpSt_0 (v := ?v_127) (by kernel_rfl) hs0 rfl (by kernel_rfl) (fun K hK => ?h1_127) ?h2_127
      case h1_127 => go_simp; exact hK
      simp only [Act.put, List.setIfInBounds_toArray, List.set_cons_succ, List.set_cons_zero]
      refine wpSt_any (v := ?v_128) rfl (by kernel_rfl) (fun w K hK => ?h1_128) ?h2_128
      case h1_128 => go_simp; exact hK
      simp only [Act.put, List.setIfInBounds_toArray, List.set_cons_succ, List.set_cons_zero]
      refine wpSt_any (v := ?v_129) rfl (by kernel_rfl) (fun w K hK => ?h1_129) ?h2_129
      case h1_129 => go_simp; exact hK
      simp only [Act.put, List.setIfInBounds_toArray, List.set_cons_succ, List.set_cons_zero]
      refine wpSt_any (v := ?v_130) rfl (by kernel_rfl) (fun w K hK => ?h1_130) ?h2_130
      case h1_130 => go_simp; exact hK
      simp only [Act.put, List.setIfInBounds_toArray, List.set_cons_succ, List.set_cons_zero]
      refine wpSt_any (v := ?v_131) rfl (by kernel_rfl) (fun w K hK => ?h1_131) ?h2_131
      case h1_131 => go_simp; exact hK
      simp only [Act.put, List.setIfInBounds_toArray, List.set_cons_succ, List.set_cons_zero]
      refine wpSt_0 (v := ?v_132) (by kernel_rfl) hs0 rfl (by kernel_rfl) (fun K hK => ?h1_132) ?h2_132
      case h1_132 => go_simp; exact hK
      simp only [Act.put, List.setIfInBounds_toArray, List.set_cons_succ, List.set_cons_zero]
      refine wpSt_any (v := ?v_133) rfl (by kernel_rfl) (fun w K hK => ?h1_133) ?h2_133
      case h1_133 => go_simp; exact hK
      simp only [Act.put, List.setIfInBounds_toArray, List.set_cons_succ, List.set_cons_zero]
      refine wpSt_any (v := ?v_134) rfl (by kernel_rfl) (fun w K hK => ?h1_134) ?h2_134
      case h1_134 => go_simp; exact hK
      simp only [Act.put, List.setIfInBounds_toArray, List.set_cons_succ, List.set_cons_zero]
      refine wpSt_any (v := ?v_135) rfl (by kernel_rfl) (fun w K hK => ?h1_135) ?h2_135
      case h1_135 => go_simp; exact hK
      simp only [Act.put, List.setIfInBounds_toArray, List.set_cons_succ, List.set_cons_zero]
      refine wpSt_any (v := ?v_136) rfl (by kernel_rfl) (fun w K hK => ?h1_136) ?h2_136
      case h1_136 => go_simp; exact hK
      simp only [Act.put, List.setIfInBounds_toArray, List.set_cons_succ, List.set_cons_zero]
      refine wpSt_any (v := ?v_137) rfl (by kernel_rfl) (fun w K hK => ?h1_137) ?h2_137
      case h1_137 => go_simp; exact hK
      simp only [Act.put, List.setIfInBounds_toArray, List.set_cons_succ, List.set_cons_zero]
      refine wpSt_0 (v := ?v_138) (by kernel_rfl) hs0 rfl (by kernel_rfl) (fun K hK => ?h1_138) ?h2_138
      case h1_138 => go_simp; refine ⟨_, HL.out, ?_⟩; exact hK
      simp only [Act.put, List.setIfInBounds_toArray, List.set_cons_succ, List.set_cons_zero]
      refine wpSt_any (v := ?v_139) rfl (by kernel_rfl) (fun w K hK => ?h1_139) ?h2_139
      case h1_139 => go_simp; exact hK
      simp only [Act.put, List.setIfInBounds_toArray, List.set_cons_succ, List.set_cons_zero]
      refine wpSt_any (v := ?v_140) rfl (by kernel_rfl) (fun w K hK => ?h1_140) ?h2_140
      case h1_140 => go_simp; exact hK
      simp only [Act.put, List.setIfInBounds_toArray, List.set_cons_succ, List.set_cons_zero]
      refine wpSt_any (v := ?v_141) rfl (by kernel_rfl) (fun w K hK => ?h1_141) ?h2_141
      case h1_141 => go_simp; exact hK
      simp only [Act.put, List.setIfInBounds_toArray, List.set_cons_succ, List.set_cons_zero]
      refine wpSt_any (v := ?v_142) rfl (by kernel_rfl) (fun w K hK => ?h1_142) ?h2_142
      case h1_142 => go_simp; exact hK
      simp only [Act.put, List.setIfInBounds_toArray, List.set_cons_succ, List.set_cons_zero]
      refine wpSt_any (v := ?v_143) rfl (by kernel_rfl) (fun w K hK => ?h1_143) ?h2_143
      case h1_143 => go_simp; exact hK
      simp only [Act.put, List.setIfInBounds_toArray, List.set_cons_succ, List.set_cons_zero]
      refine wpSt_store rfl hs0 hs1 rfl (by kernel_rfl) ?h1_144 ?h2_144
      case h1_144 => rw [HW1.out]; go_simp
      refine wpSt_any (v := ?v_145) rfl (by kernel_rfl) (fun w K hK => ?h1_145) ?h2_145
      case h1_145 => go_simp; exact hK
      simp only [Act.put, List.setIfInBounds_toArray, List.set_cons_succ, List.set_cons_zero]
      refine wpSt_any (v := ?v_146) rfl (by kernel_rfl) (fun w K hK => ?h1_146) ?h2_146
      case h1_146 => go_simp; exact hK
      simp only [Act.put, List.setIfInBounds_toArray, List.set_cons_succ, List.set_cons_zero]
      refine wpSt_store rfl hs1 hs2 rfl (by kernel_rfl) ?h1_147 ?h2_147
      case h1_147 => rw [HW2.out]; go_simp
      refine wpSt_nil rfl ?_
      rw [show Ws [32, 35].length = W2 from hs2]
      go_wp2_with fail
      refine HT.out.mono ?_
      rintro _ _ ⟨rfl, rfl⟩
      go_wp2_with fail
      refine HS.out.mono ?_
      rintro _ w3 ⟨v3, rfl, o3, s3⟩
      have HO3 := Lib.hid o3
      have HS3 := Lib.hid (HW.out.trans s3)
      clear o3 s3
      go_wp2
      go_end0
      refine ⟨v3, rfl, ?_, HS3.out⟩
      rw [HD.out]
      exact HO3.out
    · simp only [Bool.true_or, Bool.false_or, Bool.or_true, Bool.or_false] at hW1 hW2
      have HW1 := Lib.hid hW1
      have HW2 := Lib.hid hW2
      clear hW1 hW2
      go_wp2
      refine wp_region_stores [32, 35] Ws (by kernel_rfl) (by kernel_rfl) hs0 ?_
      refine wpSt_any (v := ?v_149) rfl (by kernel_rfl) (fun w K hK => ?h1_149) ?h2_149
      case h1_149 => go_simp; exact hK
      simp only [Act.put, List.setIfInBounds_toArray, List.set_cons_succ, List.set_cons_zero]
      refine wpSt_any (v := ?v_150) rfl (by kernel_rfl) (fun w K hK => ?h1_150) ?h2_150
      case h1_150 => go_simp; exact hK
      simp only [Act.put, List.setIfInBounds_toArray, List.set_cons_succ, List.set_cons_zero]
      refine wpSt_any (v := ?v_151) rfl (by kernel_rfl) (fun w K hK => ?h1_151) ?h2_151
      case h1_151 => go_simp; exact hK
      simp only [Act.put, List.setIfInBounds_toArray, List.set_cons_succ, List.set_cons_zero]
      refine wpSt_any (v := ?v_152) rfl (by kernel_rfl) (fun w K hK => ?h1_152) ?h2_152
      case h1_152 => go_simp; exact hK
      simp only [Act.put, List.setIfInBounds_toArray, List.set_cons_succ, List.set_cons_zero]
      refine wpSt_any (v := ?v_153) rfl (by kernel_rfl) (fun w K hK => ?h1_153) ?h2_153
      case h1_153 => go_simp; exact hK
      simp only [Act.put, List.setIfInBounds_toArray, List.set_cons_succ, List.set_cons_zero]
      refine wpSt_0 (v := ?v_154) (by kernel_rfl) hs0 rfl (by kernel_rfl) (fun K hK => ?h1_154) ?h2_154
      case h1_154 => go_simp; exact hK
      simp only [Act.put, List.setIfInBounds_toArray, List.set_cons_succ, List.set_cons_zero]
      refine wpSt_any (v := ?v_155) rfl (by kernel_rfl) (fun w K hK => ?h1_155) ?h2_155
      case h1_155 => go_simp; exact hK
      simp only [Act.put, List.setIfInBounds_toArray, List.set_cons_succ, List.set_cons_zero]
      refine wpSt_off rfl (by kernel_rfl) ?_
      simp only [Act.put, List.setIfInBounds_toArray, List.set_cons_succ, List.set_cons_zero]
      refine wpSt_off rfl (by kernel_rfl) ?_
      simp only [Act.put, List.setIfInBounds_toArray, List.set_cons_succ, List.set_cons_zero]
      refine wpSt_off rfl (by kernel_rfl) ?_
      simp only [Act.put, List.setIfInBounds_toArray, List.set_cons_succ, List.set_cons_zero]
      refine wpSt_off rfl (by kernel_rfl) ?_
      simp only [Act.put, List.setIfInBounds_toArray, List.set_cons_succ, List.set_cons_zero]
      refine wpSt_any (v := ?v_160) rfl (by kernel_rfl) (fun w K hK => ?h1_160) ?h2_160
      case h1_160 => go_simp; exact hK
      simp only [Act.put, List.setIfInBounds_toArray, List.set_cons_succ, List.set_cons_zero]
      refine wpSt_any (v := ?v_161) rfl (by kernel_rfl) (fun w K hK => ?h1_161) ?h2_161
      case h1_161 => go_simp; exact hK
      simp only [Act.put, List.setIfInBounds_toArray, List.set_cons_succ, List.set_cons_zero]
      refine wpSt_any (v := ?v_162) rfl (by kernel_rfl) (fun w K hK => ?h1_162) ?h2_162
      case h1_162 => go_simp; exact hK
      simp only [Act.put, List.setIfInBounds_toArray, List.set_cons_succ, List.set_cons_zero]
      refine wpSt_any (v := ?v_163) rfl (by kernel_rfl) (fun w K hK => ?h1_163) ?h2_163
      case h1_163 => go_simp; exact hK
      simp only [Act.put, List.setIfInBounds_toArray, List.set_cons_succ, List.set_cons_zero]
      refine wpSt_0 (v := ?v_164) (by kernel_rfl) hs0 rfl (by kernel_rfl) (fun K hK => ?h1_164) ?h2_164
      case h1_164 => go_simp; exact hK
      simp only [Act.put, List.setIfInBounds_toArray, List.set_cons_succ, List.set_cons_zero]
      refine wpSt_any (v := ?v_165) rfl (by kernel_rfl) (fun w K hK => ?h1_165) ?h2_165
      case h1_165 => go_simp; exact hK
      simp only [Act.put, List.setIfInBounds_toArray, List.set_cons_succ, List.set_cons_zero]
      refine wpSt_any (v := ?v_166) rfl (by kernel_rfl) (fun w K hK => ?h1_166) ?h2_166
      case h1_166 => go_simp; exact hK
      simp only [Act.put, List.setIfInBounds_toArray, List.set_cons_succ, List.set_cons_zero]
      refine wpSt_any (v := ?v_167) rfl (by kernel_rfl) (fun w K hK => ?h1_167) ?h2_167
      case h1_167 => go_simp; exact hK
      simp only [Act.put, List.setIfInBounds_toArray, List.set_cons_succ, List.set_cons_zero]
      refine wpSt_any (v := ?v_168) rfl (by kernel_rfl) (fun w K hK => ?h1_168) ?h2_168
      case h1_168 => go_simp; exact hK
      simp only [Act.put, List.setIfInBounds_toArray, List.set_cons_succ, List.set_cons_zero]
      refine wpSt_0 (v := ?v_169) (by kernel_rfl) hs0 rfl (by kernel_rfl) (fun K hK => ?h1_169) ?h2_169
      case h1_169 => go_simp; exact hK
      simp only [Act.put, List.setIfInBounds_toArray, List.set_cons_succ, List.set_cons_zero]
      refine wpSt_any (v := ?v_170) rfl (by kernel_rfl) (fun w K hK => ?h1_170) ?h2_170
      case h1_170 => go_simp; exact hK
      simp only [Act.put, List.setIfInBounds_toArray, List.set_cons_succ, List.set_cons_zero]
      refine wpSt_any (v := ?v_171) rfl (by kernel_rfl) (fun w K hK => ?h1_171) ?h2_171
      case h1_171 => go_simp; exact hK
      simp only [Act.put, List.setIfInBounds_toArray, List.set_cons_succ, List.set_cons_zero]
      refine wpSt_off rfl (by kernel_rfl) ?_
      simp only [Act.put, List.setIfInBounds_toArray, List.set_cons_succ, List.set_cons_zero]
      refine wpSt_off rfl (by kernel_rfl) ?_
      simp only [Act.put, List.setIfInBounds_toArray, List.set_cons_succ, List.set_cons_zero]
      refine wpSt_off rfl (by kernel_rfl) ?_
      simp only [Act.put, List.setIfInBounds_toArray, List.set_cons_succ, List.set_cons_zero]
      refine wpSt_off rfl (by kernel_rfl) ?_
      simp only [Act.put, List.setIfInBounds_toArray, List.set_cons_succ, List.set_cons_zero]
      refine wpSt_off rfl (by kernel_rfl) ?_
      simp only [Act.put, List.setIfInBounds_toArray, List.set_cons_succ, List.set_cons_zero]
      refine wpSt_off rfl (by kernel_rfl) ?_
      simp only [Act.put, List.setIfInBounds_toArray, List.set_cons_succ, List.set_cons_zero]
      refine wpSt_any (v := ?v_178) rfl (by kernel_rfl) (fun w K hK => ?h1_178) ?h2_178
      case h1_178 => go_simp; exact hK
      simp only [Act.put, List.setIfInBounds_toArray, List.set_cons_succ, List.set_cons_zero]
      refine wpSt_any (v := ?v_179) rfl (by kernel_rfl) (fun w K hK => ?h1_179) ?h2_179
      case h1_179 => go_simp; exact hK
      simp only [Act.put, List.setIfInBounds_toArray, List.set_cons_succ, List.set_cons_zero]
      refine wpSt_any (v := ?v_180) rfl (by kernel_rfl) (fun w K hK => ?h1_180) ?h2_180
      case h1_180 => go_simp; exact hK
      simp only [Act.put, List.setIfInBounds_toArray, List.set_cons_succ, List.set_cons_zero]
      refine wpSt_store rfl hs0 hs1 rfl (by kernel_rfl) ?h1_181 ?h2_181
      case h1_181 => rw [HW1.out]; go_simp
      refine wpSt_any (v := ?v_182) rfl (by kernel_rfl) (fun w K hK => ?h1_182) ?h2_182
      case h1_182 => go_simp; exact hK
      simp only [Act.put, List.setIfInBounds_toArray, List.set_cons_succ, List.set_cons_zero]
      refine wpSt_any (v := ?v_183) rfl (by kernel_rfl) (fun w K hK => ?h1_183) ?h2_183
      case h1_183 => go_simp; exact hK
      simp only [Act.put, List.setIfInBounds_toArray, List.set_cons_succ, List.set_cons_zero]
      refine wpSt_store rfl hs1 hs2 rfl (by kernel_rfl) ?h1_184 ?h2_184
      case h1_184 => rw [HW2.out]; go_simp
      refine wpSt_nil rfl ?_
      rw [show Ws [32, 35].length = W2 from hs2]
      go_wp2_with fail
      refine HT.out.mono ?_
      rintro _ _ ⟨rfl, rfl⟩
      go_wp2_with fail
      refine HS.out.mono ?_
      rintro _ w3 ⟨v3, rfl, o3, s3⟩
      have HO3 := Lib.hid o3
      have HS3 := Lib.hid (HW.out.trans s3)
      clear o3 s3
      go_wp2
      go_end0
      refine ⟨v3, rfl, ?_, HS3.out⟩
      rw [HD.out]
      exact HO3.out
  · simp only [Bool.true_or, Bool.false_or, Bool.or_true, Bool.or_false] at hW1 hW2
    have HW1 := Lib.hid hW1
    have HW2 := Lib.hid hW2
    clear hW1 hW2
    go_wp2
    refine wp_region_stores [32, 35] Ws (by kernel_rfl) (by kernel_rfl) hs0 ?_
    refine wpSt_any (v := ?v_186) rfl (by kernel_rfl) (fun w K hK => ?h1_186) ?h2_186
    case h1_186 => go_simp; exact hK
    simp only [Act.put, List.setIfInBounds_toArray, List.set_cons_succ, List.set_cons_zero]
    refine wpSt_any (v := ?v_187) rfl (by kernel_rfl) (fun w K hK => ?h1_187) ?h2_187
    case h1_187 => go_simp; exact hK
    simp only [Act.put, List.setIfInBounds_toArray, List.set_cons_succ, List.set_cons_zero]
    refine wpSt_any (v := ?v_188) rfl (by kernel_rfl) (fun w K hK => ?h1_188) ?h2_188
    case h1_188 => go_simp; exact hK
    simp only [Act.put, List.setIfInBounds_toArray, List.set_cons_succ, List.set_cons_zero]
    refine wpSt_any (v := ?v_189) rfl (by kernel_rfl) (fun w K hK => ?h1_189) ?h2_189
    case h1_189 => go_simp; exact hK
    simp only [Act.put, List.setIfInBounds_toArray, List.set_cons_succ, List.set_cons_zero]
    refine wpSt_any (v := ?v_190) rfl (by kernel_rfl) (fun w K hK => ?h1_190) ?h2_190
    case h1_190 => go_simp; exact hK
    simp only [Act.put, List.setIfInBounds_toArray, List.set_cons_succ, List.set_cons_zero]
    refine wpSt_0 (v := ?v_191) (by kernel_rfl) hs0 rfl (by kernel_rfl) (fun K hK => ?h1_191) ?h2_191
    case h1_191 => go_simp; exact hK
    simp only [Act.put, List.setIfInBounds_toArray, List.set_cons_succ, List.set_cons_zero]
    refine wpSt_any (v := ?v_192) rfl (by kernel_rfl) (fun w K hK => ?h1_192) ?h2_192
    case h1_192 => go_simp; exact hK
    simp only [Act.put, List.setIfInBounds_toArray, List.set_cons_succ, List.set_cons_zero]
    refine wpSt_off rfl (by kernel_rfl) ?_
    simp only [Act.put, List.setIfInBounds_toArray, List.set_cons_succ, List.set_cons_zero]
    refine wpSt_off rfl (by kernel_rfl) ?_
    simp only [Act.put, List.setIfInBounds_toArray, List.set_cons_succ, List.set_cons_zero]
    refine wpSt_off rfl (by kernel_rfl) ?_
    simp only [Act.put, List.setIfInBounds_toArray, List.set_cons_succ, List.set_cons_zero]
    refine wpSt_off rfl (by kernel_rfl) ?_
    simp only [Act.put, List.setIfInBounds_toArray, List.set_cons_succ, List.set_cons_zero]
    refine wpSt_any (v := ?v_197) rfl (by kernel_rfl) (fun w K hK => ?h1_197) ?h2_197
    case h1_197 => go_simp; exact hK
    simp only [Act.put, List.setIfInBounds_toArray, List.set_cons_succ, List.set_cons_zero]
    refine wpSt_any (v := ?v_198) rfl (by kernel_rfl) (fun w K hK => ?h1_198) ?h2_198
    case h1_198 => go_simp; exact hK
    simp only [Act.put, List.setIfInBounds_toArray, List.set_cons_succ, List.set_cons_zero]
    refine wpSt_any (v := ?v_199) rfl (by kernel_rfl) (fun w K hK => ?h1_199) ?h2_199
    case h1_199 => go_simp; exact hK
    simp only [Act.put, List.setIfInBounds_toArray, List.set_cons_succ, List.set_cons_zero]
    refine wpSt_any (v := ?v_200) rfl (by kernel_rfl) (fun w K hK => ?h1_200) ?h2_200
    case h1_200 => go_simp; exact hK
    simp only [Act.put, List.setIfInBounds_toArray, List.set_cons_succ, List.set_cons_zero]
    refine wpSt_0 (v := ?v_201) (by kernel_rfl) hs0 rfl (by kernel_rfl) (fun K hK => ?h1_201) ?h2_201
    case h1_201 => go_simp; exact hK
    simp only [Act.put, List.setIfInBounds_toArray, List.set_cons_succ, List.set_cons_zero]
    refine wpSt_any (v := ?v_202) rfl (by kernel_rfl) (fun w K hK => ?h1_202) ?h2_202
    case h1_202 => go_simp; exact hK
    simp only [Act.put, List.setIfInBounds_toArray, List.set_cons_succ, List.set_cons_zero]
    refine wpSt_off rfl (by kernel_rfl) ?_
    simp only [Act.put, List.setIfInBounds_toArray, List.set_cons_succ, List.set_cons_zero]
    refine wpSt_off rfl (by kernel_rfl) ?_
    simp only [Act.put, List.setIfInBounds_toArray, List.set_cons_succ, List.set_cons_zero]
    refine wpSt_off rfl (by kernel_rfl) ?_
    simp only [Act.put, List.setIfInBounds_toArray, List.set_cons_succ, List.set_cons_zero]
    refine wpSt_off rfl (by kernel_rfl) ?_
    simp only [Act.put, List.setIfInBounds_toArray, List.set_cons_succ, List.set_cons_zero]
    refine wpSt_any (v := ?v_207) rfl (by kernel_rfl) (fun w K hK => ?h1_207) ?h2_207
    case h1_207 => go_simp; exact hK
    simp only [Act.put, List.setIfInBounds_toArray, List.set_cons_succ, List.set_cons_zero]
    refine wpSt_any (v := ?v_208) rfl (by kernel_rfl) (fun w K hK => ?h1_208) ?h2_208
    case h1_208 => go_simp; exact hK
    simp only [Act.put, List.setIfInBounds_toArray, List.set_cons_succ, List.set_cons_zero]
    refine wpSt_off rfl (by kernel_rfl) ?_
    simp only [Act.put, List.setIfInBounds_toArray, List.set_cons_succ, List.set_cons_zero]
    refine wpSt_off rfl (by kernel_rfl) ?_
    simp only [Act.put, List.setIfInBounds_toArray, List.set_cons_succ, List.set_cons_zero]
    refine wpSt_off rfl (by kernel_rfl) ?_
    simp only [Act.put, List.setIfInBounds_toArray, List.set_cons_succ, List.set_cons_zero]
    refine wpSt_off rfl (by kernel_rfl) ?_
    simp only [Act.put, List.setIfInBounds_toArray, List.set_cons_succ, List.set_cons_zero]
    refine wpSt_off rfl (by kernel_rfl) ?_
    simp only [Act.put, List.setIfInBounds_toArray, List.set_cons_succ, List.set_cons_zero]
    refine wpSt_off rfl (by kernel_rfl) ?_
    simp only [Act.put, List.setIfInBounds_toArray, List.set_cons_succ, List.set_cons_zero]
    refine wpSt_any (v := ?v_215) rfl (by kernel_rfl) (fun w K hK => ?h1_215) ?h2_215
    case h1_215 => go_simp; exact hK
    simp only [Act.put, List.setIfInBounds_toArray, List.set_cons_succ, List.set_cons_zero]
    refine wpSt_any (v := ?v_216) rfl (by kernel_rfl) (fun w K hK => ?h1_216) ?h2_216
    case h1_216 => go_simp; exact hK
    simp only [Act.put, List.setIfInBounds_toArray, List.set_cons_succ, List.set_cons_zero]
    refine wpSt_any (v := ?v_217) rfl (by kernel_rfl) (fun w K hK => ?h1_217) ?h2_217
    case h1_217 => go_simp; exact hK
    simp only [Act.put, List.setIfInBounds_toArray, List.set_cons_succ, List.set_cons_zero]
    refine wpSt_store rfl hs0 hs1 rfl (by kernel_rfl) ?h1_218 ?h2_218
    case h1_218 => rw [HW1.out]; go_simp
    refine wpSt_any (v := ?v_219) rfl (by kernel_rfl) (fun w K hK => ?h1_219) ?h2_219
    case h1_219 => go_simp; exact hK
    simp only [Act.put, List.setIfInBounds_toArray, List.set_cons_succ, List.set_cons_zero]
    refine wpSt_any (v := ?v_220) rfl (by kernel_rfl) (fun w K hK => ?h1_220) ?h2_220
    case h1_220 => go_simp; exact hK
    simp only [Act.put, List.setIfInBounds_toArray, List.set_cons_succ, List.set_cons_zero]
    refine wpSt_store rfl hs1 hs2 rfl (by kernel_rfl) ?h1_221 ?h2_221
    case h1_221 => rw [HW2.out]; go_simp
    refine wpSt_nil rfl ?_
    rw [show Ws [32, 35].length = W2 from hs2]
    go_wp2_with fail
    refine HT.out.mono ?_
    rintro _ _ ⟨rfl, rfl⟩
    go_wp2_with fail
    refine HS.out.mono ?_
    rintro _ w3 ⟨v3, rfl, o3, s3⟩
    have HO3 := Lib.hid o3
    have HS3 := Lib.hid (HW.out.trans s3)
    clear o3 s3
    go_wp2
    go_end0
    refine ⟨v3, rfl, ?_, HS3.out⟩
    rw [HD.out]
    exact HO3.out
end Go.Proofs.YtggkebngkkddhaaDoor
