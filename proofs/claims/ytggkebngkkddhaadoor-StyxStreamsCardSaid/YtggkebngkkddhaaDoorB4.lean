/- The walks through the input's dir. -/
import Derived.Test.YtggkebngkkddhaaDoorB3
namespace Go.Proofs.YtggkebngkkddhaaDoor
open Go.RowKit

attribute [local irreducible] IS.sized IS.mode IS.count IS.least IS.num IS.finish IS.raw

theorem Fr.setQ_ {S : Nat → Prop} {w w' : World} (h : Fr S w w') {b : Nat} (o : Nat) (q : QV) (hb : S b) : Fr S w (setQ w' b o q) := by
  unfold setQ
  exact ((h.set (p := ⟨b, o, none⟩) hb _).set (p := ⟨b, o + 1, none⟩) hb _).set (p := ⟨b, o + 2, none⟩) hb _
theorem Fr.setD_ {S : Nat → Prop} {w w' : World} (h : Fr S w w') {b : Nat} (o : Nat) (d : DV) (hb : S b) : Fr S w (setD w' b o d) := by
  unfold setD
  exact (((((((h.setQ_ o d.q hb).set (p := ⟨b, o + 3, none⟩) hb _).set (p := ⟨b, o + 4, none⟩) hb _).set (p := ⟨b, o + 5, none⟩) hb _).set (p := ⟨b, o + 6, none⟩) hb _).set (p := ⟨b, o + 7, none⟩) hb _).set (p := ⟨b, o + 8, none⟩) hb _).set (p := ⟨b, o + 9, none⟩) hb _
theorem Fr.congQ {S : Nat → Prop} {w w' : World} (h : Fr S w w') {b : Nat} (o : Nat) (q : QV) (hb : ¬ S b) : Fr S (setQ w b o q) (setQ w' b o q) := by
  unfold setQ
  exact ((h.setCong (p := ⟨b, o, none⟩) _ hb).setCong (p := ⟨b, o + 1, none⟩) _ hb).setCong (p := ⟨b, o + 2, none⟩) _ hb
theorem Fr.congD {S : Nat → Prop} {w w' : World} (h : Fr S w w') {b : Nat} (o : Nat) (d : DV) (hb : ¬ S b) : Fr S (setD w b o d) (setD w' b o d) := by
  unfold setD
  exact (((((((h.congQ o d.q hb).setCong (p := ⟨b, o + 3, none⟩) _ hb).setCong (p := ⟨b, o + 4, none⟩) _ hb).setCong (p := ⟨b, o + 5, none⟩) _ hb).setCong (p := ⟨b, o + 6, none⟩) _ hb).setCong (p := ⟨b, o + 7, none⟩) _ hb).setCong (p := ⟨b, o + 8, none⟩) _ hb).setCong (p := ⟨b, o + 9, none⟩) _ hb


/-- What a Dir's fields read. -/
def IS.body (st : IS) (d : DV) : DV × IS := (VIn 0 0).body st d
theorem vin_body (g r : Nat) (st : IS) (d : DV) : (VIn g r).body st d = st.body d := rfl
def IS.dir (st : IS) (d : DV) : DV × IS :=
  let q := st.sized 2
  let x := (IS.mk q.1 0 0 false false false).body d
  let f := x.2.finish
  (x.1, { q.2 with bad := q.2.bad || f.bad, cut := q.2.cut || f.cut, over := q.2.over || f.over || decide (1022 < q.1.size) })

theorem newReader_any (s : ByteArray) (w : World) : Calls Tryd.prog 20 #[.string s] w (fun e w' => e = .returned (.pointer (some ⟨w.heap.size, 0, none⟩)) ∧ w' = w.alloc (.cells #[.string s, .int .i64 0, .int .i64 0] 102)) := by
  go_enter Tryd.func20, Tryd.ntmps20
  go_wp2
  go_ret
  exact ⟨rfl, rfl⟩

theorem IS.sized_len {st : IS} (h : st.Ok) {k : Int} (hk : k = 1 ∨ k = 2 ∨ k = 4) : (st.sized k).1.size < 4294967296 := by
  unfold IS.sized IS.raw rdRaw
  have h1 := IS.num_ok h (k := k) (by omega)
  have h2 := IS.num_lt h hk
  have h3 := IS.num_nn h (k := k) (by omega)
  generalize st.num k = y at *
  by_cases he : y.2.e ≠ 0
  · simp only [if_pos he]; show 0 < _; omega
  · by_cases hn : y.1 ≤ y.2.s.size - y.2.a
    · simp only [if_neg he, if_pos hn]
      have := h1.a0
      simp only [ByteArray.size_extract]
      omega
    · simp only [if_neg he, if_neg hn]; show 0 < _; omega
theorem Fr.trans_ {S S2 : Nat → Prop} {w w' w'' : World} (h : Fr S w w') (h2 : Fr S2 w' w'') (hs : ∀ c, S2 c → c < w.heap.size → S c) : Fr S w w'' :=
  ⟨Nat.le_trans h.1 h2.1, fun b hb hn => (h2.2 b (Nat.lt_of_lt_of_le hb h.1) (fun x => hn (hs b x hb))).trans (h.2 b hb hn), h2.3.1.trans h.3.1, h2.3.2.trans h.3.2⟩
theorem Inp.set1 {w : World} {g r : Nat} {st : IS} (h : Inp w g r st) (x : Bool) : Inp (w.setCell ⟨g, 1, none⟩ (.bool x)) g r { st with bad := x } :=
  ⟨by have := h.b.set_ 1 (.bool x); simpa using this, h.r.fr ((Fr.refl (one_ g) w).set (p := ⟨g, 1, none⟩) (show one_ g g from rfl) _) (fun e => h.ne e.symm)⟩
theorem Inp.set2 {w : World} {g r : Nat} {st : IS} (h : Inp w g r st) (x : Bool) : Inp (w.setCell ⟨g, 2, none⟩ (.bool x)) g r { st with over := x } :=
  ⟨by have := h.b.set_ 2 (.bool x); simpa using this, h.r.fr ((Fr.refl (one_ g) w).set (p := ⟨g, 2, none⟩) (show one_ g g from rfl) _) (fun e => h.ne e.symm)⟩
theorem Inp.set3 {w : World} {g r : Nat} {st : IS} (h : Inp w g r st) (x : Bool) : Inp (w.setCell ⟨g, 3, none⟩ (.bool x)) g r { st with cut := x } :=
  ⟨by have := h.b.set_ 3 (.bool x); simpa using this, h.r.fr ((Fr.refl (one_ g) w).set (p := ⟨g, 3, none⟩) (show one_ g g from rfl) _) (fun e => h.ne e.symm)⟩

set_option maxRecDepth 20000 in
set_option maxHeartbeats 20000000 in
theorem iDir_walk (g r : Nat) (st : IS) (wk : World) (b o : Nat) (d : DV) (h : Inp wk g r st) (hok : st.Ok) (hbg : b ≠ g) (hbr : b ≠ r) (hlt : b < wk.heap.size) (hd : DAt wk b o d) (hf : NoFrz wk b) (hr : d.R) :
    Calls Tryd.prog 92 #[.pointer (some ⟨g, 0, none⟩), .pointer (some ⟨b, o, none⟩)] wk (IPost (.tuple #[]) g r (st.dir d).2 (setD wk b o (st.dir d).1)) := by
  have H97 : Hid (Calls Tryd.prog 97 #[.pointer (some ⟨g, 0, none⟩), .int .i64 2] wk _) := Lib.hid (iSized_any g r st wk 2 h hok (by omega))
  have hgl : g < wk.heap.size := h.b.lt
  have hrl : r < wk.heap.size := Blk.lt h.r
  have hgr : g ≠ r := h.ne
  have hlen := IS.sized_len hok (k := 2) (by omega)
  have hdir : st.dir d = (((IS.mk (st.sized 2).1 0 0 false false false).body d).1, { (st.sized 2).2 with bad := (st.sized 2).2.bad || ((IS.mk (st.sized 2).1 0 0 false false false).body d).2.finish.bad, cut := (st.sized 2).2.cut || ((IS.mk (st.sized 2).1 0 0 false false false).body d).2.finish.cut, over := (st.sized 2).2.over || ((IS.mk (st.sized 2).1 0 0 false false false).body d).2.finish.over || decide (1022 < (st.sized 2).1.size) }) := rfl
  generalize st.dir d = D at hdir ⊢
  generalize st.sized 2 = q at *
  have Hdir := Lib.hid hdir
  have Hd := Lib.hid hd
  have Hf := Lib.hid hf
  have Hr := Lib.hid hr
  have Hlt := Lib.hid hlt
  have Hne : Hid (b ≠ g ∧ b ≠ r ∧ g ≠ r ∧ g < wk.heap.size ∧ r < wk.heap.size) := Lib.hid ⟨hbg, hbr, hgr, hgl, hrl⟩
  have Hlen := Lib.hid hlen
  clear h hok hbg hbr hlt hd hf hr hgl hrl hgr hlen hdir
  go_enter Tryd.func92, Tryd.ntmps92
  go_wp2_with fail
  refine H97.out.mono ?_
  rintro _ w1 ⟨rfl, hi1, hf1⟩
  have hd1 : DAt w1 b o d := Hd.out.fr hf1 (fun e => e.elim Hne.out.1 Hne.out.2.1)
  have hz1 : NoFrz w1 b := Hf.out.fr hf1 Hlt.out (fun e => e.elim Hne.out.1 Hne.out.2.1)
  have hs1 : wk.heap.size ≤ w1.heap.size := hf1.1
  let w2 := (w1.alloc (.cells #[.string q.1, .int .i64 0, .int .i64 0] 102)).alloc (.cells #[.pointer (some ⟨w1.heap.size, 0, none⟩), .bool false, .bool false, .bool false] 53)
  have f12 : Fr none_ w1 w2 := ((Fr.refl none_ w1).alloc _).alloc _
  have hi2 : Inp w2 (w1.heap.size + 1) w1.heap.size (IS.mk q.1 0 0 false false false) := by
    refine ⟨?_, ?_⟩
    · have := Blk.new (w1.alloc (.cells #[.string q.1, .int .i64 0, .int .i64 0] 102)) 53 #[.pointer (some ⟨w1.heap.size, 0, none⟩), .bool false, .bool false, .bool false]
      simpa using this
    · exact (Blk.new w1 102 #[.string q.1, .int .i64 0, .int .i64 0]).alloc _
  have hS : VS (VIn (w1.heap.size + 1) w1.heap.size) (fun x => x = w1.heap.size + 1 ∨ x = w1.heap.size) w2 (IS.mk q.1 0 0 false false false) w2 w2 :=
    VS.start ⟨hi2, ⟨by show (0 : Int) ≤ 0; omega, by show (0 : Int) ≤ _; omega, by have := Hlen.out; unfold maxLen; show q.1.size ≤ _; omega⟩, fun _ => Iff.rfl⟩
  have HB := Lib.hid (body_any _ (VIn_good _ _) _ _ w2 w2 w2 b o d hS (by have := Hlt.out; omega) (by have := f12.1; have := Hlt.out; omega) (hd1.fr f12 (fun x => x)) (hz1.fr f12 (by have := Hlt.out; omega) (fun x => x)) Hr.out trivial)
  rw [vin_body] at HB
  generalize hx : IS.body (IS.mk q.1 0 0 false false false) d = x at HB Hdir
  have HI1 := Lib.hid hi1
  have HF1 := Lib.hid hf1
  have HF12 := Lib.hid f12
  have HS1 := Lib.hid hs1
  have HD1 := Lib.hid hd1
  clear hx hi1 hf1 f12 hs1 hd1 hz1 hi2 hS H97 Hf Hr
  go_wp2_with fail
  refine (newReader_any q.1 w1).mono ?_
  rintro _ _ ⟨rfl, rfl⟩
  go_wp2_with fail
  refine HB.out.mono ?_
  rintro _ w3 ⟨rfl, F3, ⟨hi3, hok3, hF3⟩, _, hfr3, _⟩
  have HFin := Lib.hid (iFinish_any _ _ _ _ hi3 hok3)
  have Hfr3 := Lib.hid hfr3
  clear hi3 hok3 hF3 hfr3 HB
  go_wp2_with fail
  refine HFin.out.mono ?_
  rintro _ w4 ⟨rfl, hi4, hf4⟩
  have hf24 : Fr (fun c => c = w1.heap.size + 1 ∨ c = w1.heap.size) (setD w2 b o x.1) w4 := Hfr3.out.trans hf4
  have hA : Fr (two_ g r) (setD wk b o x.1) w4 := by
    have hnb : ¬ two_ g r b := fun e => e.elim Hne.out.1 Hne.out.2.1
    have h1 := HF1.out.congD o x.1 hnb
    have h2 := h1.trans_ (HF12.out.congD o x.1 (fun x => x)) (fun c hc => hc.elim)
    refine h2.trans_ hf24 (fun c hc hl => ?_)
    rw [size_setD] at hl
    have := HS1.out
    omega
  have hB : Inp w4 g r q.2 := by
    have hg1 := HI1.out.b.lt
    have hr1 : r < w1.heap.size := Blk.lt HI1.out.r
    have h1 : Fr (fun c => c = b ∨ c = w1.heap.size + 1 ∨ c = w1.heap.size) w1 w4 := (((HF12.out.mono (fun _ x => x.elim)).setD_ o x.1 (Or.inl rfl)).trans (hf24.mono (fun _ x => .inr x)))
    refine HI1.out.fr h1 (fun e => ?_) (fun e => ?_)
    · rcases e with e | e | e
      · exact Hne.out.1 e.symm
      · omega
      · omega
    · rcases e with e | e | e
      · exact Hne.out.2.1 e.symm
      · omega
      · omega
  generalize x.2.finish = f at hi4 Hdir
  have b1 : w4.cell? ⟨g, 1, none⟩ = some (.bool q.2.bad) := hB.b.cell 1
  have b2 : w4.cell? ⟨g, 2, none⟩ = some (.bool q.2.over) := hB.b.cell 2
  have b3 : w4.cell? ⟨g, 3, none⟩ = some (.bool q.2.cut) := hB.b.cell 3
  have z1 := hB.b.frozen 1
  have k1 : w4.cell? ⟨w1.heap.size + 1, 1, none⟩ = some (.bool f.bad) := hi4.b.cell 1
  have k2 : w4.cell? ⟨w1.heap.size + 1, 2, none⟩ = some (.bool f.over) := hi4.b.cell 2
  have k3 : w4.cell? ⟨w1.heap.size + 1, 3, none⟩ = some (.bool f.cut) := hi4.b.cell 3
  have e1 : IntKind.i64.wrap ((q.1.size : Int) + 2) = q.1.size + 2 := IntWalk.i64_in _ (by have := Hlen.out; omega)
  have hdd : decide (1022 < q.1.size) = decide ((1024 : Int) < (q.1.size : Int) + 2) := decide_eq_decide.2 (by omega)
  generalize hdv : decide ((1024 : Int) < (q.1.size : Int) + 2) = dv at *
  generalize hsb : q.2.bad = sb at b1 Hdir
  generalize hsc : q.2.cut = sc at b3 Hdir
  generalize hso : q.2.over = so at b2 Hdir
  generalize f.bad = ib at k1 Hdir
  generalize f.cut = ic at k3 Hdir
  generalize f.over = io at k2 Hdir
  obtain ⟨W1, hW1⟩ : ∃ W, W = w4.drew.setCell ⟨g, 1, none⟩ (.bool (sb || ib)) := ⟨_, rfl⟩
  obtain ⟨W2, hW2⟩ : ∃ W, W = W1.setCell ⟨g, 3, none⟩ (.bool (sc || ic)) := ⟨_, rfl⟩
  obtain ⟨W3, hW3⟩ : ∃ W, W = W2.setCell ⟨g, 2, none⟩ (.bool (so || io || dv)) := ⟨_, rfl⟩
  have o1 : Inp W1 g r { q.2 with bad := sb || ib } := by rw [hW1]; exact Inp.set1 hB.drew _
  have o2 : Inp W2 g r { q.2 with bad := sb || ib, cut := sc || ic } := by rw [hW2]; exact Inp.set3 o1 _
  have o3 : Inp W3 g r { q.2 with bad := sb || ib, cut := sc || ic, over := so || io || dv } := by rw [hW3]; exact Inp.set2 o2 _
  have g1 : W1.cell? ⟨g, 3, none⟩ = some (.bool sc) := by rw [← hsc]; exact o1.b.cell 3
  have g2 : W2.cell? ⟨g, 2, none⟩ = some (.bool so) := by rw [← hso]; exact o2.b.cell 2
  have z2 := o1.b.frozen 3
  have z3 := o2.b.frozen 2
  have hF : Fr (two_ g r) (setD wk b o x.1) W3 := by
    rw [hW3, hW2, hW1]
    exact ((hA.drew.set (p := ⟨g, 1, none⟩) (show two_ g r g from Or.inl rfl) _).set (p := ⟨g, 3, none⟩) (show two_ g r g from Or.inl rfl) _).set (p := ⟨g, 2, none⟩) (show two_ g r g from Or.inl rfl) _
  have HO : Hid (Inp W3 g r D.2) := Lib.hid (by rw [Hdir.out, hdd]; exact o3)
  have HF : Hid (Fr (two_ g r) (setD wk b o D.1) W3) := Lib.hid (by rw [Hdir.out]; exact hF)
  clear o1 o2 o3 hF hdd Hdir hB hA hf24 hi4 hf4 hsb hsc hso HFin
  obtain ⟨Ws, hs0, hs1, hs2, hs3⟩ : ∃ Ws : Nat → World, Ws 0 = w4.drew ∧ Ws 1 = W1 ∧ Ws 2 = W2 ∧ Ws 3 = W3 := ⟨fun i => if i = 0 then w4.drew else if i = 1 then W1 else if i = 2 then W2 else W3, rfl, rfl, rfl, rfl⟩
  -- printed from here
  cases sb <;> cases sc <;> cases so
  · cases io
    · simp only [Bool.true_or, Bool.false_or, Bool.or_true, Bool.or_false] at hW1 hW2 hW3
      have HW1 := Lib.hid hW1
      have HW2 := Lib.hid hW2
      have HW3 := Lib.hid hW3
      clear hW1 hW2 hW3
      go_wp2
      refine wp_region_stores [41, 44, 47] Ws (by kernel_rfl) (by kernel_rfl) hs0 ?_
      refine wpSt_any (v := ?v_1) rfl (by kernel_rfl) (fun w K hK => ?h1_1) ?h2_1
      case h1_1 => go_simp; exact hK
      simp only [Act.put, List.setIfInBounds_toArray, List.set_cons_succ, List.set_cons_zero]
      refine wpSt_any (v := ?v_2) rfl (by kernel_rfl) (fun w K hK => ?h1_2) ?h2_2
      case h1_2 => go_simp; exact hK
      simp only [Act.put, List.setIfInBounds_toArray, List.set_cons_succ, List.set_cons_zero]
      refine wpSt_any (v := ?v_3) rfl (by kernel_rfl) (fun w K hK => ?h1_3) ?h2_3
      case h1_3 => go_simp; exact hK
      simp only [Act.put, List.setIfInBounds_toArray, List.set_cons_succ, List.set_cons_zero]
      refine wpSt_any (v := ?v_4) rfl (by kernel_rfl) (fun w K hK => ?h1_4) ?h2_4
      case h1_4 => go_simp; exact hK
      simp only [Act.put, List.setIfInBounds_toArray, List.set_cons_succ, List.set_cons_zero]
      refine wpSt_any (v := ?v_5) rfl (by kernel_rfl) (fun w K hK => ?h1_5) ?h2_5
      case h1_5 => go_simp; exact hK
      simp only [Act.put, List.setIfInBounds_toArray, List.set_cons_succ, List.set_cons_zero]
      refine wpSt_any (v := ?v_6) rfl (by kernel_rfl) (fun w K hK => ?h1_6) ?h2_6
      case h1_6 => go_simp; exact hK
      simp only [Act.put, List.setIfInBounds_toArray, List.set_cons_succ, List.set_cons_zero]
      refine wpSt_0 (v := ?v_7) (by kernel_rfl) hs0 rfl (by kernel_rfl) (fun K hK => ?h1_7) ?h2_7
      case h1_7 => go_simp; exact hK
      simp only [Act.put, List.setIfInBounds_toArray, List.set_cons_succ, List.set_cons_zero]
      refine wpSt_any (v := ?v_8) rfl (by kernel_rfl) (fun w K hK => ?h1_8) ?h2_8
      case h1_8 => go_simp; exact hK
      simp only [Act.put, List.setIfInBounds_toArray, List.set_cons_succ, List.set_cons_zero]
      refine wpSt_any (v := ?v_9) rfl (by kernel_rfl) (fun w K hK => ?h1_9) ?h2_9
      case h1_9 => go_simp; exact hK
      simp only [Act.put, List.setIfInBounds_toArray, List.set_cons_succ, List.set_cons_zero]
      refine wpSt_any (v := ?v_10) rfl (by kernel_rfl) (fun w K hK => ?h1_10) ?h2_10
      case h1_10 => go_simp; exact hK
      simp only [Act.put, List.setIfInBounds_toArray, List.set_cons_succ, List.set_cons_zero]
      refine wpSt_any (v := ?v_11) rfl (by kernel_rfl) (fun w K hK => ?h1_11) ?h2_11
      case h1_11 => go_simp; exact hK
      simp only [Act.put, List.setIfInBounds_toArray, List.set_cons_succ, List.set_cons_zero]
      refine wpSt_0 (v := ?v_12) (by kernel_rfl) hs0 rfl (by kernel_rfl) (fun K hK => ?h1_12) ?h2_12
      case h1_12 => go_simp; exact hK
      simp only [Act.put, List.setIfInBounds_toArray, List.set_cons_succ, List.set_cons_zero]
      refine wpSt_any (v := ?v_13) rfl (by kernel_rfl) (fun w K hK => ?h1_13) ?h2_13
      case h1_13 => go_simp; exact hK
      simp only [Act.put, List.setIfInBounds_toArray, List.set_cons_succ, List.set_cons_zero]
      refine wpSt_any (v := ?v_14) rfl (by kernel_rfl) (fun w K hK => ?h1_14) ?h2_14
      case h1_14 => go_simp; exact hK
      simp only [Act.put, List.setIfInBounds_toArray, List.set_cons_succ, List.set_cons_zero]
      refine wpSt_any (v := ?v_15) rfl (by kernel_rfl) (fun w K hK => ?h1_15) ?h2_15
      case h1_15 => go_simp; exact hK
      simp only [Act.put, List.setIfInBounds_toArray, List.set_cons_succ, List.set_cons_zero]
      refine wpSt_any (v := ?v_16) rfl (by kernel_rfl) (fun w K hK => ?h1_16) ?h2_16
      case h1_16 => go_simp; exact hK
      simp only [Act.put, List.setIfInBounds_toArray, List.set_cons_succ, List.set_cons_zero]
      refine wpSt_0 (v := ?v_17) (by kernel_rfl) hs0 rfl (by kernel_rfl) (fun K hK => ?h1_17) ?h2_17
      case h1_17 => go_simp; exact hK
      simp only [Act.put, List.setIfInBounds_toArray, List.set_cons_succ, List.set_cons_zero]
      refine wpSt_any (v := ?v_18) rfl (by kernel_rfl) (fun w K hK => ?h1_18) ?h2_18
      case h1_18 => go_simp; exact hK
      simp only [Act.put, List.setIfInBounds_toArray, List.set_cons_succ, List.set_cons_zero]
      refine wpSt_any (v := ?v_19) rfl (by kernel_rfl) (fun w K hK => ?h1_19) ?h2_19
      case h1_19 => go_simp; exact hK
      simp only [Act.put, List.setIfInBounds_toArray, List.set_cons_succ, List.set_cons_zero]
      refine wpSt_any (v := ?v_20) rfl (by kernel_rfl) (fun w K hK => ?h1_20) ?h2_20
      case h1_20 => go_simp; exact hK
      simp only [Act.put, List.setIfInBounds_toArray, List.set_cons_succ, List.set_cons_zero]
      refine wpSt_any (v := ?v_21) rfl (by kernel_rfl) (fun w K hK => ?h1_21) ?h2_21
      case h1_21 => go_simp; exact hK
      simp only [Act.put, List.setIfInBounds_toArray, List.set_cons_succ, List.set_cons_zero]
      refine wpSt_0 (v := ?v_22) (by kernel_rfl) hs0 rfl (by kernel_rfl) (fun K hK => ?h1_22) ?h2_22
      case h1_22 => go_simp; exact hK
      simp only [Act.put, List.setIfInBounds_toArray, List.set_cons_succ, List.set_cons_zero]
      refine wpSt_any (v := ?v_23) rfl (by kernel_rfl) (fun w K hK => ?h1_23) ?h2_23
      case h1_23 => go_simp; exact hK
      simp only [Act.put, List.setIfInBounds_toArray, List.set_cons_succ, List.set_cons_zero]
      refine wpSt_any (v := ?v_24) rfl (by kernel_rfl) (fun w K hK => ?h1_24) ?h2_24
      case h1_24 => go_simp; exact hK
      simp only [Act.put, List.setIfInBounds_toArray, List.set_cons_succ, List.set_cons_zero]
      refine wpSt_any (v := ?v_25) rfl (by kernel_rfl) (fun w K hK => ?h1_25) ?h2_25
      case h1_25 => go_simp; exact hK
      simp only [Act.put, List.setIfInBounds_toArray, List.set_cons_succ, List.set_cons_zero]
      refine wpSt_any (v := ?v_26) rfl (by kernel_rfl) (fun w K hK => ?h1_26) ?h2_26
      case h1_26 => go_simp; exact hK
      simp only [Act.put, List.setIfInBounds_toArray, List.set_cons_succ, List.set_cons_zero]
      refine wpSt_0 (v := ?v_27) (by kernel_rfl) hs0 rfl (by kernel_rfl) (fun K hK => ?h1_27) ?h2_27
      case h1_27 => go_simp; exact hK
      simp only [Act.put, List.setIfInBounds_toArray, List.set_cons_succ, List.set_cons_zero]
      refine wpSt_any (v := ?v_28) rfl (by kernel_rfl) (fun w K hK => ?h1_28) ?h2_28
      case h1_28 => go_simp; exact hK
      simp only [Act.put, List.setIfInBounds_toArray, List.set_cons_succ, List.set_cons_zero]
      refine wpSt_any (v := ?v_29) rfl (by kernel_rfl) (fun w K hK => ?h1_29) ?h2_29
      case h1_29 => go_simp; exact hK
      simp only [Act.put, List.setIfInBounds_toArray, List.set_cons_succ, List.set_cons_zero]
      refine wpSt_any (v := ?v_30) rfl (by kernel_rfl) (fun w K hK => ?h1_30) ?h2_30
      case h1_30 => go_simp; exact hK
      simp only [Act.put, List.setIfInBounds_toArray, List.set_cons_succ, List.set_cons_zero]
      refine wpSt_any (v := ?v_31) rfl (by kernel_rfl) (fun w K hK => ?h1_31) ?h2_31
      case h1_31 => go_simp; exact hK
      simp only [Act.put, List.setIfInBounds_toArray, List.set_cons_succ, List.set_cons_zero]
      refine wpSt_0 (v := ?v_32) (by kernel_rfl) hs0 rfl (by kernel_rfl) (fun K hK => ?h1_32) ?h2_32
      case h1_32 => go_simp; exact hK
      simp only [Act.put, List.setIfInBounds_toArray, List.set_cons_succ, List.set_cons_zero]
      refine wpSt_any (v := ?v_33) rfl (by kernel_rfl) (fun w K hK => ?h1_33) ?h2_33
      case h1_33 => go_simp; exact hK
      simp only [Act.put, List.setIfInBounds_toArray, List.set_cons_succ, List.set_cons_zero]
      refine wpSt_any (v := ?v_34) rfl (by kernel_rfl) (fun w K hK => ?h1_34) ?h2_34
      case h1_34 => go_simp; exact hK
      simp only [Act.put, List.setIfInBounds_toArray, List.set_cons_succ, List.set_cons_zero]
      refine wpSt_any (v := ?v_35) rfl (by kernel_rfl) (fun w K hK => ?h1_35) ?h2_35
      case h1_35 => go_simp; exact hK
      simp only [Act.put, List.setIfInBounds_toArray, List.set_cons_succ, List.set_cons_zero]
      refine wpSt_any (v := ?v_36) rfl (by kernel_rfl) (fun w K hK => ?h1_36) ?h2_36
      case h1_36 => go_simp; exact hK
      simp only [Act.put, List.setIfInBounds_toArray, List.set_cons_succ, List.set_cons_zero]
      refine wpSt_any (v := ?v_37) rfl (by kernel_rfl) (fun w K hK => ?h1_37) ?h2_37
      case h1_37 => go_simp; exact hK
      simp only [Act.put, List.setIfInBounds_toArray, List.set_cons_succ, List.set_cons_zero]
      refine wpSt_any (v := ?v_38) rfl (by kernel_rfl) (fun w K hK => ?h1_38) ?h2_38
      case h1_38 => go_simp; exact hK
      simp only [Act.put, List.setIfInBounds_toArray, List.set_cons_succ, List.set_cons_zero]
      refine wpSt_any (v := ?v_39) rfl (by kernel_rfl) (fun w K hK => ?h1_39) ?h2_39
      case h1_39 => go_simp; exact hK
      simp only [Act.put, List.setIfInBounds_toArray, List.set_cons_succ, List.set_cons_zero]
      refine wpSt_any (v := ?v_40) rfl (by kernel_rfl) (fun w K hK => ?h1_40) ?h2_40
      case h1_40 => go_simp; exact hK
      simp only [Act.put, List.setIfInBounds_toArray, List.set_cons_succ, List.set_cons_zero]
      refine wpSt_any (v := ?v_41) rfl (by kernel_rfl) (fun w K hK => ?h1_41) ?h2_41
      case h1_41 => go_simp; exact hK
      simp only [Act.put, List.setIfInBounds_toArray, List.set_cons_succ, List.set_cons_zero]
      refine wpSt_store rfl hs0 hs1 rfl (by kernel_rfl) ?h1_42 ?h2_42
      case h1_42 => rw [HW1.out]; go_simp
      refine wpSt_any (v := ?v_43) rfl (by kernel_rfl) (fun w K hK => ?h1_43) ?h2_43
      case h1_43 => go_simp; exact hK
      simp only [Act.put, List.setIfInBounds_toArray, List.set_cons_succ, List.set_cons_zero]
      refine wpSt_any (v := ?v_44) rfl (by kernel_rfl) (fun w K hK => ?h1_44) ?h2_44
      case h1_44 => go_simp; exact hK
      simp only [Act.put, List.setIfInBounds_toArray, List.set_cons_succ, List.set_cons_zero]
      refine wpSt_store rfl hs1 hs2 rfl (by kernel_rfl) ?h1_45 ?h2_45
      case h1_45 => rw [HW2.out]; go_simp
      refine wpSt_any (v := ?v_46) rfl (by kernel_rfl) (fun w K hK => ?h1_46) ?h2_46
      case h1_46 => go_simp; exact hK
      simp only [Act.put, List.setIfInBounds_toArray, List.set_cons_succ, List.set_cons_zero]
      refine wpSt_any (v := ?v_47) rfl (by kernel_rfl) (fun w K hK => ?h1_47) ?h2_47
      case h1_47 => go_simp; exact hK
      simp only [Act.put, List.setIfInBounds_toArray, List.set_cons_succ, List.set_cons_zero]
      refine wpSt_store rfl hs2 hs3 rfl (by kernel_rfl) ?h1_48 ?h2_48
      case h1_48 => rw [HW3.out]; go_simp
      refine wpSt_nil rfl ?_
      rw [show Ws [41, 44, 47].length = W3 from hs3]
      go_wp2
      go_end0
      exact ⟨rfl, HO.out, HF.out⟩
    · simp only [Bool.true_or, Bool.false_or, Bool.or_true, Bool.or_false] at hW1 hW2 hW3
      have HW1 := Lib.hid hW1
      have HW2 := Lib.hid hW2
      have HW3 := Lib.hid hW3
      clear hW1 hW2 hW3
      go_wp2
      refine wp_region_stores [41, 44, 47] Ws (by kernel_rfl) (by kernel_rfl) hs0 ?_
      refine wpSt_any (v := ?v_50) rfl (by kernel_rfl) (fun w K hK => ?h1_50) ?h2_50
      case h1_50 => go_simp; exact hK
      simp only [Act.put, List.setIfInBounds_toArray, List.set_cons_succ, List.set_cons_zero]
      refine wpSt_any (v := ?v_51) rfl (by kernel_rfl) (fun w K hK => ?h1_51) ?h2_51
      case h1_51 => go_simp; exact hK
      simp only [Act.put, List.setIfInBounds_toArray, List.set_cons_succ, List.set_cons_zero]
      refine wpSt_any (v := ?v_52) rfl (by kernel_rfl) (fun w K hK => ?h1_52) ?h2_52
      case h1_52 => go_simp; exact hK
      simp only [Act.put, List.setIfInBounds_toArray, List.set_cons_succ, List.set_cons_zero]
      refine wpSt_any (v := ?v_53) rfl (by kernel_rfl) (fun w K hK => ?h1_53) ?h2_53
      case h1_53 => go_simp; exact hK
      simp only [Act.put, List.setIfInBounds_toArray, List.set_cons_succ, List.set_cons_zero]
      refine wpSt_any (v := ?v_54) rfl (by kernel_rfl) (fun w K hK => ?h1_54) ?h2_54
      case h1_54 => go_simp; exact hK
      simp only [Act.put, List.setIfInBounds_toArray, List.set_cons_succ, List.set_cons_zero]
      refine wpSt_any (v := ?v_55) rfl (by kernel_rfl) (fun w K hK => ?h1_55) ?h2_55
      case h1_55 => go_simp; exact hK
      simp only [Act.put, List.setIfInBounds_toArray, List.set_cons_succ, List.set_cons_zero]
      refine wpSt_0 (v := ?v_56) (by kernel_rfl) hs0 rfl (by kernel_rfl) (fun K hK => ?h1_56) ?h2_56
      case h1_56 => go_simp; exact hK
      simp only [Act.put, List.setIfInBounds_toArray, List.set_cons_succ, List.set_cons_zero]
      refine wpSt_any (v := ?v_57) rfl (by kernel_rfl) (fun w K hK => ?h1_57) ?h2_57
      case h1_57 => go_simp; exact hK
      simp only [Act.put, List.setIfInBounds_toArray, List.set_cons_succ, List.set_cons_zero]
      refine wpSt_any (v := ?v_58) rfl (by kernel_rfl) (fun w K hK => ?h1_58) ?h2_58
      case h1_58 => go_simp; exact hK
      simp only [Act.put, List.setIfInBounds_toArray, List.set_cons_succ, List.set_cons_zero]
      refine wpSt_any (v := ?v_59) rfl (by kernel_rfl) (fun w K hK => ?h1_59) ?h2_59
      case h1_59 => go_simp; exact hK
      simp only [Act.put, List.setIfInBounds_toArray, List.set_cons_succ, List.set_cons_zero]
      refine wpSt_any (v := ?v_60) rfl (by kernel_rfl) (fun w K hK => ?h1_60) ?h2_60
      case h1_60 => go_simp; exact hK
      simp only [Act.put, List.setIfInBounds_toArray, List.set_cons_succ, List.set_cons_zero]
      refine wpSt_0 (v := ?v_61) (by kernel_rfl) hs0 rfl (by kernel_rfl) (fun K hK => ?h1_61) ?h2_61
      case h1_61 => go_simp; exact hK
      simp only [Act.put, List.setIfInBounds_toArray, List.set_cons_succ, List.set_cons_zero]
      refine wpSt_any (v := ?v_62) rfl (by kernel_rfl) (fun w K hK => ?h1_62) ?h2_62
      case h1_62 => go_simp; exact hK
      simp only [Act.put, List.setIfInBounds_toArray, List.set_cons_succ, List.set_cons_zero]
      refine wpSt_any (v := ?v_63) rfl (by kernel_rfl) (fun w K hK => ?h1_63) ?h2_63
      case h1_63 => go_simp; exact hK
      simp only [Act.put, List.setIfInBounds_toArray, List.set_cons_succ, List.set_cons_zero]
      refine wpSt_any (v := ?v_64) rfl (by kernel_rfl) (fun w K hK => ?h1_64) ?h2_64
      case h1_64 => go_simp; exact hK
      simp only [Act.put, List.setIfInBounds_toArray, List.set_cons_succ, List.set_cons_zero]
      refine wpSt_any (v := ?v_65) rfl (by kernel_rfl) (fun w K hK => ?h1_65) ?h2_65
      case h1_65 => go_simp; exact hK
      simp only [Act.put, List.setIfInBounds_toArray, List.set_cons_succ, List.set_cons_zero]
      refine wpSt_0 (v := ?v_66) (by kernel_rfl) hs0 rfl (by kernel_rfl) (fun K hK => ?h1_66) ?h2_66
      case h1_66 => go_simp; exact hK
      simp only [Act.put, List.setIfInBounds_toArray, List.set_cons_succ, List.set_cons_zero]
      refine wpSt_any (v := ?v_67) rfl (by kernel_rfl) (fun w K hK => ?h1_67) ?h2_67
      case h1_67 => go_simp; exact hK
      simp only [Act.put, List.setIfInBounds_toArray, List.set_cons_succ, List.set_cons_zero]
      refine wpSt_any (v := ?v_68) rfl (by kernel_rfl) (fun w K hK => ?h1_68) ?h2_68
      case h1_68 => go_simp; exact hK
      simp only [Act.put, List.setIfInBounds_toArray, List.set_cons_succ, List.set_cons_zero]
      refine wpSt_any (v := ?v_69) rfl (by kernel_rfl) (fun w K hK => ?h1_69) ?h2_69
      case h1_69 => go_simp; exact hK
      simp only [Act.put, List.setIfInBounds_toArray, List.set_cons_succ, List.set_cons_zero]
      refine wpSt_any (v := ?v_70) rfl (by kernel_rfl) (fun w K hK => ?h1_70) ?h2_70
      case h1_70 => go_simp; exact hK
      simp only [Act.put, List.setIfInBounds_toArray, List.set_cons_succ, List.set_cons_zero]
      refine wpSt_0 (v := ?v_71) (by kernel_rfl) hs0 rfl (by kernel_rfl) (fun K hK => ?h1_71) ?h2_71
      case h1_71 => go_simp; exact hK
      simp only [Act.put, List.setIfInBounds_toArray, List.set_cons_succ, List.set_cons_zero]
      refine wpSt_any (v := ?v_72) rfl (by kernel_rfl) (fun w K hK => ?h1_72) ?h2_72
      case h1_72 => go_simp; exact hK
      simp only [Act.put, List.setIfInBounds_toArray, List.set_cons_succ, List.set_cons_zero]
      refine wpSt_any (v := ?v_73) rfl (by kernel_rfl) (fun w K hK => ?h1_73) ?h2_73
      case h1_73 => go_simp; exact hK
      simp only [Act.put, List.setIfInBounds_toArray, List.set_cons_succ, List.set_cons_zero]
      refine wpSt_any (v := ?v_74) rfl (by kernel_rfl) (fun w K hK => ?h1_74) ?h2_74
      case h1_74 => go_simp; exact hK
      simp only [Act.put, List.setIfInBounds_toArray, List.set_cons_succ, List.set_cons_zero]
      refine wpSt_any (v := ?v_75) rfl (by kernel_rfl) (fun w K hK => ?h1_75) ?h2_75
      case h1_75 => go_simp; exact hK
      simp only [Act.put, List.setIfInBounds_toArray, List.set_cons_succ, List.set_cons_zero]
      refine wpSt_0 (v := ?v_76) (by kernel_rfl) hs0 rfl (by kernel_rfl) (fun K hK => ?h1_76) ?h2_76
      case h1_76 => go_simp; exact hK
      simp only [Act.put, List.setIfInBounds_toArray, List.set_cons_succ, List.set_cons_zero]
      refine wpSt_any (v := ?v_77) rfl (by kernel_rfl) (fun w K hK => ?h1_77) ?h2_77
      case h1_77 => go_simp; exact hK
      simp only [Act.put, List.setIfInBounds_toArray, List.set_cons_succ, List.set_cons_zero]
      refine wpSt_any (v := ?v_78) rfl (by kernel_rfl) (fun w K hK => ?h1_78) ?h2_78
      case h1_78 => go_simp; exact hK
      simp only [Act.put, List.setIfInBounds_toArray, List.set_cons_succ, List.set_cons_zero]
      refine wpSt_any (v := ?v_79) rfl (by kernel_rfl) (fun w K hK => ?h1_79) ?h2_79
      case h1_79 => go_simp; exact hK
      simp only [Act.put, List.setIfInBounds_toArray, List.set_cons_succ, List.set_cons_zero]
      refine wpSt_any (v := ?v_80) rfl (by kernel_rfl) (fun w K hK => ?h1_80) ?h2_80
      case h1_80 => go_simp; exact hK
      simp only [Act.put, List.setIfInBounds_toArray, List.set_cons_succ, List.set_cons_zero]
      refine wpSt_0 (v := ?v_81) (by kernel_rfl) hs0 rfl (by kernel_rfl) (fun K hK => ?h1_81) ?h2_81
      case h1_81 => go_simp; exact hK
      simp only [Act.put, List.setIfInBounds_toArray, List.set_cons_succ, List.set_cons_zero]
      refine wpSt_any (v := ?v_82) rfl (by kernel_rfl) (fun w K hK => ?h1_82) ?h2_82
      case h1_82 => go_simp; exact hK
      simp only [Act.put, List.setIfInBounds_toArray, List.set_cons_succ, List.set_cons_zero]
      refine wpSt_any (v := ?v_83) rfl (by kernel_rfl) (fun w K hK => ?h1_83) ?h2_83
      case h1_83 => go_simp; exact hK
      simp only [Act.put, List.setIfInBounds_toArray, List.set_cons_succ, List.set_cons_zero]
      refine wpSt_off rfl (by kernel_rfl) ?_
      simp only [Act.put, List.setIfInBounds_toArray, List.set_cons_succ, List.set_cons_zero]
      refine wpSt_off rfl (by kernel_rfl) ?_
      simp only [Act.put, List.setIfInBounds_toArray, List.set_cons_succ, List.set_cons_zero]
      refine wpSt_off rfl (by kernel_rfl) ?_
      simp only [Act.put, List.setIfInBounds_toArray, List.set_cons_succ, List.set_cons_zero]
      refine wpSt_off rfl (by kernel_rfl) ?_
      simp only [Act.put, List.setIfInBounds_toArray, List.set_cons_succ, List.set_cons_zero]
      refine wpSt_any (v := ?v_88) rfl (by kernel_rfl) (fun w K hK => ?h1_88) ?h2_88
      case h1_88 => go_simp; exact hK
      simp only [Act.put, List.setIfInBounds_toArray, List.set_cons_succ, List.set_cons_zero]
      refine wpSt_any (v := ?v_89) rfl (by kernel_rfl) (fun w K hK => ?h1_89) ?h2_89
      case h1_89 => go_simp; exact hK
      simp only [Act.put, List.setIfInBounds_toArray, List.set_cons_succ, List.set_cons_zero]
      refine wpSt_any (v := ?v_90) rfl (by kernel_rfl) (fun w K hK => ?h1_90) ?h2_90
      case h1_90 => go_simp; exact hK
      simp only [Act.put, List.setIfInBounds_toArray, List.set_cons_succ, List.set_cons_zero]
      refine wpSt_store rfl hs0 hs1 rfl (by kernel_rfl) ?h1_91 ?h2_91
      case h1_91 => rw [HW1.out]; go_simp
      refine wpSt_any (v := ?v_92) rfl (by kernel_rfl) (fun w K hK => ?h1_92) ?h2_92
      case h1_92 => go_simp; exact hK
      simp only [Act.put, List.setIfInBounds_toArray, List.set_cons_succ, List.set_cons_zero]
      refine wpSt_any (v := ?v_93) rfl (by kernel_rfl) (fun w K hK => ?h1_93) ?h2_93
      case h1_93 => go_simp; exact hK
      simp only [Act.put, List.setIfInBounds_toArray, List.set_cons_succ, List.set_cons_zero]
      refine wpSt_store rfl hs1 hs2 rfl (by kernel_rfl) ?h1_94 ?h2_94
      case h1_94 => rw [HW2.out]; go_simp
      refine wpSt_any (v := ?v_95) rfl (by kernel_rfl) (fun w K hK => ?h1_95) ?h2_95
      case h1_95 => go_simp; exact hK
      simp only [Act.put, List.setIfInBounds_toArray, List.set_cons_succ, List.set_cons_zero]
      refine wpSt_any (v := ?v_96) rfl (by kernel_rfl) (fun w K hK => ?h1_96) ?h2_96
      case h1_96 => go_simp; exact hK
      simp only [Act.put, List.setIfInBounds_toArray, List.set_cons_succ, List.set_cons_zero]
      refine wpSt_store rfl hs2 hs3 rfl (by kernel_rfl) ?h1_97 ?h2_97
      case h1_97 => rw [HW3.out]; go_simp
      refine wpSt_nil rfl ?_
      rw [show Ws [41, 44, 47].length = W3 from hs3]
      go_wp2
      go_end0
      exact ⟨rfl, HO.out, HF.out⟩
  · simp only [Bool.true_or, Bool.false_or, Bool.or_true, Bool.or_false] at hW1 hW2 hW3
    have HW1 := Lib.hid hW1
    have HW2 := Lib.hid hW2
    have HW3 := Lib.hid hW3
    clear hW1 hW2 hW3
    go_wp2
    refine wp_region_stores [41, 44, 47] Ws (by kernel_rfl) (by kernel_rfl) hs0 ?_
    refine wpSt_any (v := ?v_99) rfl (by kernel_rfl) (fun w K hK => ?h1_99) ?h2_99
    case h1_99 => go_simp; exact hK
    simp only [Act.put, List.setIfInBounds_toArray, List.set_cons_succ, List.set_cons_zero]
    refine wpSt_any (v := ?v_100) rfl (by kernel_rfl) (fun w K hK => ?h1_100) ?h2_100
    case h1_100 => go_simp; exact hK
    simp only [Act.put, List.setIfInBounds_toArray, List.set_cons_succ, List.set_cons_zero]
    refine wpSt_any (v := ?v_101) rfl (by kernel_rfl) (fun w K hK => ?h1_101) ?h2_101
    case h1_101 => go_simp; exact hK
    simp only [Act.put, List.setIfInBounds_toArray, List.set_cons_succ, List.set_cons_zero]
    refine wpSt_any (v := ?v_102) rfl (by kernel_rfl) (fun w K hK => ?h1_102) ?h2_102
    case h1_102 => go_simp; exact hK
    simp only [Act.put, List.setIfInBounds_toArray, List.set_cons_succ, List.set_cons_zero]
    refine wpSt_any (v := ?v_103) rfl (by kernel_rfl) (fun w K hK => ?h1_103) ?h2_103
    case h1_103 => go_simp; exact hK
    simp only [Act.put, List.setIfInBounds_toArray, List.set_cons_succ, List.set_cons_zero]
    refine wpSt_any (v := ?v_104) rfl (by kernel_rfl) (fun w K hK => ?h1_104) ?h2_104
    case h1_104 => go_simp; exact hK
    simp only [Act.put, List.setIfInBounds_toArray, List.set_cons_succ, List.set_cons_zero]
    refine wpSt_0 (v := ?v_105) (by kernel_rfl) hs0 rfl (by kernel_rfl) (fun K hK => ?h1_105) ?h2_105
    case h1_105 => go_simp; exact hK
    simp only [Act.put, List.setIfInBounds_toArray, List.set_cons_succ, List.set_cons_zero]
    refine wpSt_any (v := ?v_106) rfl (by kernel_rfl) (fun w K hK => ?h1_106) ?h2_106
    case h1_106 => go_simp; exact hK
    simp only [Act.put, List.setIfInBounds_toArray, List.set_cons_succ, List.set_cons_zero]
    refine wpSt_any (v := ?v_107) rfl (by kernel_rfl) (fun w K hK => ?h1_107) ?h2_107
    case h1_107 => go_simp; exact hK
    simp only [Act.put, List.setIfInBounds_toArray, List.set_cons_succ, List.set_cons_zero]
    refine wpSt_any (v := ?v_108) rfl (by kernel_rfl) (fun w K hK => ?h1_108) ?h2_108
    case h1_108 => go_simp; exact hK
    simp only [Act.put, List.setIfInBounds_toArray, List.set_cons_succ, List.set_cons_zero]
    refine wpSt_any (v := ?v_109) rfl (by kernel_rfl) (fun w K hK => ?h1_109) ?h2_109
    case h1_109 => go_simp; exact hK
    simp only [Act.put, List.setIfInBounds_toArray, List.set_cons_succ, List.set_cons_zero]
    refine wpSt_0 (v := ?v_110) (by kernel_rfl) hs0 rfl (by kernel_rfl) (fun K hK => ?h1_110) ?h2_110
    case h1_110 => go_simp; exact hK
    simp only [Act.put, List.setIfInBounds_toArray, List.set_cons_succ, List.set_cons_zero]
    refine wpSt_any (v := ?v_111) rfl (by kernel_rfl) (fun w K hK => ?h1_111) ?h2_111
    case h1_111 => go_simp; exact hK
    simp only [Act.put, List.setIfInBounds_toArray, List.set_cons_succ, List.set_cons_zero]
    refine wpSt_any (v := ?v_112) rfl (by kernel_rfl) (fun w K hK => ?h1_112) ?h2_112
    case h1_112 => go_simp; exact hK
    simp only [Act.put, List.setIfInBounds_toArray, List.set_cons_succ, List.set_cons_zero]
    refine wpSt_any (v := ?v_113) rfl (by kernel_rfl) (fun w K hK => ?h1_113) ?h2_113
    case h1_113 => go_simp; exact hK
    simp only [Act.put, List.setIfInBounds_toArray, List.set_cons_succ, List.set_cons_zero]
    refine wpSt_any (v := ?v_114) rfl (by kernel_rfl) (fun w K hK => ?h1_114) ?h2_114
    case h1_114 => go_simp; exact hK
    simp only [Act.put, List.setIfInBounds_toArray, List.set_cons_succ, List.set_cons_zero]
    refine wpSt_0 (v := ?v_115) (by kernel_rfl) hs0 rfl (by kernel_rfl) (fun K hK => ?h1_115) ?h2_115
    case h1_115 => go_simp; exact hK
    simp only [Act.put, List.setIfInBounds_toArray, List.set_cons_succ, List.set_cons_zero]
    refine wpSt_any (v := ?v_116) rfl (by kernel_rfl) (fun w K hK => ?h1_116) ?h2_116
    case h1_116 => go_simp; exact hK
    simp only [Act.put, List.setIfInBounds_toArray, List.set_cons_succ, List.set_cons_zero]
    refine wpSt_any (v := ?v_117) rfl (by kernel_rfl) (fun w K hK => ?h1_117) ?h2_117
    case h1_117 => go_simp; exact hK
    simp only [Act.put, List.setIfInBounds_toArray, List.set_cons_succ, List.set_cons_zero]
    refine wpSt_any (v := ?v_118) rfl (by kernel_rfl) (fun w K hK => ?h1_118) ?h2_118
    case h1_118 => go_simp; exact hK
    simp only [Act.put, List.setIfInBounds_toArray, List.set_cons_succ, List.set_cons_zero]
    refine wpSt_any (v := ?v_119) rfl (by kernel_rfl) (fun w K hK => ?h1_119) ?h2_119
    case h1_119 => go_simp; exact hK
    simp only [Act.put, List.setIfInBounds_toArray, List.set_cons_succ, List.set_cons_zero]
    refine wpSt_0 (v := ?v_120) (by kernel_rfl) hs0 rfl (by kernel_rfl) (fun K hK => ?h1_120) ?h2_120
    case h1_120 => go_simp; exact hK
    simp only [Act.put, List.setIfInBounds_toArray, List.set_cons_succ, List.set_cons_zero]
    refine wpSt_any (v := ?v_121) rfl (by kernel_rfl) (fun w K hK => ?h1_121) ?h2_121
    case h1_121 => go_simp; exact hK
    simp only [Act.put, List.setIfInBounds_toArray, List.set_cons_succ, List.set_cons_zero]
    refine wpSt_any (v := ?v_122) rfl (by kernel_rfl) (fun w K hK => ?h1_122) ?h2_122
    case h1_122 => go_simp; exact hK
    simp only [Act.put, List.setIfInBounds_toArray, List.set_cons_succ, List.set_cons_zero]
    refine wpSt_any (v := ?v_123) rfl (by kernel_rfl) (fun w K hK => ?h1_123) ?h2_123
    case h1_123 => go_simp; exact hK
    simp only [Act.put, List.setIfInBounds_toArray, List.set_cons_succ, List.set_cons_zero]
    refine wpSt_any (v := ?v_124) rfl (by kernel_rfl) (fun w K hK => ?h1_124) ?h2_124
    case h1_124 => go_simp; exact hK
    simp only [Act.put, List.setIfInBounds_toArray, List.set_cons_succ, List.set_cons_zero]
    refine wpSt_0 (v := ?v_125) (by kernel_rfl) hs0 rfl (by kernel_rfl) (fun K hK => ?h1_125) ?h2_125
    case h1_125 => go_simp; exact hK
    simp only [Act.put, List.setIfInBounds_toArray, List.set_cons_succ, List.set_cons_zero]
    refine wpSt_any (v := ?v_126) rfl (by kernel_rfl) (fun w K hK => ?h1_126) ?h2_126
    case h1_126 => go_simp; exact hK
    simp only [Act.put, List.setIfInBounds_toArray, List.set_cons_succ, List.set_cons_zero]
    refine wpSt_off rfl (by kernel_rfl) ?_
    simp only [Act.put, List.setIfInBounds_toArray, List.set_cons_succ, List.set_cons_zero]
    refine wpSt_off rfl (by kernel_rfl) ?_
    simp only [Act.put, List.setIfInBounds_toArray, List.set_cons_succ, List.set_cons_zero]
    refine wpSt_off rfl (by kernel_rfl) ?_
    simp only [Act.put, List.setIfInBounds_toArray, List.set_cons_succ, List.set_cons_zero]
    refine wpSt_off rfl (by kernel_rfl) ?_
    simp only [Act.put, List.setIfInBounds_toArray, List.set_cons_succ, List.set_cons_zero]
    refine wpSt_any (v := ?v_131) rfl (by kernel_rfl) (fun w K hK => ?h1_131) ?h2_131
    case h1_131 => go_simp; exact hK
    simp only [Act.put, List.setIfInBounds_toArray, List.set_cons_succ, List.set_cons_zero]
    refine wpSt_any (v := ?v_132) rfl (by kernel_rfl) (fun w K hK => ?h1_132) ?h2_132
    case h1_132 => go_simp; exact hK
    simp only [Act.put, List.setIfInBounds_toArray, List.set_cons_succ, List.set_cons_zero]
    refine wpSt_off rfl (by kernel_rfl) ?_
    simp only [Act.put, List.setIfInBounds_toArray, List.set_cons_succ, List.set_cons_zero]
    refine wpSt_off rfl (by kernel_rfl) ?_
    simp only [Act.put, List.setIfInBounds_toArray, List.set_cons_succ, List.set_cons_zero]
    refine wpSt_off rfl (by kernel_rfl) ?_
    simp only [Act.put, List.setIfInBounds_toArray, List.set_cons_succ, List.set_cons_zero]
    refine wpSt_off rfl (by kernel_rfl) ?_
    simp only [Act.put, List.setIfInBounds_toArray, List.set_cons_succ, List.set_cons_zero]
    refine wpSt_any (v := ?v_137) rfl (by kernel_rfl) (fun w K hK => ?h1_137) ?h2_137
    case h1_137 => go_simp; exact hK
    simp only [Act.put, List.setIfInBounds_toArray, List.set_cons_succ, List.set_cons_zero]
    refine wpSt_any (v := ?v_138) rfl (by kernel_rfl) (fun w K hK => ?h1_138) ?h2_138
    case h1_138 => go_simp; exact hK
    simp only [Act.put, List.setIfInBounds_toArray, List.set_cons_succ, List.set_cons_zero]
    refine wpSt_any (v := ?v_139) rfl (by kernel_rfl) (fun w K hK => ?h1_139) ?h2_139
    case h1_139 => go_simp; exact hK
    simp only [Act.put, List.setIfInBounds_toArray, List.set_cons_succ, List.set_cons_zero]
    refine wpSt_store rfl hs0 hs1 rfl (by kernel_rfl) ?h1_140 ?h2_140
    case h1_140 => rw [HW1.out]; go_simp
    refine wpSt_any (v := ?v_141) rfl (by kernel_rfl) (fun w K hK => ?h1_141) ?h2_141
    case h1_141 => go_simp; exact hK
    simp only [Act.put, List.setIfInBounds_toArray, List.set_cons_succ, List.set_cons_zero]
    refine wpSt_any (v := ?v_142) rfl (by kernel_rfl) (fun w K hK => ?h1_142) ?h2_142
    case h1_142 => go_simp; exact hK
    simp only [Act.put, List.setIfInBounds_toArray, List.set_cons_succ, List.set_cons_zero]
    refine wpSt_store rfl hs1 hs2 rfl (by kernel_rfl) ?h1_143 ?h2_143
    case h1_143 => rw [HW2.out]; go_simp
    refine wpSt_any (v := ?v_144) rfl (by kernel_rfl) (fun w K hK => ?h1_144) ?h2_144
    case h1_144 => go_simp; exact hK
    simp only [Act.put, List.setIfInBounds_toArray, List.set_cons_succ, List.set_cons_zero]
    refine wpSt_any (v := ?v_145) rfl (by kernel_rfl) (fun w K hK => ?h1_145) ?h2_145
    case h1_145 => go_simp; exact hK
    simp only [Act.put, List.setIfInBounds_toArray, List.set_cons_succ, List.set_cons_zero]
    refine wpSt_store rfl hs2 hs3 rfl (by kernel_rfl) ?h1_146 ?h2_146
    case h1_146 => rw [HW3.out]; go_simp
    refine wpSt_nil rfl ?_
    rw [show Ws [41, 44, 47].length = W3 from hs3]
    go_wp2
    go_end0
    exact ⟨rfl, HO.out, HF.out⟩
  · cases io
    · simp only [Bool.true_or, Bool.false_or, Bool.or_true, Bool.or_false] at hW1 hW2 hW3
      have HW1 := Lib.hid hW1
      have HW2 := Lib.hid hW2
      have HW3 := Lib.hid hW3
      clear hW1 hW2 hW3
      go_wp2
      refine wp_region_stores [41, 44, 47] Ws (by kernel_rfl) (by kernel_rfl) hs0 ?_
      refine wpSt_any (v := ?v_148) rfl (by kernel_rfl) (fun w K hK => ?h1_148) ?h2_148
      case h1_148 => go_simp; exact hK
      simp only [Act.put, List.setIfInBounds_toArray, List.set_cons_succ, List.set_cons_zero]
      refine wpSt_any (v := ?v_149) rfl (by kernel_rfl) (fun w K hK => ?h1_149) ?h2_149
      case h1_149 => go_simp; exact hK
      simp only [Act.put, List.setIfInBounds_toArray, List.set_cons_succ, List.set_cons_zero]
      refine wpSt_any (v := ?v_150) rfl (by kernel_rfl) (fun w K hK => ?h1_150) ?h2_150
      case h1_150 => go_simp; exact hK
      simp only [Act.put, List.setIfInBounds_toArray, List.set_cons_succ, List.set_cons_zero]
      refine wpSt_any (v := ?v_151) rfl (by kernel_rfl) (fun w K hK => ?h1_151) ?h2_151
      case h1_151 => go_simp; exact hK
      simp only [Act.put, List.setIfInBounds_toArray, List.set_cons_succ, List.set_cons_zero]
      refine wpSt_any (v := ?v_152) rfl (by kernel_rfl) (fun w K hK => ?h1_152) ?h2_152
      case h1_152 => go_simp; exact hK
      simp only [Act.put, List.setIfInBounds_toArray, List.set_cons_succ, List.set_cons_zero]
      refine wpSt_any (v := ?v_153) rfl (by kernel_rfl) (fun w K hK => ?h1_153) ?h2_153
      case h1_153 => go_simp; exact hK
      simp only [Act.put, List.setIfInBounds_toArray, List.set_cons_succ, List.set_cons_zero]
      refine wpSt_0 (v := ?v_154) (by kernel_rfl) hs0 rfl (by kernel_rfl) (fun K hK => ?h1_154) ?h2_154
      case h1_154 => go_simp; exact hK
      simp only [Act.put, List.setIfInBounds_toArray, List.set_cons_succ, List.set_cons_zero]
      refine wpSt_any (v := ?v_155) rfl (by kernel_rfl) (fun w K hK => ?h1_155) ?h2_155
      case h1_155 => go_simp; exact hK
      simp only [Act.put, List.setIfInBounds_toArray, List.set_cons_succ, List.set_cons_zero]
      refine wpSt_any (v := ?v_156) rfl (by kernel_rfl) (fun w K hK => ?h1_156) ?h2_156
      case h1_156 => go_simp; exact hK
      simp only [Act.put, List.setIfInBounds_toArray, List.set_cons_succ, List.set_cons_zero]
      refine wpSt_any (v := ?v_157) rfl (by kernel_rfl) (fun w K hK => ?h1_157) ?h2_157
      case h1_157 => go_simp; exact hK
      simp only [Act.put, List.setIfInBounds_toArray, List.set_cons_succ, List.set_cons_zero]
      refine wpSt_any (v := ?v_158) rfl (by kernel_rfl) (fun w K hK => ?h1_158) ?h2_158
      case h1_158 => go_simp; exact hK
      simp only [Act.put, List.setIfInBounds_toArray, List.set_cons_succ, List.set_cons_zero]
      refine wpSt_0 (v := ?v_159) (by kernel_rfl) hs0 rfl (by kernel_rfl) (fun K hK => ?h1_159) ?h2_159
      case h1_159 => go_simp; exact hK
      simp only [Act.put, List.setIfInBounds_toArray, List.set_cons_succ, List.set_cons_zero]
      refine wpSt_any (v := ?v_160) rfl (by kernel_rfl) (fun w K hK => ?h1_160) ?h2_160
      case h1_160 => go_simp; exact hK
      simp only [Act.put, List.setIfInBounds_toArray, List.set_cons_succ, List.set_cons_zero]
      refine wpSt_any (v := ?v_161) rfl (by kernel_rfl) (fun w K hK => ?h1_161) ?h2_161
      case h1_161 => go_simp; exact hK
      simp only [Act.put, List.setIfInBounds_toArray, List.set_cons_succ, List.set_cons_zero]
      refine wpSt_any (v := ?v_162) rfl (by kernel_rfl) (fun w K hK => ?h1_162) ?h2_162
      case h1_162 => go_simp; exact hK
      simp only [Act.put, List.setIfInBounds_toArray, List.set_cons_succ, List.set_cons_zero]
      refine wpSt_any (v := ?v_163) rfl (by kernel_rfl) (fun w K hK => ?h1_163) ?h2_163
      case h1_163 => go_simp; exact hK
      simp only [Act.put, List.setIfInBounds_toArray, List.set_cons_succ, List.set_cons_zero]
      refine wpSt_0 (v := ?v_164) (by kernel_rfl) hs0 rfl (by kernel_rfl) (fun K hK => ?h1_164) ?h2_164
      case h1_164 => go_simp; exact hK
      simp only [Act.put, List.setIfInBounds_toArray, List.set_cons_succ, List.set_cons_zero]
      refine wpSt_any (v := ?v_165) rfl (by kernel_rfl) (fun w K hK => ?h1_165) ?h2_165
      case h1_165 => go_simp; exact hK
      simp only [Act.put, List.setIfInBounds_toArray, List.set_cons_succ, List.set_cons_zero]
      refine wpSt_off rfl (by kernel_rfl) ?_
      simp only [Act.put, List.setIfInBounds_toArray, List.set_cons_succ, List.set_cons_zero]
      refine wpSt_off rfl (by kernel_rfl) ?_
      simp only [Act.put, List.setIfInBounds_toArray, List.set_cons_succ, List.set_cons_zero]
      refine wpSt_off rfl (by kernel_rfl) ?_
      simp only [Act.put, List.setIfInBounds_toArray, List.set_cons_succ, List.set_cons_zero]
      refine wpSt_off rfl (by kernel_rfl) ?_
      simp only [Act.put, List.setIfInBounds_toArray, List.set_cons_succ, List.set_cons_zero]
      refine wpSt_any (v := ?v_170) rfl (by kernel_rfl) (fun w K hK => ?h1_170) ?h2_170
      case h1_170 => go_simp; exact hK
      simp only [Act.put, List.setIfInBounds_toArray, List.set_cons_succ, List.set_cons_zero]
      refine wpSt_any (v := ?v_171) rfl (by kernel_rfl) (fun w K hK => ?h1_171) ?h2_171
      case h1_171 => go_simp; exact hK
      simp only [Act.put, List.setIfInBounds_toArray, List.set_cons_succ, List.set_cons_zero]
      refine wpSt_any (v := ?v_172) rfl (by kernel_rfl) (fun w K hK => ?h1_172) ?h2_172
      case h1_172 => go_simp; exact hK
      simp only [Act.put, List.setIfInBounds_toArray, List.set_cons_succ, List.set_cons_zero]
      refine wpSt_any (v := ?v_173) rfl (by kernel_rfl) (fun w K hK => ?h1_173) ?h2_173
      case h1_173 => go_simp; exact hK
      simp only [Act.put, List.setIfInBounds_toArray, List.set_cons_succ, List.set_cons_zero]
      refine wpSt_0 (v := ?v_174) (by kernel_rfl) hs0 rfl (by kernel_rfl) (fun K hK => ?h1_174) ?h2_174
      case h1_174 => go_simp; exact hK
      simp only [Act.put, List.setIfInBounds_toArray, List.set_cons_succ, List.set_cons_zero]
      refine wpSt_any (v := ?v_175) rfl (by kernel_rfl) (fun w K hK => ?h1_175) ?h2_175
      case h1_175 => go_simp; exact hK
      simp only [Act.put, List.setIfInBounds_toArray, List.set_cons_succ, List.set_cons_zero]
      refine wpSt_any (v := ?v_176) rfl (by kernel_rfl) (fun w K hK => ?h1_176) ?h2_176
      case h1_176 => go_simp; exact hK
      simp only [Act.put, List.setIfInBounds_toArray, List.set_cons_succ, List.set_cons_zero]
      refine wpSt_any (v := ?v_177) rfl (by kernel_rfl) (fun w K hK => ?h1_177) ?h2_177
      case h1_177 => go_simp; exact hK
      simp only [Act.put, List.setIfInBounds_toArray, List.set_cons_succ, List.set_cons_zero]
      refine wpSt_any (v := ?v_178) rfl (by kernel_rfl) (fun w K hK => ?h1_178) ?h2_178
      case h1_178 => go_simp; exact hK
      simp only [Act.put, List.setIfInBounds_toArray, List.set_cons_succ, List.set_cons_zero]
      refine wpSt_0 (v := ?v_179) (by kernel_rfl) hs0 rfl (by kernel_rfl) (fun K hK => ?h1_179) ?h2_179
      case h1_179 => go_simp; exact hK
      simp only [Act.put, List.setIfInBounds_toArray, List.set_cons_succ, List.set_cons_zero]
      refine wpSt_any (v := ?v_180) rfl (by kernel_rfl) (fun w K hK => ?h1_180) ?h2_180
      case h1_180 => go_simp; exact hK
      simp only [Act.put, List.setIfInBounds_toArray, List.set_cons_succ, List.set_cons_zero]
      refine wpSt_any (v := ?v_181) rfl (by kernel_rfl) (fun w K hK => ?h1_181) ?h2_181
      case h1_181 => go_simp; exact hK
      simp only [Act.put, List.setIfInBounds_toArray, List.set_cons_succ, List.set_cons_zero]
      refine wpSt_any (v := ?v_182) rfl (by kernel_rfl) (fun w K hK => ?h1_182) ?h2_182
      case h1_182 => go_simp; exact hK
      simp only [Act.put, List.setIfInBounds_toArray, List.set_cons_succ, List.set_cons_zero]
      refine wpSt_any (v := ?v_183) rfl (by kernel_rfl) (fun w K hK => ?h1_183) ?h2_183
      case h1_183 => go_simp; exact hK
      simp only [Act.put, List.setIfInBounds_toArray, List.set_cons_succ, List.set_cons_zero]
      refine wpSt_any (v := ?v_184) rfl (by kernel_rfl) (fun w K hK => ?h1_184) ?h2_184
      case h1_184 => go_simp; exact hK
      simp only [Act.put, List.setIfInBounds_toArray, List.set_cons_succ, List.set_cons_zero]
      refine wpSt_any (v := ?v_185) rfl (by kernel_rfl) (fun w K hK => ?h1_185) ?h2_185
      case h1_185 => go_simp; exact hK
      simp only [Act.put, List.setIfInBounds_toArray, List.set_cons_succ, List.set_cons_zero]
      refine wpSt_any (v := ?v_186) rfl (by kernel_rfl) (fun w K hK => ?h1_186) ?h2_186
      case h1_186 => go_simp; exact hK
      simp only [Act.put, List.setIfInBounds_toArray, List.set_cons_succ, List.set_cons_zero]
      refine wpSt_any (v := ?v_187) rfl (by kernel_rfl) (fun w K hK => ?h1_187) ?h2_187
      case h1_187 => go_simp; exact hK
      simp only [Act.put, List.setIfInBounds_toArray, List.set_cons_succ, List.set_cons_zero]
      refine wpSt_any (v := ?v_188) rfl (by kernel_rfl) (fun w K hK => ?h1_188) ?h2_188
      case h1_188 => go_simp; exact hK
      simp only [Act.put, List.setIfInBounds_toArray, List.set_cons_succ, List.set_cons_zero]
      refine wpSt_store rfl hs0 hs1 rfl (by kernel_rfl) ?h1_189 ?h2_189
      case h1_189 => rw [HW1.out]; go_simp
      refine wpSt_any (v := ?v_190) rfl (by kernel_rfl) (fun w K hK => ?h1_190) ?h2_190
      case h1_190 => go_simp; exact hK
      simp only [Act.put, List.setIfInBounds_toArray, List.set_cons_succ, List.set_cons_zero]
      refine wpSt_any (v := ?v_191) rfl (by kernel_rfl) (fun w K hK => ?h1_191) ?h2_191
      case h1_191 => go_simp; exact hK
      simp only [Act.put, List.setIfInBounds_toArray, List.set_cons_succ, List.set_cons_zero]
      refine wpSt_store rfl hs1 hs2 rfl (by kernel_rfl) ?h1_192 ?h2_192
      case h1_192 => rw [HW2.out]; go_simp
      refine wpSt_any (v := ?v_193) rfl (by kernel_rfl) (fun w K hK => ?h1_193) ?h2_193
      case h1_193 => go_simp; exact hK
      simp only [Act.put, List.setIfInBounds_toArray, List.set_cons_succ, List.set_cons_zero]
      refine wpSt_any (v := ?v_194) rfl (by kernel_rfl) (fun w K hK => ?h1_194) ?h2_194
      case h1_194 => go_simp; exact hK
      simp only [Act.put, List.setIfInBounds_toArray, List.set_cons_succ, List.set_cons_zero]
      refine wpSt_store rfl hs2 hs3 rfl (by kernel_rfl) ?h1_195 ?h2_195
      case h1_195 => rw [HW3.out]; go_simp
      refine wpSt_nil rfl ?_
      rw [show Ws [41, 44, 47].length = W3 from hs3]
      go_wp2
      go_end0
      exact ⟨rfl, HO.out, HF.out⟩
    · simp only [Bool.true_or, Bool.false_or, Bool.or_true, Bool.or_false] at hW1 hW2 hW3
      have HW1 := Lib.hid hW1
      have HW2 := Lib.hid hW2
      have HW3 := Lib.hid hW3
      clear hW1 hW2 hW3
      go_wp2
      refine wp_region_stores [41, 44, 47] Ws (by kernel_rfl) (by kernel_rfl) hs0 ?_
      refine wpSt_any (v := ?v_197) rfl (by kernel_rfl) (fun w K hK => ?h1_197) ?h2_197
      case h1_197 => go_simp; exact hK
      simp only [Act.put, List.setIfInBounds_toArray, List.set_cons_succ, List.set_cons_zero]
      refine wpSt_any (v := ?v_198) rfl (by kernel_rfl) (fun w K hK => ?h1_198) ?h2_198
      case h1_198 => go_simp; exact hK
      simp only [Act.put, List.setIfInBounds_toArray, List.set_cons_succ, List.set_cons_zero]
      refine wpSt_any (v := ?v_199) rfl (by kernel_rfl) (fun w K hK => ?h1_199) ?h2_199
      case h1_199 => go_simp; exact hK
      simp only [Act.put, List.setIfInBounds_toArray, List.set_cons_succ, List.set_cons_zero]
      refine wpSt_any (v := ?v_200) rfl (by kernel_rfl) (fun w K hK => ?h1_200) ?h2_200
      case h1_200 => go_simp; exact hK
      simp only [Act.put, List.setIfInBounds_toArray, List.set_cons_succ, List.set_cons_zero]
      refine wpSt_any (v := ?v_201) rfl (by kernel_rfl) (fun w K hK => ?h1_201) ?h2_201
      case h1_201 => go_simp; exact hK
      simp only [Act.put, List.setIfInBounds_toArray, List.set_cons_succ, List.set_cons_zero]
      refine wpSt_any (v := ?v_202) rfl (by kernel_rfl) (fun w K hK => ?h1_202) ?h2_202
      case h1_202 => go_simp; exact hK
      simp only [Act.put, List.setIfInBounds_toArray, List.set_cons_succ, List.set_cons_zero]
      refine wpSt_0 (v := ?v_203) (by kernel_rfl) hs0 rfl (by kernel_rfl) (fun K hK => ?h1_203) ?h2_203
      case h1_203 => go_simp; exact hK
      simp only [Act.put, List.setIfInBounds_toArray, List.set_cons_succ, List.set_cons_zero]
      refine wpSt_any (v := ?v_204) rfl (by kernel_rfl) (fun w K hK => ?h1_204) ?h2_204
      case h1_204 => go_simp; exact hK
      simp only [Act.put, List.setIfInBounds_toArray, List.set_cons_succ, List.set_cons_zero]
      refine wpSt_any (v := ?v_205) rfl (by kernel_rfl) (fun w K hK => ?h1_205) ?h2_205
      case h1_205 => go_simp; exact hK
      simp only [Act.put, List.setIfInBounds_toArray, List.set_cons_succ, List.set_cons_zero]
      refine wpSt_any (v := ?v_206) rfl (by kernel_rfl) (fun w K hK => ?h1_206) ?h2_206
      case h1_206 => go_simp; exact hK
      simp only [Act.put, List.setIfInBounds_toArray, List.set_cons_succ, List.set_cons_zero]
      refine wpSt_any (v := ?v_207) rfl (by kernel_rfl) (fun w K hK => ?h1_207) ?h2_207
      case h1_207 => go_simp; exact hK
      simp only [Act.put, List.setIfInBounds_toArray, List.set_cons_succ, List.set_cons_zero]
      refine wpSt_0 (v := ?v_208) (by kernel_rfl) hs0 rfl (by kernel_rfl) (fun K hK => ?h1_208) ?h2_208
      case h1_208 => go_simp; exact hK
      simp only [Act.put, List.setIfInBounds_toArray, List.set_cons_succ, List.set_cons_zero]
      refine wpSt_any (v := ?v_209) rfl (by kernel_rfl) (fun w K hK => ?h1_209) ?h2_209
      case h1_209 => go_simp; exact hK
      simp only [Act.put, List.setIfInBounds_toArray, List.set_cons_succ, List.set_cons_zero]
      refine wpSt_any (v := ?v_210) rfl (by kernel_rfl) (fun w K hK => ?h1_210) ?h2_210
      case h1_210 => go_simp; exact hK
      simp only [Act.put, List.setIfInBounds_toArray, List.set_cons_succ, List.set_cons_zero]
      refine wpSt_any (v := ?v_211) rfl (by kernel_rfl) (fun w K hK => ?h1_211) ?h2_211
      case h1_211 => go_simp; exact hK
      simp only [Act.put, List.setIfInBounds_toArray, List.set_cons_succ, List.set_cons_zero]
      refine wpSt_any (v := ?v_212) rfl (by kernel_rfl) (fun w K hK => ?h1_212) ?h2_212
      case h1_212 => go_simp; exact hK
      simp only [Act.put, List.setIfInBounds_toArray, List.set_cons_succ, List.set_cons_zero]
      refine wpSt_0 (v := ?v_213) (by kernel_rfl) hs0 rfl (by kernel_rfl) (fun K hK => ?h1_213) ?h2_213
      case h1_213 => go_simp; exact hK
      simp only [Act.put, List.setIfInBounds_toArray, List.set_cons_succ, List.set_cons_zero]
      refine wpSt_any (v := ?v_214) rfl (by kernel_rfl) (fun w K hK => ?h1_214) ?h2_214
      case h1_214 => go_simp; exact hK
      simp only [Act.put, List.setIfInBounds_toArray, List.set_cons_succ, List.set_cons_zero]
      refine wpSt_off rfl (by kernel_rfl) ?_
      simp only [Act.put, List.setIfInBounds_toArray, List.set_cons_succ, List.set_cons_zero]
      refine wpSt_off rfl (by kernel_rfl) ?_
      simp only [Act.put, List.setIfInBounds_toArray, List.set_cons_succ, List.set_cons_zero]
      refine wpSt_off rfl (by kernel_rfl) ?_
      simp only [Act.put, List.setIfInBounds_toArray, List.set_cons_succ, List.set_cons_zero]
      refine wpSt_off rfl (by kernel_rfl) ?_
      simp only [Act.put, List.setIfInBounds_toArray, List.set_cons_succ, List.set_cons_zero]
      refine wpSt_any (v := ?v_219) rfl (by kernel_rfl) (fun w K hK => ?h1_219) ?h2_219
      case h1_219 => go_simp; exact hK
      simp only [Act.put, List.setIfInBounds_toArray, List.set_cons_succ, List.set_cons_zero]
      refine wpSt_any (v := ?v_220) rfl (by kernel_rfl) (fun w K hK => ?h1_220) ?h2_220
      case h1_220 => go_simp; exact hK
      simp only [Act.put, List.setIfInBounds_toArray, List.set_cons_succ, List.set_cons_zero]
      refine wpSt_any (v := ?v_221) rfl (by kernel_rfl) (fun w K hK => ?h1_221) ?h2_221
      case h1_221 => go_simp; exact hK
      simp only [Act.put, List.setIfInBounds_toArray, List.set_cons_succ, List.set_cons_zero]
      refine wpSt_any (v := ?v_222) rfl (by kernel_rfl) (fun w K hK => ?h1_222) ?h2_222
      case h1_222 => go_simp; exact hK
      simp only [Act.put, List.setIfInBounds_toArray, List.set_cons_succ, List.set_cons_zero]
      refine wpSt_0 (v := ?v_223) (by kernel_rfl) hs0 rfl (by kernel_rfl) (fun K hK => ?h1_223) ?h2_223
      case h1_223 => go_simp; exact hK
      simp only [Act.put, List.setIfInBounds_toArray, List.set_cons_succ, List.set_cons_zero]
      refine wpSt_any (v := ?v_224) rfl (by kernel_rfl) (fun w K hK => ?h1_224) ?h2_224
      case h1_224 => go_simp; exact hK
      simp only [Act.put, List.setIfInBounds_toArray, List.set_cons_succ, List.set_cons_zero]
      refine wpSt_any (v := ?v_225) rfl (by kernel_rfl) (fun w K hK => ?h1_225) ?h2_225
      case h1_225 => go_simp; exact hK
      simp only [Act.put, List.setIfInBounds_toArray, List.set_cons_succ, List.set_cons_zero]
      refine wpSt_any (v := ?v_226) rfl (by kernel_rfl) (fun w K hK => ?h1_226) ?h2_226
      case h1_226 => go_simp; exact hK
      simp only [Act.put, List.setIfInBounds_toArray, List.set_cons_succ, List.set_cons_zero]
      refine wpSt_any (v := ?v_227) rfl (by kernel_rfl) (fun w K hK => ?h1_227) ?h2_227
      case h1_227 => go_simp; exact hK
      simp only [Act.put, List.setIfInBounds_toArray, List.set_cons_succ, List.set_cons_zero]
      refine wpSt_0 (v := ?v_228) (by kernel_rfl) hs0 rfl (by kernel_rfl) (fun K hK => ?h1_228) ?h2_228
      case h1_228 => go_simp; exact hK
      simp only [Act.put, List.setIfInBounds_toArray, List.set_cons_succ, List.set_cons_zero]
      refine wpSt_any (v := ?v_229) rfl (by kernel_rfl) (fun w K hK => ?h1_229) ?h2_229
      case h1_229 => go_simp; exact hK
      simp only [Act.put, List.setIfInBounds_toArray, List.set_cons_succ, List.set_cons_zero]
      refine wpSt_any (v := ?v_230) rfl (by kernel_rfl) (fun w K hK => ?h1_230) ?h2_230
      case h1_230 => go_simp; exact hK
      simp only [Act.put, List.setIfInBounds_toArray, List.set_cons_succ, List.set_cons_zero]
      refine wpSt_off rfl (by kernel_rfl) ?_
      simp only [Act.put, List.setIfInBounds_toArray, List.set_cons_succ, List.set_cons_zero]
      refine wpSt_off rfl (by kernel_rfl) ?_
      simp only [Act.put, List.setIfInBounds_toArray, List.set_cons_succ, List.set_cons_zero]
      refine wpSt_off rfl (by kernel_rfl) ?_
      simp only [Act.put, List.setIfInBounds_toArray, List.set_cons_succ, List.set_cons_zero]
      refine wpSt_off rfl (by kernel_rfl) ?_
      simp only [Act.put, List.setIfInBounds_toArray, List.set_cons_succ, List.set_cons_zero]
      refine wpSt_any (v := ?v_235) rfl (by kernel_rfl) (fun w K hK => ?h1_235) ?h2_235
      case h1_235 => go_simp; exact hK
      simp only [Act.put, List.setIfInBounds_toArray, List.set_cons_succ, List.set_cons_zero]
      refine wpSt_any (v := ?v_236) rfl (by kernel_rfl) (fun w K hK => ?h1_236) ?h2_236
      case h1_236 => go_simp; exact hK
      simp only [Act.put, List.setIfInBounds_toArray, List.set_cons_succ, List.set_cons_zero]
      refine wpSt_any (v := ?v_237) rfl (by kernel_rfl) (fun w K hK => ?h1_237) ?h2_237
      case h1_237 => go_simp; exact hK
      simp only [Act.put, List.setIfInBounds_toArray, List.set_cons_succ, List.set_cons_zero]
      refine wpSt_store rfl hs0 hs1 rfl (by kernel_rfl) ?h1_238 ?h2_238
      case h1_238 => rw [HW1.out]; go_simp
      refine wpSt_any (v := ?v_239) rfl (by kernel_rfl) (fun w K hK => ?h1_239) ?h2_239
      case h1_239 => go_simp; exact hK
      simp only [Act.put, List.setIfInBounds_toArray, List.set_cons_succ, List.set_cons_zero]
      refine wpSt_any (v := ?v_240) rfl (by kernel_rfl) (fun w K hK => ?h1_240) ?h2_240
      case h1_240 => go_simp; exact hK
      simp only [Act.put, List.setIfInBounds_toArray, List.set_cons_succ, List.set_cons_zero]
      refine wpSt_store rfl hs1 hs2 rfl (by kernel_rfl) ?h1_241 ?h2_241
      case h1_241 => rw [HW2.out]; go_simp
      refine wpSt_any (v := ?v_242) rfl (by kernel_rfl) (fun w K hK => ?h1_242) ?h2_242
      case h1_242 => go_simp; exact hK
      simp only [Act.put, List.setIfInBounds_toArray, List.set_cons_succ, List.set_cons_zero]
      refine wpSt_any (v := ?v_243) rfl (by kernel_rfl) (fun w K hK => ?h1_243) ?h2_243
      case h1_243 => go_simp; exact hK
      simp only [Act.put, List.setIfInBounds_toArray, List.set_cons_succ, List.set_cons_zero]
      refine wpSt_store rfl hs2 hs3 rfl (by kernel_rfl) ?h1_244 ?h2_244
      case h1_244 => rw [HW3.out]; go_simp
      refine wpSt_nil rfl ?_
      rw [show Ws [41, 44, 47].length = W3 from hs3]
      go_wp2
      go_end0
      exact ⟨rfl, HO.out, HF.out⟩
  · simp only [Bool.true_or, Bool.false_or, Bool.or_true, Bool.or_false] at hW1 hW2 hW3
    have HW1 := Lib.hid hW1
    have HW2 := Lib.hid hW2
    have HW3 := Lib.hid hW3
    clear hW1 hW2 hW3
    go_wp2
    refine wp_region_stores [41, 44, 47] Ws (by kernel_rfl) (by kernel_rfl) hs0 ?_
    refine wpSt_any (v := ?v_246) rfl (by kernel_rfl) (fun w K hK => ?h1_246) ?h2_246
    case h1_246 => go_simp; exact hK
    simp only [Act.put, List.setIfInBounds_toArray, List.set_cons_succ, List.set_cons_zero]
    refine wpSt_any (v := ?v_247) rfl (by kernel_rfl) (fun w K hK => ?h1_247) ?h2_247
    case h1_247 => go_simp; exact hK
    simp only [Act.put, List.setIfInBounds_toArray, List.set_cons_succ, List.set_cons_zero]
    refine wpSt_any (v := ?v_248) rfl (by kernel_rfl) (fun w K hK => ?h1_248) ?h2_248
    case h1_248 => go_simp; exact hK
    simp only [Act.put, List.setIfInBounds_toArray, List.set_cons_succ, List.set_cons_zero]
    refine wpSt_any (v := ?v_249) rfl (by kernel_rfl) (fun w K hK => ?h1_249) ?h2_249
    case h1_249 => go_simp; exact hK
    simp only [Act.put, List.setIfInBounds_toArray, List.set_cons_succ, List.set_cons_zero]
    refine wpSt_any (v := ?v_250) rfl (by kernel_rfl) (fun w K hK => ?h1_250) ?h2_250
    case h1_250 => go_simp; exact hK
    simp only [Act.put, List.setIfInBounds_toArray, List.set_cons_succ, List.set_cons_zero]
    refine wpSt_any (v := ?v_251) rfl (by kernel_rfl) (fun w K hK => ?h1_251) ?h2_251
    case h1_251 => go_simp; exact hK
    simp only [Act.put, List.setIfInBounds_toArray, List.set_cons_succ, List.set_cons_zero]
    refine wpSt_0 (v := ?v_252) (by kernel_rfl) hs0 rfl (by kernel_rfl) (fun K hK => ?h1_252) ?h2_252
    case h1_252 => go_simp; exact hK
    simp only [Act.put, List.setIfInBounds_toArray, List.set_cons_succ, List.set_cons_zero]
    refine wpSt_any (v := ?v_253) rfl (by kernel_rfl) (fun w K hK => ?h1_253) ?h2_253
    case h1_253 => go_simp; exact hK
    simp only [Act.put, List.setIfInBounds_toArray, List.set_cons_succ, List.set_cons_zero]
    refine wpSt_any (v := ?v_254) rfl (by kernel_rfl) (fun w K hK => ?h1_254) ?h2_254
    case h1_254 => go_simp; exact hK
    simp only [Act.put, List.setIfInBounds_toArray, List.set_cons_succ, List.set_cons_zero]
    refine wpSt_any (v := ?v_255) rfl (by kernel_rfl) (fun w K hK => ?h1_255) ?h2_255
    case h1_255 => go_simp; exact hK
    simp only [Act.put, List.setIfInBounds_toArray, List.set_cons_succ, List.set_cons_zero]
    refine wpSt_any (v := ?v_256) rfl (by kernel_rfl) (fun w K hK => ?h1_256) ?h2_256
    case h1_256 => go_simp; exact hK
    simp only [Act.put, List.setIfInBounds_toArray, List.set_cons_succ, List.set_cons_zero]
    refine wpSt_0 (v := ?v_257) (by kernel_rfl) hs0 rfl (by kernel_rfl) (fun K hK => ?h1_257) ?h2_257
    case h1_257 => go_simp; exact hK
    simp only [Act.put, List.setIfInBounds_toArray, List.set_cons_succ, List.set_cons_zero]
    refine wpSt_any (v := ?v_258) rfl (by kernel_rfl) (fun w K hK => ?h1_258) ?h2_258
    case h1_258 => go_simp; exact hK
    simp only [Act.put, List.setIfInBounds_toArray, List.set_cons_succ, List.set_cons_zero]
    refine wpSt_any (v := ?v_259) rfl (by kernel_rfl) (fun w K hK => ?h1_259) ?h2_259
    case h1_259 => go_simp; exact hK
    simp only [Act.put, List.setIfInBounds_toArray, List.set_cons_succ, List.set_cons_zero]
    refine wpSt_any (v := ?v_260) rfl (by kernel_rfl) (fun w K hK => ?h1_260) ?h2_260
    case h1_260 => go_simp; exact hK
    simp only [Act.put, List.setIfInBounds_toArray, List.set_cons_succ, List.set_cons_zero]
    refine wpSt_any (v := ?v_261) rfl (by kernel_rfl) (fun w K hK => ?h1_261) ?h2_261
    case h1_261 => go_simp; exact hK
    simp only [Act.put, List.setIfInBounds_toArray, List.set_cons_succ, List.set_cons_zero]
    refine wpSt_0 (v := ?v_262) (by kernel_rfl) hs0 rfl (by kernel_rfl) (fun K hK => ?h1_262) ?h2_262
    case h1_262 => go_simp; exact hK
    simp only [Act.put, List.setIfInBounds_toArray, List.set_cons_succ, List.set_cons_zero]
    refine wpSt_any (v := ?v_263) rfl (by kernel_rfl) (fun w K hK => ?h1_263) ?h2_263
    case h1_263 => go_simp; exact hK
    simp only [Act.put, List.setIfInBounds_toArray, List.set_cons_succ, List.set_cons_zero]
    refine wpSt_off rfl (by kernel_rfl) ?_
    simp only [Act.put, List.setIfInBounds_toArray, List.set_cons_succ, List.set_cons_zero]
    refine wpSt_off rfl (by kernel_rfl) ?_
    simp only [Act.put, List.setIfInBounds_toArray, List.set_cons_succ, List.set_cons_zero]
    refine wpSt_off rfl (by kernel_rfl) ?_
    simp only [Act.put, List.setIfInBounds_toArray, List.set_cons_succ, List.set_cons_zero]
    refine wpSt_off rfl (by kernel_rfl) ?_
    simp only [Act.put, List.setIfInBounds_toArray, List.set_cons_succ, List.set_cons_zero]
    refine wpSt_any (v := ?v_268) rfl (by kernel_rfl) (fun w K hK => ?h1_268) ?h2_268
    case h1_268 => go_simp; exact hK
    simp only [Act.put, List.setIfInBounds_toArray, List.set_cons_succ, List.set_cons_zero]
    refine wpSt_any (v := ?v_269) rfl (by kernel_rfl) (fun w K hK => ?h1_269) ?h2_269
    case h1_269 => go_simp; exact hK
    simp only [Act.put, List.setIfInBounds_toArray, List.set_cons_succ, List.set_cons_zero]
    refine wpSt_any (v := ?v_270) rfl (by kernel_rfl) (fun w K hK => ?h1_270) ?h2_270
    case h1_270 => go_simp; exact hK
    simp only [Act.put, List.setIfInBounds_toArray, List.set_cons_succ, List.set_cons_zero]
    refine wpSt_any (v := ?v_271) rfl (by kernel_rfl) (fun w K hK => ?h1_271) ?h2_271
    case h1_271 => go_simp; exact hK
    simp only [Act.put, List.setIfInBounds_toArray, List.set_cons_succ, List.set_cons_zero]
    refine wpSt_0 (v := ?v_272) (by kernel_rfl) hs0 rfl (by kernel_rfl) (fun K hK => ?h1_272) ?h2_272
    case h1_272 => go_simp; exact hK
    simp only [Act.put, List.setIfInBounds_toArray, List.set_cons_succ, List.set_cons_zero]
    refine wpSt_any (v := ?v_273) rfl (by kernel_rfl) (fun w K hK => ?h1_273) ?h2_273
    case h1_273 => go_simp; exact hK
    simp only [Act.put, List.setIfInBounds_toArray, List.set_cons_succ, List.set_cons_zero]
    refine wpSt_off rfl (by kernel_rfl) ?_
    simp only [Act.put, List.setIfInBounds_toArray, List.set_cons_succ, List.set_cons_zero]
    refine wpSt_off rfl (by kernel_rfl) ?_
    simp only [Act.put, List.setIfInBounds_toArray, List.set_cons_succ, List.set_cons_zero]
    refine wpSt_off rfl (by kernel_rfl) ?_
    simp only [Act.put, List.setIfInBounds_toArray, List.set_cons_succ, List.set_cons_zero]
    refine wpSt_off rfl (by kernel_rfl) ?_
    simp only [Act.put, List.setIfInBounds_toArray, List.set_cons_succ, List.set_cons_zero]
    refine wpSt_any (v := ?v_278) rfl (by kernel_rfl) (fun w K hK => ?h1_278) ?h2_278
    case h1_278 => go_simp; exact hK
    simp only [Act.put, List.setIfInBounds_toArray, List.set_cons_succ, List.set_cons_zero]
    refine wpSt_any (v := ?v_279) rfl (by kernel_rfl) (fun w K hK => ?h1_279) ?h2_279
    case h1_279 => go_simp; exact hK
    simp only [Act.put, List.setIfInBounds_toArray, List.set_cons_succ, List.set_cons_zero]
    refine wpSt_off rfl (by kernel_rfl) ?_
    simp only [Act.put, List.setIfInBounds_toArray, List.set_cons_succ, List.set_cons_zero]
    refine wpSt_off rfl (by kernel_rfl) ?_
    simp only [Act.put, List.setIfInBounds_toArray, List.set_cons_succ, List.set_cons_zero]
    refine wpSt_off rfl (by kernel_rfl) ?_
    simp only [Act.put, List.setIfInBounds_toArray, List.set_cons_succ, List.set_cons_zero]
    refine wpSt_off rfl (by kernel_rfl) ?_
    simp only [Act.put, List.setIfInBounds_toArray, List.set_cons_succ, List.set_cons_zero]
    refine wpSt_any (v := ?v_284) rfl (by kernel_rfl) (fun w K hK => ?h1_284) ?h2_284
    case h1_284 => go_simp; exact hK
    simp only [Act.put, List.setIfInBounds_toArray, List.set_cons_succ, List.set_cons_zero]
    refine wpSt_any (v := ?v_285) rfl (by kernel_rfl) (fun w K hK => ?h1_285) ?h2_285
    case h1_285 => go_simp; exact hK
    simp only [Act.put, List.setIfInBounds_toArray, List.set_cons_succ, List.set_cons_zero]
    refine wpSt_any (v := ?v_286) rfl (by kernel_rfl) (fun w K hK => ?h1_286) ?h2_286
    case h1_286 => go_simp; exact hK
    simp only [Act.put, List.setIfInBounds_toArray, List.set_cons_succ, List.set_cons_zero]
    refine wpSt_store rfl hs0 hs1 rfl (by kernel_rfl) ?h1_287 ?h2_287
    case h1_287 => rw [HW1.out]; go_simp
    refine wpSt_any (v := ?v_288) rfl (by kernel_rfl) (fun w K hK => ?h1_288) ?h2_288
    case h1_288 => go_simp; exact hK
    simp only [Act.put, List.setIfInBounds_toArray, List.set_cons_succ, List.set_cons_zero]
    refine wpSt_any (v := ?v_289) rfl (by kernel_rfl) (fun w K hK => ?h1_289) ?h2_289
    case h1_289 => go_simp; exact hK
    simp only [Act.put, List.setIfInBounds_toArray, List.set_cons_succ, List.set_cons_zero]
    refine wpSt_store rfl hs1 hs2 rfl (by kernel_rfl) ?h1_290 ?h2_290
    case h1_290 => rw [HW2.out]; go_simp
    refine wpSt_any (v := ?v_291) rfl (by kernel_rfl) (fun w K hK => ?h1_291) ?h2_291
    case h1_291 => go_simp; exact hK
    simp only [Act.put, List.setIfInBounds_toArray, List.set_cons_succ, List.set_cons_zero]
    refine wpSt_any (v := ?v_292) rfl (by kernel_rfl) (fun w K hK => ?h1_292) ?h2_292
    case h1_292 => go_simp; exact hK
    simp only [Act.put, List.setIfInBounds_toArray, List.set_cons_succ, List.set_cons_zero]
    refine wpSt_store rfl hs2 hs3 rfl (by kernel_rfl) ?h1_293 ?h2_293
    case h1_293 => rw [HW3.out]; go_simp
    refine wpSt_nil rfl ?_
    rw [show Ws [41, 44, 47].length = W3 from hs3]
    go_wp2
    go_end0
    exact ⟨rfl, HO.out, HF.out⟩
  · cases io
    · simp only [Bool.true_or, Bool.false_or, Bool.or_true, Bool.or_false] at hW1 hW2 hW3
      have HW1 := Lib.hid hW1
      have HW2 := Lib.hid hW2
      have HW3 := Lib.hid hW3
      clear hW1 hW2 hW3
      go_wp2
      refine wp_region_stores [41, 44, 47] Ws (by kernel_rfl) (by kernel_rfl) hs0 ?_
      refine wpSt_any (v := ?v_295) rfl (by kernel_rfl) (fun w K hK => ?h1_295) ?h2_295
      case h1_295 => go_simp; exact hK
      simp only [Act.put, List.setIfInBounds_toArray, List.set_cons_succ, List.set_cons_zero]
      refine wpSt_any (v := ?v_296) rfl (by kernel_rfl) (fun w K hK => ?h1_296) ?h2_296
      case h1_296 => go_simp; exact hK
      simp only [Act.put, List.setIfInBounds_toArray, List.set_cons_succ, List.set_cons_zero]
      refine wpSt_any (v := ?v_297) rfl (by kernel_rfl) (fun w K hK => ?h1_297) ?h2_297
      case h1_297 => go_simp; exact hK
      simp only [Act.put, List.setIfInBounds_toArray, List.set_cons_succ, List.set_cons_zero]
      refine wpSt_any (v := ?v_298) rfl (by kernel_rfl) (fun w K hK => ?h1_298) ?h2_298
      case h1_298 => go_simp; exact hK
      simp only [Act.put, List.setIfInBounds_toArray, List.set_cons_succ, List.set_cons_zero]
      refine wpSt_any (v := ?v_299) rfl (by kernel_rfl) (fun w K hK => ?h1_299) ?h2_299
      case h1_299 => go_simp; exact hK
      simp only [Act.put, List.setIfInBounds_toArray, List.set_cons_succ, List.set_cons_zero]
      refine wpSt_any (v := ?v_300) rfl (by kernel_rfl) (fun w K hK => ?h1_300) ?h2_300
      case h1_300 => go_simp; exact hK
      simp only [Act.put, List.setIfInBounds_toArray, List.set_cons_succ, List.set_cons_zero]
      refine wpSt_0 (v := ?v_301) (by kernel_rfl) hs0 rfl (by kernel_rfl) (fun K hK => ?h1_301) ?h2_301
      case h1_301 => go_simp; exact hK
      simp only [Act.put, List.setIfInBounds_toArray, List.set_cons_succ, List.set_cons_zero]
      refine wpSt_any (v := ?v_302) rfl (by kernel_rfl) (fun w K hK => ?h1_302) ?h2_302
      case h1_302 => go_simp; exact hK
      simp only [Act.put, List.setIfInBounds_toArray, List.set_cons_succ, List.set_cons_zero]
      refine wpSt_off rfl (by kernel_rfl) ?_
      simp only [Act.put, List.setIfInBounds_toArray, List.set_cons_succ, List.set_cons_zero]
      refine wpSt_off rfl (by kernel_rfl) ?_
      simp only [Act.put, List.setIfInBounds_toArray, List.set_cons_succ, List.set_cons_zero]
      refine wpSt_off rfl (by kernel_rfl) ?_
      simp only [Act.put, List.setIfInBounds_toArray, List.set_cons_succ, List.set_cons_zero]
      refine wpSt_off rfl (by kernel_rfl) ?_
      simp only [Act.put, List.setIfInBounds_toArray, List.set_cons_succ, List.set_cons_zero]
      refine wpSt_any (v := ?v_307) rfl (by kernel_rfl) (fun w K hK => ?h1_307) ?h2_307
      case h1_307 => go_simp; exact hK
      simp only [Act.put, List.setIfInBounds_toArray, List.set_cons_succ, List.set_cons_zero]
      refine wpSt_any (v := ?v_308) rfl (by kernel_rfl) (fun w K hK => ?h1_308) ?h2_308
      case h1_308 => go_simp; exact hK
      simp only [Act.put, List.setIfInBounds_toArray, List.set_cons_succ, List.set_cons_zero]
      refine wpSt_any (v := ?v_309) rfl (by kernel_rfl) (fun w K hK => ?h1_309) ?h2_309
      case h1_309 => go_simp; exact hK
      simp only [Act.put, List.setIfInBounds_toArray, List.set_cons_succ, List.set_cons_zero]
      refine wpSt_any (v := ?v_310) rfl (by kernel_rfl) (fun w K hK => ?h1_310) ?h2_310
      case h1_310 => go_simp; exact hK
      simp only [Act.put, List.setIfInBounds_toArray, List.set_cons_succ, List.set_cons_zero]
      refine wpSt_0 (v := ?v_311) (by kernel_rfl) hs0 rfl (by kernel_rfl) (fun K hK => ?h1_311) ?h2_311
      case h1_311 => go_simp; exact hK
      simp only [Act.put, List.setIfInBounds_toArray, List.set_cons_succ, List.set_cons_zero]
      refine wpSt_any (v := ?v_312) rfl (by kernel_rfl) (fun w K hK => ?h1_312) ?h2_312
      case h1_312 => go_simp; exact hK
      simp only [Act.put, List.setIfInBounds_toArray, List.set_cons_succ, List.set_cons_zero]
      refine wpSt_any (v := ?v_313) rfl (by kernel_rfl) (fun w K hK => ?h1_313) ?h2_313
      case h1_313 => go_simp; exact hK
      simp only [Act.put, List.setIfInBounds_toArray, List.set_cons_succ, List.set_cons_zero]
      refine wpSt_any (v := ?v_314) rfl (by kernel_rfl) (fun w K hK => ?h1_314) ?h2_314
      case h1_314 => go_simp; exact hK
      simp only [Act.put, List.setIfInBounds_toArray, List.set_cons_succ, List.set_cons_zero]
      refine wpSt_any (v := ?v_315) rfl (by kernel_rfl) (fun w K hK => ?h1_315) ?h2_315
      case h1_315 => go_simp; exact hK
      simp only [Act.put, List.setIfInBounds_toArray, List.set_cons_succ, List.set_cons_zero]
      refine wpSt_0 (v := ?v_316) (by kernel_rfl) hs0 rfl (by kernel_rfl) (fun K hK => ?h1_316) ?h2_316
      case h1_316 => go_simp; exact hK
      simp only [Act.put, List.setIfInBounds_toArray, List.set_cons_succ, List.set_cons_zero]
      refine wpSt_any (v := ?v_317) rfl (by kernel_rfl) (fun w K hK => ?h1_317) ?h2_317
      case h1_317 => go_simp; exact hK
      simp only [Act.put, List.setIfInBounds_toArray, List.set_cons_succ, List.set_cons_zero]
      refine wpSt_any (v := ?v_318) rfl (by kernel_rfl) (fun w K hK => ?h1_318) ?h2_318
      case h1_318 => go_simp; exact hK
      simp only [Act.put, List.setIfInBounds_toArray, List.set_cons_succ, List.set_cons_zero]
      refine wpSt_any (v := ?v_319) rfl (by kernel_rfl) (fun w K hK => ?h1_319) ?h2_319
      case h1_319 => go_simp; exact hK
      simp only [Act.put, List.setIfInBounds_toArray, List.set_cons_succ, List.set_cons_zero]
      refine wpSt_any (v := ?v_320) rfl (by kernel_rfl) (fun w K hK => ?h1_320) ?h2_320
      case h1_320 => go_simp; exact hK
      simp only [Act.put, List.setIfInBounds_toArray, List.set_cons_succ, List.set_cons_zero]
      refine wpSt_0 (v := ?v_321) (by kernel_rfl) hs0 rfl (by kernel_rfl) (fun K hK => ?h1_321) ?h2_321
      case h1_321 => go_simp; exact hK
      simp only [Act.put, List.setIfInBounds_toArray, List.set_cons_succ, List.set_cons_zero]
      refine wpSt_any (v := ?v_322) rfl (by kernel_rfl) (fun w K hK => ?h1_322) ?h2_322
      case h1_322 => go_simp; exact hK
      simp only [Act.put, List.setIfInBounds_toArray, List.set_cons_succ, List.set_cons_zero]
      refine wpSt_any (v := ?v_323) rfl (by kernel_rfl) (fun w K hK => ?h1_323) ?h2_323
      case h1_323 => go_simp; exact hK
      simp only [Act.put, List.setIfInBounds_toArray, List.set_cons_succ, List.set_cons_zero]
      refine wpSt_any (v := ?v_324) rfl (by kernel_rfl) (fun w K hK => ?h1_324) ?h2_324
      case h1_324 => go_simp; exact hK
      simp only [Act.put, List.setIfInBounds_toArray, List.set_cons_succ, List.set_cons_zero]
      refine wpSt_any (v := ?v_325) rfl (by kernel_rfl) (fun w K hK => ?h1_325) ?h2_325
      case h1_325 => go_simp; exact hK
      simp only [Act.put, List.setIfInBounds_toArray, List.set_cons_succ, List.set_cons_zero]
      refine wpSt_0 (v := ?v_326) (by kernel_rfl) hs0 rfl (by kernel_rfl) (fun K hK => ?h1_326) ?h2_326
      case h1_326 => go_simp; exact hK
      simp only [Act.put, List.setIfInBounds_toArray, List.set_cons_succ, List.set_cons_zero]
      refine wpSt_any (v := ?v_327) rfl (by kernel_rfl) (fun w K hK => ?h1_327) ?h2_327
      case h1_327 => go_simp; exact hK
      simp only [Act.put, List.setIfInBounds_toArray, List.set_cons_succ, List.set_cons_zero]
      refine wpSt_any (v := ?v_328) rfl (by kernel_rfl) (fun w K hK => ?h1_328) ?h2_328
      case h1_328 => go_simp; exact hK
      simp only [Act.put, List.setIfInBounds_toArray, List.set_cons_succ, List.set_cons_zero]
      refine wpSt_any (v := ?v_329) rfl (by kernel_rfl) (fun w K hK => ?h1_329) ?h2_329
      case h1_329 => go_simp; exact hK
      simp only [Act.put, List.setIfInBounds_toArray, List.set_cons_succ, List.set_cons_zero]
      refine wpSt_any (v := ?v_330) rfl (by kernel_rfl) (fun w K hK => ?h1_330) ?h2_330
      case h1_330 => go_simp; exact hK
      simp only [Act.put, List.setIfInBounds_toArray, List.set_cons_succ, List.set_cons_zero]
      refine wpSt_any (v := ?v_331) rfl (by kernel_rfl) (fun w K hK => ?h1_331) ?h2_331
      case h1_331 => go_simp; exact hK
      simp only [Act.put, List.setIfInBounds_toArray, List.set_cons_succ, List.set_cons_zero]
      refine wpSt_any (v := ?v_332) rfl (by kernel_rfl) (fun w K hK => ?h1_332) ?h2_332
      case h1_332 => go_simp; exact hK
      simp only [Act.put, List.setIfInBounds_toArray, List.set_cons_succ, List.set_cons_zero]
      refine wpSt_any (v := ?v_333) rfl (by kernel_rfl) (fun w K hK => ?h1_333) ?h2_333
      case h1_333 => go_simp; exact hK
      simp only [Act.put, List.setIfInBounds_toArray, List.set_cons_succ, List.set_cons_zero]
      refine wpSt_any (v := ?v_334) rfl (by kernel_rfl) (fun w K hK => ?h1_334) ?h2_334
      case h1_334 => go_simp; exact hK
      simp only [Act.put, List.setIfInBounds_toArray, List.set_cons_succ, List.set_cons_zero]
      refine wpSt_any (v := ?v_335) rfl (by kernel_rfl) (fun w K hK => ?h1_335) ?h2_335
      case h1_335 => go_simp; exact hK
      simp only [Act.put, List.setIfInBounds_toArray, List.set_cons_succ, List.set_cons_zero]
      refine wpSt_store rfl hs0 hs1 rfl (by kernel_rfl) ?h1_336 ?h2_336
      case h1_336 => rw [HW1.out]; go_simp
      refine wpSt_any (v := ?v_337) rfl (by kernel_rfl) (fun w K hK => ?h1_337) ?h2_337
      case h1_337 => go_simp; exact hK
      simp only [Act.put, List.setIfInBounds_toArray, List.set_cons_succ, List.set_cons_zero]
      refine wpSt_any (v := ?v_338) rfl (by kernel_rfl) (fun w K hK => ?h1_338) ?h2_338
      case h1_338 => go_simp; exact hK
      simp only [Act.put, List.setIfInBounds_toArray, List.set_cons_succ, List.set_cons_zero]
      refine wpSt_store rfl hs1 hs2 rfl (by kernel_rfl) ?h1_339 ?h2_339
      case h1_339 => rw [HW2.out]; go_simp
      refine wpSt_any (v := ?v_340) rfl (by kernel_rfl) (fun w K hK => ?h1_340) ?h2_340
      case h1_340 => go_simp; exact hK
      simp only [Act.put, List.setIfInBounds_toArray, List.set_cons_succ, List.set_cons_zero]
      refine wpSt_any (v := ?v_341) rfl (by kernel_rfl) (fun w K hK => ?h1_341) ?h2_341
      case h1_341 => go_simp; exact hK
      simp only [Act.put, List.setIfInBounds_toArray, List.set_cons_succ, List.set_cons_zero]
      refine wpSt_store rfl hs2 hs3 rfl (by kernel_rfl) ?h1_342 ?h2_342
      case h1_342 => rw [HW3.out]; go_simp
      refine wpSt_nil rfl ?_
      rw [show Ws [41, 44, 47].length = W3 from hs3]
      go_wp2
      go_end0
      exact ⟨rfl, HO.out, HF.out⟩
    · simp only [Bool.true_or, Bool.false_or, Bool.or_true, Bool.or_false] at hW1 hW2 hW3
      have HW1 := Lib.hid hW1
      have HW2 := Lib.hid hW2
      have HW3 := Lib.hid hW3
      clear hW1 hW2 hW3
      go_wp2
      refine wp_region_stores [41, 44, 47] Ws (by kernel_rfl) (by kernel_rfl) hs0 ?_
      refine wpSt_any (v := ?v_344) rfl (by kernel_rfl) (fun w K hK => ?h1_344) ?h2_344
      case h1_344 => go_simp; exact hK
      simp only [Act.put, List.setIfInBounds_toArray, List.set_cons_succ, List.set_cons_zero]
      refine wpSt_any (v := ?v_345) rfl (by kernel_rfl) (fun w K hK => ?h1_345) ?h2_345
      case h1_345 => go_simp; exact hK
      simp only [Act.put, List.setIfInBounds_toArray, List.set_cons_succ, List.set_cons_zero]
      refine wpSt_any (v := ?v_346) rfl (by kernel_rfl) (fun w K hK => ?h1_346) ?h2_346
      case h1_346 => go_simp; exact hK
      simp only [Act.put, List.setIfInBounds_toArray, List.set_cons_succ, List.set_cons_zero]
      refine wpSt_any (v := ?v_347) rfl (by kernel_rfl) (fun w K hK => ?h1_347) ?h2_347
      case h1_347 => go_simp; exact hK
      simp only [Act.put, List.setIfInBounds_toArray, List.set_cons_succ, List.set_cons_zero]
      refine wpSt_any (v := ?v_348) rfl (by kernel_rfl) (fun w K hK => ?h1_348) ?h2_348
      case h1_348 => go_simp; exact hK
      simp only [Act.put, List.setIfInBounds_toArray, List.set_cons_succ, List.set_cons_zero]
      refine wpSt_any (v := ?v_349) rfl (by kernel_rfl) (fun w K hK => ?h1_349) ?h2_349
      case h1_349 => go_simp; exact hK
      simp only [Act.put, List.setIfInBounds_toArray, List.set_cons_succ, List.set_cons_zero]
      refine wpSt_0 (v := ?v_350) (by kernel_rfl) hs0 rfl (by kernel_rfl) (fun K hK => ?h1_350) ?h2_350
      case h1_350 => go_simp; exact hK
      simp only [Act.put, List.setIfInBounds_toArray, List.set_cons_succ, List.set_cons_zero]
      refine wpSt_any (v := ?v_351) rfl (by kernel_rfl) (fun w K hK => ?h1_351) ?h2_351
      case h1_351 => go_simp; exact hK
      simp only [Act.put, List.setIfInBounds_toArray, List.set_cons_succ, List.set_cons_zero]
      refine wpSt_off rfl (by kernel_rfl) ?_
      simp only [Act.put, List.setIfInBounds_toArray, List.set_cons_succ, List.set_cons_zero]
      refine wpSt_off rfl (by kernel_rfl) ?_
      simp only [Act.put, List.setIfInBounds_toArray, List.set_cons_succ, List.set_cons_zero]
      refine wpSt_off rfl (by kernel_rfl) ?_
      simp only [Act.put, List.setIfInBounds_toArray, List.set_cons_succ, List.set_cons_zero]
      refine wpSt_off rfl (by kernel_rfl) ?_
      simp only [Act.put, List.setIfInBounds_toArray, List.set_cons_succ, List.set_cons_zero]
      refine wpSt_any (v := ?v_356) rfl (by kernel_rfl) (fun w K hK => ?h1_356) ?h2_356
      case h1_356 => go_simp; exact hK
      simp only [Act.put, List.setIfInBounds_toArray, List.set_cons_succ, List.set_cons_zero]
      refine wpSt_any (v := ?v_357) rfl (by kernel_rfl) (fun w K hK => ?h1_357) ?h2_357
      case h1_357 => go_simp; exact hK
      simp only [Act.put, List.setIfInBounds_toArray, List.set_cons_succ, List.set_cons_zero]
      refine wpSt_any (v := ?v_358) rfl (by kernel_rfl) (fun w K hK => ?h1_358) ?h2_358
      case h1_358 => go_simp; exact hK
      simp only [Act.put, List.setIfInBounds_toArray, List.set_cons_succ, List.set_cons_zero]
      refine wpSt_any (v := ?v_359) rfl (by kernel_rfl) (fun w K hK => ?h1_359) ?h2_359
      case h1_359 => go_simp; exact hK
      simp only [Act.put, List.setIfInBounds_toArray, List.set_cons_succ, List.set_cons_zero]
      refine wpSt_0 (v := ?v_360) (by kernel_rfl) hs0 rfl (by kernel_rfl) (fun K hK => ?h1_360) ?h2_360
      case h1_360 => go_simp; exact hK
      simp only [Act.put, List.setIfInBounds_toArray, List.set_cons_succ, List.set_cons_zero]
      refine wpSt_any (v := ?v_361) rfl (by kernel_rfl) (fun w K hK => ?h1_361) ?h2_361
      case h1_361 => go_simp; exact hK
      simp only [Act.put, List.setIfInBounds_toArray, List.set_cons_succ, List.set_cons_zero]
      refine wpSt_any (v := ?v_362) rfl (by kernel_rfl) (fun w K hK => ?h1_362) ?h2_362
      case h1_362 => go_simp; exact hK
      simp only [Act.put, List.setIfInBounds_toArray, List.set_cons_succ, List.set_cons_zero]
      refine wpSt_any (v := ?v_363) rfl (by kernel_rfl) (fun w K hK => ?h1_363) ?h2_363
      case h1_363 => go_simp; exact hK
      simp only [Act.put, List.setIfInBounds_toArray, List.set_cons_succ, List.set_cons_zero]
      refine wpSt_any (v := ?v_364) rfl (by kernel_rfl) (fun w K hK => ?h1_364) ?h2_364
      case h1_364 => go_simp; exact hK
      simp only [Act.put, List.setIfInBounds_toArray, List.set_cons_succ, List.set_cons_zero]
      refine wpSt_0 (v := ?v_365) (by kernel_rfl) hs0 rfl (by kernel_rfl) (fun K hK => ?h1_365) ?h2_365
      case h1_365 => go_simp; exact hK
      simp only [Act.put, List.setIfInBounds_toArray, List.set_cons_succ, List.set_cons_zero]
      refine wpSt_any (v := ?v_366) rfl (by kernel_rfl) (fun w K hK => ?h1_366) ?h2_366
      case h1_366 => go_simp; exact hK
      simp only [Act.put, List.setIfInBounds_toArray, List.set_cons_succ, List.set_cons_zero]
      refine wpSt_any (v := ?v_367) rfl (by kernel_rfl) (fun w K hK => ?h1_367) ?h2_367
      case h1_367 => go_simp; exact hK
      simp only [Act.put, List.setIfInBounds_toArray, List.set_cons_succ, List.set_cons_zero]
      refine wpSt_any (v := ?v_368) rfl (by kernel_rfl) (fun w K hK => ?h1_368) ?h2_368
      case h1_368 => go_simp; exact hK
      simp only [Act.put, List.setIfInBounds_toArray, List.set_cons_succ, List.set_cons_zero]
      refine wpSt_any (v := ?v_369) rfl (by kernel_rfl) (fun w K hK => ?h1_369) ?h2_369
      case h1_369 => go_simp; exact hK
      simp only [Act.put, List.setIfInBounds_toArray, List.set_cons_succ, List.set_cons_zero]
      refine wpSt_0 (v := ?v_370) (by kernel_rfl) hs0 rfl (by kernel_rfl) (fun K hK => ?h1_370) ?h2_370
      case h1_370 => go_simp; exact hK
      simp only [Act.put, List.setIfInBounds_toArray, List.set_cons_succ, List.set_cons_zero]
      refine wpSt_any (v := ?v_371) rfl (by kernel_rfl) (fun w K hK => ?h1_371) ?h2_371
      case h1_371 => go_simp; exact hK
      simp only [Act.put, List.setIfInBounds_toArray, List.set_cons_succ, List.set_cons_zero]
      refine wpSt_any (v := ?v_372) rfl (by kernel_rfl) (fun w K hK => ?h1_372) ?h2_372
      case h1_372 => go_simp; exact hK
      simp only [Act.put, List.setIfInBounds_toArray, List.set_cons_succ, List.set_cons_zero]
      refine wpSt_any (v := ?v_373) rfl (by kernel_rfl) (fun w K hK => ?h1_373) ?h2_373
      case h1_373 => go_simp; exact hK
      simp only [Act.put, List.setIfInBounds_toArray, List.set_cons_succ, List.set_cons_zero]
      refine wpSt_any (v := ?v_374) rfl (by kernel_rfl) (fun w K hK => ?h1_374) ?h2_374
      case h1_374 => go_simp; exact hK
      simp only [Act.put, List.setIfInBounds_toArray, List.set_cons_succ, List.set_cons_zero]
      refine wpSt_0 (v := ?v_375) (by kernel_rfl) hs0 rfl (by kernel_rfl) (fun K hK => ?h1_375) ?h2_375
      case h1_375 => go_simp; exact hK
      simp only [Act.put, List.setIfInBounds_toArray, List.set_cons_succ, List.set_cons_zero]
      refine wpSt_any (v := ?v_376) rfl (by kernel_rfl) (fun w K hK => ?h1_376) ?h2_376
      case h1_376 => go_simp; exact hK
      simp only [Act.put, List.setIfInBounds_toArray, List.set_cons_succ, List.set_cons_zero]
      refine wpSt_any (v := ?v_377) rfl (by kernel_rfl) (fun w K hK => ?h1_377) ?h2_377
      case h1_377 => go_simp; exact hK
      simp only [Act.put, List.setIfInBounds_toArray, List.set_cons_succ, List.set_cons_zero]
      refine wpSt_off rfl (by kernel_rfl) ?_
      simp only [Act.put, List.setIfInBounds_toArray, List.set_cons_succ, List.set_cons_zero]
      refine wpSt_off rfl (by kernel_rfl) ?_
      simp only [Act.put, List.setIfInBounds_toArray, List.set_cons_succ, List.set_cons_zero]
      refine wpSt_off rfl (by kernel_rfl) ?_
      simp only [Act.put, List.setIfInBounds_toArray, List.set_cons_succ, List.set_cons_zero]
      refine wpSt_off rfl (by kernel_rfl) ?_
      simp only [Act.put, List.setIfInBounds_toArray, List.set_cons_succ, List.set_cons_zero]
      refine wpSt_any (v := ?v_382) rfl (by kernel_rfl) (fun w K hK => ?h1_382) ?h2_382
      case h1_382 => go_simp; exact hK
      simp only [Act.put, List.setIfInBounds_toArray, List.set_cons_succ, List.set_cons_zero]
      refine wpSt_any (v := ?v_383) rfl (by kernel_rfl) (fun w K hK => ?h1_383) ?h2_383
      case h1_383 => go_simp; exact hK
      simp only [Act.put, List.setIfInBounds_toArray, List.set_cons_succ, List.set_cons_zero]
      refine wpSt_any (v := ?v_384) rfl (by kernel_rfl) (fun w K hK => ?h1_384) ?h2_384
      case h1_384 => go_simp; exact hK
      simp only [Act.put, List.setIfInBounds_toArray, List.set_cons_succ, List.set_cons_zero]
      refine wpSt_store rfl hs0 hs1 rfl (by kernel_rfl) ?h1_385 ?h2_385
      case h1_385 => rw [HW1.out]; go_simp
      refine wpSt_any (v := ?v_386) rfl (by kernel_rfl) (fun w K hK => ?h1_386) ?h2_386
      case h1_386 => go_simp; exact hK
      simp only [Act.put, List.setIfInBounds_toArray, List.set_cons_succ, List.set_cons_zero]
      refine wpSt_any (v := ?v_387) rfl (by kernel_rfl) (fun w K hK => ?h1_387) ?h2_387
      case h1_387 => go_simp; exact hK
      simp only [Act.put, List.setIfInBounds_toArray, List.set_cons_succ, List.set_cons_zero]
      refine wpSt_store rfl hs1 hs2 rfl (by kernel_rfl) ?h1_388 ?h2_388
      case h1_388 => rw [HW2.out]; go_simp
      refine wpSt_any (v := ?v_389) rfl (by kernel_rfl) (fun w K hK => ?h1_389) ?h2_389
      case h1_389 => go_simp; exact hK
      simp only [Act.put, List.setIfInBounds_toArray, List.set_cons_succ, List.set_cons_zero]
      refine wpSt_any (v := ?v_390) rfl (by kernel_rfl) (fun w K hK => ?h1_390) ?h2_390
      case h1_390 => go_simp; exact hK
      simp only [Act.put, List.setIfInBounds_toArray, List.set_cons_succ, List.set_cons_zero]
      refine wpSt_store rfl hs2 hs3 rfl (by kernel_rfl) ?h1_391 ?h2_391
      case h1_391 => rw [HW3.out]; go_simp
      refine wpSt_nil rfl ?_
      rw [show Ws [41, 44, 47].length = W3 from hs3]
      go_wp2
      go_end0
      exact ⟨rfl, HO.out, HF.out⟩
  · simp only [Bool.true_or, Bool.false_or, Bool.or_true, Bool.or_false] at hW1 hW2 hW3
    have HW1 := Lib.hid hW1
    have HW2 := Lib.hid hW2
    have HW3 := Lib.hid hW3
    clear hW1 hW2 hW3
    go_wp2
    refine wp_region_stores [41, 44, 47] Ws (by kernel_rfl) (by kernel_rfl) hs0 ?_
    refine wpSt_any (v := ?v_393) rfl (by kernel_rfl) (fun w K hK => ?h1_393) ?h2_393
    case h1_393 => go_simp; exact hK
    simp only [Act.put, List.setIfInBounds_toArray, List.set_cons_succ, List.set_cons_zero]
    refine wpSt_any (v := ?v_394) rfl (by kernel_rfl) (fun w K hK => ?h1_394) ?h2_394
    case h1_394 => go_simp; exact hK
    simp only [Act.put, List.setIfInBounds_toArray, List.set_cons_succ, List.set_cons_zero]
    refine wpSt_any (v := ?v_395) rfl (by kernel_rfl) (fun w K hK => ?h1_395) ?h2_395
    case h1_395 => go_simp; exact hK
    simp only [Act.put, List.setIfInBounds_toArray, List.set_cons_succ, List.set_cons_zero]
    refine wpSt_any (v := ?v_396) rfl (by kernel_rfl) (fun w K hK => ?h1_396) ?h2_396
    case h1_396 => go_simp; exact hK
    simp only [Act.put, List.setIfInBounds_toArray, List.set_cons_succ, List.set_cons_zero]
    refine wpSt_any (v := ?v_397) rfl (by kernel_rfl) (fun w K hK => ?h1_397) ?h2_397
    case h1_397 => go_simp; exact hK
    simp only [Act.put, List.setIfInBounds_toArray, List.set_cons_succ, List.set_cons_zero]
    refine wpSt_any (v := ?v_398) rfl (by kernel_rfl) (fun w K hK => ?h1_398) ?h2_398
    case h1_398 => go_simp; exact hK
    simp only [Act.put, List.setIfInBounds_toArray, List.set_cons_succ, List.set_cons_zero]
    refine wpSt_0 (v := ?v_399) (by kernel_rfl) hs0 rfl (by kernel_rfl) (fun K hK => ?h1_399) ?h2_399
    case h1_399 => go_simp; exact hK
    simp only [Act.put, List.setIfInBounds_toArray, List.set_cons_succ, List.set_cons_zero]
    refine wpSt_any (v := ?v_400) rfl (by kernel_rfl) (fun w K hK => ?h1_400) ?h2_400
    case h1_400 => go_simp; exact hK
    simp only [Act.put, List.setIfInBounds_toArray, List.set_cons_succ, List.set_cons_zero]
    refine wpSt_off rfl (by kernel_rfl) ?_
    simp only [Act.put, List.setIfInBounds_toArray, List.set_cons_succ, List.set_cons_zero]
    refine wpSt_off rfl (by kernel_rfl) ?_
    simp only [Act.put, List.setIfInBounds_toArray, List.set_cons_succ, List.set_cons_zero]
    refine wpSt_off rfl (by kernel_rfl) ?_
    simp only [Act.put, List.setIfInBounds_toArray, List.set_cons_succ, List.set_cons_zero]
    refine wpSt_off rfl (by kernel_rfl) ?_
    simp only [Act.put, List.setIfInBounds_toArray, List.set_cons_succ, List.set_cons_zero]
    refine wpSt_any (v := ?v_405) rfl (by kernel_rfl) (fun w K hK => ?h1_405) ?h2_405
    case h1_405 => go_simp; exact hK
    simp only [Act.put, List.setIfInBounds_toArray, List.set_cons_succ, List.set_cons_zero]
    refine wpSt_any (v := ?v_406) rfl (by kernel_rfl) (fun w K hK => ?h1_406) ?h2_406
    case h1_406 => go_simp; exact hK
    simp only [Act.put, List.setIfInBounds_toArray, List.set_cons_succ, List.set_cons_zero]
    refine wpSt_any (v := ?v_407) rfl (by kernel_rfl) (fun w K hK => ?h1_407) ?h2_407
    case h1_407 => go_simp; exact hK
    simp only [Act.put, List.setIfInBounds_toArray, List.set_cons_succ, List.set_cons_zero]
    refine wpSt_any (v := ?v_408) rfl (by kernel_rfl) (fun w K hK => ?h1_408) ?h2_408
    case h1_408 => go_simp; exact hK
    simp only [Act.put, List.setIfInBounds_toArray, List.set_cons_succ, List.set_cons_zero]
    refine wpSt_0 (v := ?v_409) (by kernel_rfl) hs0 rfl (by kernel_rfl) (fun K hK => ?h1_409) ?h2_409
    case h1_409 => go_simp; exact hK
    simp only [Act.put, List.setIfInBounds_toArray, List.set_cons_succ, List.set_cons_zero]
    refine wpSt_any (v := ?v_410) rfl (by kernel_rfl) (fun w K hK => ?h1_410) ?h2_410
    case h1_410 => go_simp; exact hK
    simp only [Act.put, List.setIfInBounds_toArray, List.set_cons_succ, List.set_cons_zero]
    refine wpSt_any (v := ?v_411) rfl (by kernel_rfl) (fun w K hK => ?h1_411) ?h2_411
    case h1_411 => go_simp; exact hK
    simp only [Act.put, List.setIfInBounds_toArray, List.set_cons_succ, List.set_cons_zero]
    refine wpSt_any (v := ?v_412) rfl (by kernel_rfl) (fun w K hK => ?h1_412) ?h2_412
    case h1_412 => go_simp; exact hK
    simp only [Act.put, List.setIfInBounds_toArray, List.set_cons_succ, List.set_cons_zero]
    refine wpSt_any (v := ?v_413) rfl (by kernel_rfl) (fun w K hK => ?h1_413) ?h2_413
    case h1_413 => go_simp; exact hK
    simp only [Act.put, List.setIfInBounds_toArray, List.set_cons_succ, List.set_cons_zero]
    refine wpSt_0 (v := ?v_414) (by kernel_rfl) hs0 rfl (by kernel_rfl) (fun K hK => ?h1_414) ?h2_414
    case h1_414 => go_simp; exact hK
    simp only [Act.put, List.setIfInBounds_toArray, List.set_cons_succ, List.set_cons_zero]
    refine wpSt_any (v := ?v_415) rfl (by kernel_rfl) (fun w K hK => ?h1_415) ?h2_415
    case h1_415 => go_simp; exact hK
    simp only [Act.put, List.setIfInBounds_toArray, List.set_cons_succ, List.set_cons_zero]
    refine wpSt_any (v := ?v_416) rfl (by kernel_rfl) (fun w K hK => ?h1_416) ?h2_416
    case h1_416 => go_simp; exact hK
    simp only [Act.put, List.setIfInBounds_toArray, List.set_cons_succ, List.set_cons_zero]
    refine wpSt_any (v := ?v_417) rfl (by kernel_rfl) (fun w K hK => ?h1_417) ?h2_417
    case h1_417 => go_simp; exact hK
    simp only [Act.put, List.setIfInBounds_toArray, List.set_cons_succ, List.set_cons_zero]
    refine wpSt_any (v := ?v_418) rfl (by kernel_rfl) (fun w K hK => ?h1_418) ?h2_418
    case h1_418 => go_simp; exact hK
    simp only [Act.put, List.setIfInBounds_toArray, List.set_cons_succ, List.set_cons_zero]
    refine wpSt_0 (v := ?v_419) (by kernel_rfl) hs0 rfl (by kernel_rfl) (fun K hK => ?h1_419) ?h2_419
    case h1_419 => go_simp; exact hK
    simp only [Act.put, List.setIfInBounds_toArray, List.set_cons_succ, List.set_cons_zero]
    refine wpSt_any (v := ?v_420) rfl (by kernel_rfl) (fun w K hK => ?h1_420) ?h2_420
    case h1_420 => go_simp; exact hK
    simp only [Act.put, List.setIfInBounds_toArray, List.set_cons_succ, List.set_cons_zero]
    refine wpSt_off rfl (by kernel_rfl) ?_
    simp only [Act.put, List.setIfInBounds_toArray, List.set_cons_succ, List.set_cons_zero]
    refine wpSt_off rfl (by kernel_rfl) ?_
    simp only [Act.put, List.setIfInBounds_toArray, List.set_cons_succ, List.set_cons_zero]
    refine wpSt_off rfl (by kernel_rfl) ?_
    simp only [Act.put, List.setIfInBounds_toArray, List.set_cons_succ, List.set_cons_zero]
    refine wpSt_off rfl (by kernel_rfl) ?_
    simp only [Act.put, List.setIfInBounds_toArray, List.set_cons_succ, List.set_cons_zero]
    refine wpSt_any (v := ?v_425) rfl (by kernel_rfl) (fun w K hK => ?h1_425) ?h2_425
    case h1_425 => go_simp; exact hK
    simp only [Act.put, List.setIfInBounds_toArray, List.set_cons_succ, List.set_cons_zero]
    refine wpSt_any (v := ?v_426) rfl (by kernel_rfl) (fun w K hK => ?h1_426) ?h2_426
    case h1_426 => go_simp; exact hK
    simp only [Act.put, List.setIfInBounds_toArray, List.set_cons_succ, List.set_cons_zero]
    refine wpSt_off rfl (by kernel_rfl) ?_
    simp only [Act.put, List.setIfInBounds_toArray, List.set_cons_succ, List.set_cons_zero]
    refine wpSt_off rfl (by kernel_rfl) ?_
    simp only [Act.put, List.setIfInBounds_toArray, List.set_cons_succ, List.set_cons_zero]
    refine wpSt_off rfl (by kernel_rfl) ?_
    simp only [Act.put, List.setIfInBounds_toArray, List.set_cons_succ, List.set_cons_zero]
    refine wpSt_off rfl (by kernel_rfl) ?_
    simp only [Act.put, List.setIfInBounds_toArray, List.set_cons_succ, List.set_cons_zero]
    refine wpSt_any (v := ?v_431) rfl (by kernel_rfl) (fun w K hK => ?h1_431) ?h2_431
    case h1_431 => go_simp; exact hK
    simp only [Act.put, List.setIfInBounds_toArray, List.set_cons_succ, List.set_cons_zero]
    refine wpSt_any (v := ?v_432) rfl (by kernel_rfl) (fun w K hK => ?h1_432) ?h2_432
    case h1_432 => go_simp; exact hK
    simp only [Act.put, List.setIfInBounds_toArray, List.set_cons_succ, List.set_cons_zero]
    refine wpSt_any (v := ?v_433) rfl (by kernel_rfl) (fun w K hK => ?h1_433) ?h2_433
    case h1_433 => go_simp; exact hK
    simp only [Act.put, List.setIfInBounds_toArray, List.set_cons_succ, List.set_cons_zero]
    refine wpSt_store rfl hs0 hs1 rfl (by kernel_rfl) ?h1_434 ?h2_434
    case h1_434 => rw [HW1.out]; go_simp
    refine wpSt_any (v := ?v_435) rfl (by kernel_rfl) (fun w K hK => ?h1_435) ?h2_435
    case h1_435 => go_simp; exact hK
    simp only [Act.put, List.setIfInBounds_toArray, List.set_cons_succ, List.set_cons_zero]
    refine wpSt_any (v := ?v_436) rfl (by kernel_rfl) (fun w K hK => ?h1_436) ?h2_436
    case h1_436 => go_simp; exact hK
    simp only [Act.put, List.setIfInBounds_toArray, List.set_cons_succ, List.set_cons_zero]
    refine wpSt_store rfl hs1 hs2 rfl (by kernel_rfl) ?h1_437 ?h2_437
    case h1_437 => rw [HW2.out]; go_simp
    refine wpSt_any (v := ?v_438) rfl (by kernel_rfl) (fun w K hK => ?h1_438) ?h2_438
    case h1_438 => go_simp; exact hK
    simp only [Act.put, List.setIfInBounds_toArray, List.set_cons_succ, List.set_cons_zero]
    refine wpSt_any (v := ?v_439) rfl (by kernel_rfl) (fun w K hK => ?h1_439) ?h2_439
    case h1_439 => go_simp; exact hK
    simp only [Act.put, List.setIfInBounds_toArray, List.set_cons_succ, List.set_cons_zero]
    refine wpSt_store rfl hs2 hs3 rfl (by kernel_rfl) ?h1_440 ?h2_440
    case h1_440 => rw [HW3.out]; go_simp
    refine wpSt_nil rfl ?_
    rw [show Ws [41, 44, 47].length = W3 from hs3]
    go_wp2
    go_end0
    exact ⟨rfl, HO.out, HF.out⟩
  · cases io
    · simp only [Bool.true_or, Bool.false_or, Bool.or_true, Bool.or_false] at hW1 hW2 hW3
      have HW1 := Lib.hid hW1
      have HW2 := Lib.hid hW2
      have HW3 := Lib.hid hW3
      clear hW1 hW2 hW3
      go_wp2
      refine wp_region_stores [41, 44, 47] Ws (by kernel_rfl) (by kernel_rfl) hs0 ?_
      refine wpSt_any (v := ?v_442) rfl (by kernel_rfl) (fun w K hK => ?h1_442) ?h2_442
      case h1_442 => go_simp; exact hK
      simp only [Act.put, List.setIfInBounds_toArray, List.set_cons_succ, List.set_cons_zero]
      refine wpSt_any (v := ?v_443) rfl (by kernel_rfl) (fun w K hK => ?h1_443) ?h2_443
      case h1_443 => go_simp; exact hK
      simp only [Act.put, List.setIfInBounds_toArray, List.set_cons_succ, List.set_cons_zero]
      refine wpSt_any (v := ?v_444) rfl (by kernel_rfl) (fun w K hK => ?h1_444) ?h2_444
      case h1_444 => go_simp; exact hK
      simp only [Act.put, List.setIfInBounds_toArray, List.set_cons_succ, List.set_cons_zero]
      refine wpSt_any (v := ?v_445) rfl (by kernel_rfl) (fun w K hK => ?h1_445) ?h2_445
      case h1_445 => go_simp; exact hK
      simp only [Act.put, List.setIfInBounds_toArray, List.set_cons_succ, List.set_cons_zero]
      refine wpSt_any (v := ?v_446) rfl (by kernel_rfl) (fun w K hK => ?h1_446) ?h2_446
      case h1_446 => go_simp; exact hK
      simp only [Act.put, List.setIfInBounds_toArray, List.set_cons_succ, List.set_cons_zero]
      refine wpSt_any (v := ?v_447) rfl (by kernel_rfl) (fun w K hK => ?h1_447) ?h2_447
      case h1_447 => go_simp; exact hK
      simp only [Act.put, List.setIfInBounds_toArray, List.set_cons_succ, List.set_cons_zero]
      refine wpSt_0 (v := ?v_448) (by kernel_rfl) hs0 rfl (by kernel_rfl) (fun K hK => ?h1_448) ?h2_448
      case h1_448 => go_simp; exact hK
      simp only [Act.put, List.setIfInBounds_toArray, List.set_cons_succ, List.set_cons_zero]
      refine wpSt_any (v := ?v_449) rfl (by kernel_rfl) (fun w K hK => ?h1_449) ?h2_449
      case h1_449 => go_simp; exact hK
      simp only [Act.put, List.setIfInBounds_toArray, List.set_cons_succ, List.set_cons_zero]
      refine wpSt_off rfl (by kernel_rfl) ?_
      simp only [Act.put, List.setIfInBounds_toArray, List.set_cons_succ, List.set_cons_zero]
      refine wpSt_off rfl (by kernel_rfl) ?_
      simp only [Act.put, List.setIfInBounds_toArray, List.set_cons_succ, List.set_cons_zero]
      refine wpSt_off rfl (by kernel_rfl) ?_
      simp only [Act.put, List.setIfInBounds_toArray, List.set_cons_succ, List.set_cons_zero]
      refine wpSt_off rfl (by kernel_rfl) ?_
      simp only [Act.put, List.setIfInBounds_toArray, List.set_cons_succ, List.set_cons_zero]
      refine wpSt_any (v := ?v_454) rfl (by kernel_rfl) (fun w K hK => ?h1_454) ?h2_454
      case h1_454 => go_simp; exact hK
      simp only [Act.put, List.setIfInBounds_toArray, List.set_cons_succ, List.set_cons_zero]
      refine wpSt_any (v := ?v_455) rfl (by kernel_rfl) (fun w K hK => ?h1_455) ?h2_455
      case h1_455 => go_simp; exact hK
      simp only [Act.put, List.setIfInBounds_toArray, List.set_cons_succ, List.set_cons_zero]
      refine wpSt_any (v := ?v_456) rfl (by kernel_rfl) (fun w K hK => ?h1_456) ?h2_456
      case h1_456 => go_simp; exact hK
      simp only [Act.put, List.setIfInBounds_toArray, List.set_cons_succ, List.set_cons_zero]
      refine wpSt_any (v := ?v_457) rfl (by kernel_rfl) (fun w K hK => ?h1_457) ?h2_457
      case h1_457 => go_simp; exact hK
      simp only [Act.put, List.setIfInBounds_toArray, List.set_cons_succ, List.set_cons_zero]
      refine wpSt_0 (v := ?v_458) (by kernel_rfl) hs0 rfl (by kernel_rfl) (fun K hK => ?h1_458) ?h2_458
      case h1_458 => go_simp; exact hK
      simp only [Act.put, List.setIfInBounds_toArray, List.set_cons_succ, List.set_cons_zero]
      refine wpSt_any (v := ?v_459) rfl (by kernel_rfl) (fun w K hK => ?h1_459) ?h2_459
      case h1_459 => go_simp; exact hK
      simp only [Act.put, List.setIfInBounds_toArray, List.set_cons_succ, List.set_cons_zero]
      refine wpSt_off rfl (by kernel_rfl) ?_
      simp only [Act.put, List.setIfInBounds_toArray, List.set_cons_succ, List.set_cons_zero]
      refine wpSt_off rfl (by kernel_rfl) ?_
      simp only [Act.put, List.setIfInBounds_toArray, List.set_cons_succ, List.set_cons_zero]
      refine wpSt_off rfl (by kernel_rfl) ?_
      simp only [Act.put, List.setIfInBounds_toArray, List.set_cons_succ, List.set_cons_zero]
      refine wpSt_off rfl (by kernel_rfl) ?_
      simp only [Act.put, List.setIfInBounds_toArray, List.set_cons_succ, List.set_cons_zero]
      refine wpSt_any (v := ?v_464) rfl (by kernel_rfl) (fun w K hK => ?h1_464) ?h2_464
      case h1_464 => go_simp; exact hK
      simp only [Act.put, List.setIfInBounds_toArray, List.set_cons_succ, List.set_cons_zero]
      refine wpSt_any (v := ?v_465) rfl (by kernel_rfl) (fun w K hK => ?h1_465) ?h2_465
      case h1_465 => go_simp; exact hK
      simp only [Act.put, List.setIfInBounds_toArray, List.set_cons_succ, List.set_cons_zero]
      refine wpSt_any (v := ?v_466) rfl (by kernel_rfl) (fun w K hK => ?h1_466) ?h2_466
      case h1_466 => go_simp; exact hK
      simp only [Act.put, List.setIfInBounds_toArray, List.set_cons_succ, List.set_cons_zero]
      refine wpSt_any (v := ?v_467) rfl (by kernel_rfl) (fun w K hK => ?h1_467) ?h2_467
      case h1_467 => go_simp; exact hK
      simp only [Act.put, List.setIfInBounds_toArray, List.set_cons_succ, List.set_cons_zero]
      refine wpSt_0 (v := ?v_468) (by kernel_rfl) hs0 rfl (by kernel_rfl) (fun K hK => ?h1_468) ?h2_468
      case h1_468 => go_simp; exact hK
      simp only [Act.put, List.setIfInBounds_toArray, List.set_cons_succ, List.set_cons_zero]
      refine wpSt_any (v := ?v_469) rfl (by kernel_rfl) (fun w K hK => ?h1_469) ?h2_469
      case h1_469 => go_simp; exact hK
      simp only [Act.put, List.setIfInBounds_toArray, List.set_cons_succ, List.set_cons_zero]
      refine wpSt_any (v := ?v_470) rfl (by kernel_rfl) (fun w K hK => ?h1_470) ?h2_470
      case h1_470 => go_simp; exact hK
      simp only [Act.put, List.setIfInBounds_toArray, List.set_cons_succ, List.set_cons_zero]
      refine wpSt_any (v := ?v_471) rfl (by kernel_rfl) (fun w K hK => ?h1_471) ?h2_471
      case h1_471 => go_simp; exact hK
      simp only [Act.put, List.setIfInBounds_toArray, List.set_cons_succ, List.set_cons_zero]
      refine wpSt_any (v := ?v_472) rfl (by kernel_rfl) (fun w K hK => ?h1_472) ?h2_472
      case h1_472 => go_simp; exact hK
      simp only [Act.put, List.setIfInBounds_toArray, List.set_cons_succ, List.set_cons_zero]
      refine wpSt_0 (v := ?v_473) (by kernel_rfl) hs0 rfl (by kernel_rfl) (fun K hK => ?h1_473) ?h2_473
      case h1_473 => go_simp; exact hK
      simp only [Act.put, List.setIfInBounds_toArray, List.set_cons_succ, List.set_cons_zero]
      refine wpSt_any (v := ?v_474) rfl (by kernel_rfl) (fun w K hK => ?h1_474) ?h2_474
      case h1_474 => go_simp; exact hK
      simp only [Act.put, List.setIfInBounds_toArray, List.set_cons_succ, List.set_cons_zero]
      refine wpSt_any (v := ?v_475) rfl (by kernel_rfl) (fun w K hK => ?h1_475) ?h2_475
      case h1_475 => go_simp; exact hK
      simp only [Act.put, List.setIfInBounds_toArray, List.set_cons_succ, List.set_cons_zero]
      refine wpSt_any (v := ?v_476) rfl (by kernel_rfl) (fun w K hK => ?h1_476) ?h2_476
      case h1_476 => go_simp; exact hK
      simp only [Act.put, List.setIfInBounds_toArray, List.set_cons_succ, List.set_cons_zero]
      refine wpSt_any (v := ?v_477) rfl (by kernel_rfl) (fun w K hK => ?h1_477) ?h2_477
      case h1_477 => go_simp; exact hK
      simp only [Act.put, List.setIfInBounds_toArray, List.set_cons_succ, List.set_cons_zero]
      refine wpSt_any (v := ?v_478) rfl (by kernel_rfl) (fun w K hK => ?h1_478) ?h2_478
      case h1_478 => go_simp; exact hK
      simp only [Act.put, List.setIfInBounds_toArray, List.set_cons_succ, List.set_cons_zero]
      refine wpSt_any (v := ?v_479) rfl (by kernel_rfl) (fun w K hK => ?h1_479) ?h2_479
      case h1_479 => go_simp; exact hK
      simp only [Act.put, List.setIfInBounds_toArray, List.set_cons_succ, List.set_cons_zero]
      refine wpSt_any (v := ?v_480) rfl (by kernel_rfl) (fun w K hK => ?h1_480) ?h2_480
      case h1_480 => go_simp; exact hK
      simp only [Act.put, List.setIfInBounds_toArray, List.set_cons_succ, List.set_cons_zero]
      refine wpSt_any (v := ?v_481) rfl (by kernel_rfl) (fun w K hK => ?h1_481) ?h2_481
      case h1_481 => go_simp; exact hK
      simp only [Act.put, List.setIfInBounds_toArray, List.set_cons_succ, List.set_cons_zero]
      refine wpSt_any (v := ?v_482) rfl (by kernel_rfl) (fun w K hK => ?h1_482) ?h2_482
      case h1_482 => go_simp; exact hK
      simp only [Act.put, List.setIfInBounds_toArray, List.set_cons_succ, List.set_cons_zero]
      refine wpSt_store rfl hs0 hs1 rfl (by kernel_rfl) ?h1_483 ?h2_483
      case h1_483 => rw [HW1.out]; go_simp
      refine wpSt_any (v := ?v_484) rfl (by kernel_rfl) (fun w K hK => ?h1_484) ?h2_484
      case h1_484 => go_simp; exact hK
      simp only [Act.put, List.setIfInBounds_toArray, List.set_cons_succ, List.set_cons_zero]
      refine wpSt_any (v := ?v_485) rfl (by kernel_rfl) (fun w K hK => ?h1_485) ?h2_485
      case h1_485 => go_simp; exact hK
      simp only [Act.put, List.setIfInBounds_toArray, List.set_cons_succ, List.set_cons_zero]
      refine wpSt_store rfl hs1 hs2 rfl (by kernel_rfl) ?h1_486 ?h2_486
      case h1_486 => rw [HW2.out]; go_simp
      refine wpSt_any (v := ?v_487) rfl (by kernel_rfl) (fun w K hK => ?h1_487) ?h2_487
      case h1_487 => go_simp; exact hK
      simp only [Act.put, List.setIfInBounds_toArray, List.set_cons_succ, List.set_cons_zero]
      refine wpSt_any (v := ?v_488) rfl (by kernel_rfl) (fun w K hK => ?h1_488) ?h2_488
      case h1_488 => go_simp; exact hK
      simp only [Act.put, List.setIfInBounds_toArray, List.set_cons_succ, List.set_cons_zero]
      refine wpSt_store rfl hs2 hs3 rfl (by kernel_rfl) ?h1_489 ?h2_489
      case h1_489 => rw [HW3.out]; go_simp
      refine wpSt_nil rfl ?_
      rw [show Ws [41, 44, 47].length = W3 from hs3]
      go_wp2
      go_end0
      exact ⟨rfl, HO.out, HF.out⟩
    · simp only [Bool.true_or, Bool.false_or, Bool.or_true, Bool.or_false] at hW1 hW2 hW3
      have HW1 := Lib.hid hW1
      have HW2 := Lib.hid hW2
      have HW3 := Lib.hid hW3
      clear hW1 hW2 hW3
      go_wp2
      refine wp_region_stores [41, 44, 47] Ws (by kernel_rfl) (by kernel_rfl) hs0 ?_
      refine wpSt_any (v := ?v_491) rfl (by kernel_rfl) (fun w K hK => ?h1_491) ?h2_491
      case h1_491 => go_simp; exact hK
      simp only [Act.put, List.setIfInBounds_toArray, List.set_cons_succ, List.set_cons_zero]
      refine wpSt_any (v := ?v_492) rfl (by kernel_rfl) (fun w K hK => ?h1_492) ?h2_492
      case h1_492 => go_simp; exact hK
      simp only [Act.put, List.setIfInBounds_toArray, List.set_cons_succ, List.set_cons_zero]
      refine wpSt_any (v := ?v_493) rfl (by kernel_rfl) (fun w K hK => ?h1_493) ?h2_493
      case h1_493 => go_simp; exact hK
      simp only [Act.put, List.setIfInBounds_toArray, List.set_cons_succ, List.set_cons_zero]
      refine wpSt_any (v := ?v_494) rfl (by kernel_rfl) (fun w K hK => ?h1_494) ?h2_494
      case h1_494 => go_simp; exact hK
      simp only [Act.put, List.setIfInBounds_toArray, List.set_cons_succ, List.set_cons_zero]
      refine wpSt_any (v := ?v_495) rfl (by kernel_rfl) (fun w K hK => ?h1_495) ?h2_495
      case h1_495 => go_simp; exact hK
      simp only [Act.put, List.setIfInBounds_toArray, List.set_cons_succ, List.set_cons_zero]
      refine wpSt_any (v := ?v_496) rfl (by kernel_rfl) (fun w K hK => ?h1_496) ?h2_496
      case h1_496 => go_simp; exact hK
      simp only [Act.put, List.setIfInBounds_toArray, List.set_cons_succ, List.set_cons_zero]
      refine wpSt_0 (v := ?v_497) (by kernel_rfl) hs0 rfl (by kernel_rfl) (fun K hK => ?h1_497) ?h2_497
      case h1_497 => go_simp; exact hK
      simp only [Act.put, List.setIfInBounds_toArray, List.set_cons_succ, List.set_cons_zero]
      refine wpSt_any (v := ?v_498) rfl (by kernel_rfl) (fun w K hK => ?h1_498) ?h2_498
      case h1_498 => go_simp; exact hK
      simp only [Act.put, List.setIfInBounds_toArray, List.set_cons_succ, List.set_cons_zero]
      refine wpSt_off rfl (by kernel_rfl) ?_
      simp only [Act.put, List.setIfInBounds_toArray, List.set_cons_succ, List.set_cons_zero]
      refine wpSt_off rfl (by kernel_rfl) ?_
      simp only [Act.put, List.setIfInBounds_toArray, List.set_cons_succ, List.set_cons_zero]
      refine wpSt_off rfl (by kernel_rfl) ?_
      simp only [Act.put, List.setIfInBounds_toArray, List.set_cons_succ, List.set_cons_zero]
      refine wpSt_off rfl (by kernel_rfl) ?_
      simp only [Act.put, List.setIfInBounds_toArray, List.set_cons_succ, List.set_cons_zero]
      refine wpSt_any (v := ?v_503) rfl (by kernel_rfl) (fun w K hK => ?h1_503) ?h2_503
      case h1_503 => go_simp; exact hK
      simp only [Act.put, List.setIfInBounds_toArray, List.set_cons_succ, List.set_cons_zero]
      refine wpSt_any (v := ?v_504) rfl (by kernel_rfl) (fun w K hK => ?h1_504) ?h2_504
      case h1_504 => go_simp; exact hK
      simp only [Act.put, List.setIfInBounds_toArray, List.set_cons_succ, List.set_cons_zero]
      refine wpSt_any (v := ?v_505) rfl (by kernel_rfl) (fun w K hK => ?h1_505) ?h2_505
      case h1_505 => go_simp; exact hK
      simp only [Act.put, List.setIfInBounds_toArray, List.set_cons_succ, List.set_cons_zero]
      refine wpSt_any (v := ?v_506) rfl (by kernel_rfl) (fun w K hK => ?h1_506) ?h2_506
      case h1_506 => go_simp; exact hK
      simp only [Act.put, List.setIfInBounds_toArray, List.set_cons_succ, List.set_cons_zero]
      refine wpSt_0 (v := ?v_507) (by kernel_rfl) hs0 rfl (by kernel_rfl) (fun K hK => ?h1_507) ?h2_507
      case h1_507 => go_simp; exact hK
      simp only [Act.put, List.setIfInBounds_toArray, List.set_cons_succ, List.set_cons_zero]
      refine wpSt_any (v := ?v_508) rfl (by kernel_rfl) (fun w K hK => ?h1_508) ?h2_508
      case h1_508 => go_simp; exact hK
      simp only [Act.put, List.setIfInBounds_toArray, List.set_cons_succ, List.set_cons_zero]
      refine wpSt_off rfl (by kernel_rfl) ?_
      simp only [Act.put, List.setIfInBounds_toArray, List.set_cons_succ, List.set_cons_zero]
      refine wpSt_off rfl (by kernel_rfl) ?_
      simp only [Act.put, List.setIfInBounds_toArray, List.set_cons_succ, List.set_cons_zero]
      refine wpSt_off rfl (by kernel_rfl) ?_
      simp only [Act.put, List.setIfInBounds_toArray, List.set_cons_succ, List.set_cons_zero]
      refine wpSt_off rfl (by kernel_rfl) ?_
      simp only [Act.put, List.setIfInBounds_toArray, List.set_cons_succ, List.set_cons_zero]
      refine wpSt_any (v := ?v_513) rfl (by kernel_rfl) (fun w K hK => ?h1_513) ?h2_513
      case h1_513 => go_simp; exact hK
      simp only [Act.put, List.setIfInBounds_toArray, List.set_cons_succ, List.set_cons_zero]
      refine wpSt_any (v := ?v_514) rfl (by kernel_rfl) (fun w K hK => ?h1_514) ?h2_514
      case h1_514 => go_simp; exact hK
      simp only [Act.put, List.setIfInBounds_toArray, List.set_cons_succ, List.set_cons_zero]
      refine wpSt_any (v := ?v_515) rfl (by kernel_rfl) (fun w K hK => ?h1_515) ?h2_515
      case h1_515 => go_simp; exact hK
      simp only [Act.put, List.setIfInBounds_toArray, List.set_cons_succ, List.set_cons_zero]
      refine wpSt_any (v := ?v_516) rfl (by kernel_rfl) (fun w K hK => ?h1_516) ?h2_516
      case h1_516 => go_simp; exact hK
      simp only [Act.put, List.setIfInBounds_toArray, List.set_cons_succ, List.set_cons_zero]
      refine wpSt_0 (v := ?v_517) (by kernel_rfl) hs0 rfl (by kernel_rfl) (fun K hK => ?h1_517) ?h2_517
      case h1_517 => go_simp; exact hK
      simp only [Act.put, List.setIfInBounds_toArray, List.set_cons_succ, List.set_cons_zero]
      refine wpSt_any (v := ?v_518) rfl (by kernel_rfl) (fun w K hK => ?h1_518) ?h2_518
      case h1_518 => go_simp; exact hK
      simp only [Act.put, List.setIfInBounds_toArray, List.set_cons_succ, List.set_cons_zero]
      refine wpSt_any (v := ?v_519) rfl (by kernel_rfl) (fun w K hK => ?h1_519) ?h2_519
      case h1_519 => go_simp; exact hK
      simp only [Act.put, List.setIfInBounds_toArray, List.set_cons_succ, List.set_cons_zero]
      refine wpSt_any (v := ?v_520) rfl (by kernel_rfl) (fun w K hK => ?h1_520) ?h2_520
      case h1_520 => go_simp; exact hK
      simp only [Act.put, List.setIfInBounds_toArray, List.set_cons_succ, List.set_cons_zero]
      refine wpSt_any (v := ?v_521) rfl (by kernel_rfl) (fun w K hK => ?h1_521) ?h2_521
      case h1_521 => go_simp; exact hK
      simp only [Act.put, List.setIfInBounds_toArray, List.set_cons_succ, List.set_cons_zero]
      refine wpSt_0 (v := ?v_522) (by kernel_rfl) hs0 rfl (by kernel_rfl) (fun K hK => ?h1_522) ?h2_522
      case h1_522 => go_simp; exact hK
      simp only [Act.put, List.setIfInBounds_toArray, List.set_cons_succ, List.set_cons_zero]
      refine wpSt_any (v := ?v_523) rfl (by kernel_rfl) (fun w K hK => ?h1_523) ?h2_523
      case h1_523 => go_simp; exact hK
      simp only [Act.put, List.setIfInBounds_toArray, List.set_cons_succ, List.set_cons_zero]
      refine wpSt_any (v := ?v_524) rfl (by kernel_rfl) (fun w K hK => ?h1_524) ?h2_524
      case h1_524 => go_simp; exact hK
      simp only [Act.put, List.setIfInBounds_toArray, List.set_cons_succ, List.set_cons_zero]
      refine wpSt_off rfl (by kernel_rfl) ?_
      simp only [Act.put, List.setIfInBounds_toArray, List.set_cons_succ, List.set_cons_zero]
      refine wpSt_off rfl (by kernel_rfl) ?_
      simp only [Act.put, List.setIfInBounds_toArray, List.set_cons_succ, List.set_cons_zero]
      refine wpSt_off rfl (by kernel_rfl) ?_
      simp only [Act.put, List.setIfInBounds_toArray, List.set_cons_succ, List.set_cons_zero]
      refine wpSt_off rfl (by kernel_rfl) ?_
      simp only [Act.put, List.setIfInBounds_toArray, List.set_cons_succ, List.set_cons_zero]
      refine wpSt_any (v := ?v_529) rfl (by kernel_rfl) (fun w K hK => ?h1_529) ?h2_529
      case h1_529 => go_simp; exact hK
      simp only [Act.put, List.setIfInBounds_toArray, List.set_cons_succ, List.set_cons_zero]
      refine wpSt_any (v := ?v_530) rfl (by kernel_rfl) (fun w K hK => ?h1_530) ?h2_530
      case h1_530 => go_simp; exact hK
      simp only [Act.put, List.setIfInBounds_toArray, List.set_cons_succ, List.set_cons_zero]
      refine wpSt_any (v := ?v_531) rfl (by kernel_rfl) (fun w K hK => ?h1_531) ?h2_531
      case h1_531 => go_simp; exact hK
      simp only [Act.put, List.setIfInBounds_toArray, List.set_cons_succ, List.set_cons_zero]
      refine wpSt_store rfl hs0 hs1 rfl (by kernel_rfl) ?h1_532 ?h2_532
      case h1_532 => rw [HW1.out]; go_simp
      refine wpSt_any (v := ?v_533) rfl (by kernel_rfl) (fun w K hK => ?h1_533) ?h2_533
      case h1_533 => go_simp; exact hK
      simp only [Act.put, List.setIfInBounds_toArray, List.set_cons_succ, List.set_cons_zero]
      refine wpSt_any (v := ?v_534) rfl (by kernel_rfl) (fun w K hK => ?h1_534) ?h2_534
      case h1_534 => go_simp; exact hK
      simp only [Act.put, List.setIfInBounds_toArray, List.set_cons_succ, List.set_cons_zero]
      refine wpSt_store rfl hs1 hs2 rfl (by kernel_rfl) ?h1_535 ?h2_535
      case h1_535 => rw [HW2.out]; go_simp
      refine wpSt_any (v := ?v_536) rfl (by kernel_rfl) (fun w K hK => ?h1_536) ?h2_536
      case h1_536 => go_simp; exact hK
      simp only [Act.put, List.setIfInBounds_toArray, List.set_cons_succ, List.set_cons_zero]
      refine wpSt_any (v := ?v_537) rfl (by kernel_rfl) (fun w K hK => ?h1_537) ?h2_537
      case h1_537 => go_simp; exact hK
      simp only [Act.put, List.setIfInBounds_toArray, List.set_cons_succ, List.set_cons_zero]
      refine wpSt_store rfl hs2 hs3 rfl (by kernel_rfl) ?h1_538 ?h2_538
      case h1_538 => rw [HW3.out]; go_simp
      refine wpSt_nil rfl ?_
      rw [show Ws [41, 44, 47].length = W3 from hs3]
      go_wp2
      go_end0
      exact ⟨rfl, HO.out, HF.out⟩
  · simp only [Bool.true_or, Bool.false_or, Bool.or_true, Bool.or_false] at hW1 hW2 hW3
    have HW1 := Lib.hid hW1
    have HW2 := Lib.hid hW2
    have HW3 := Lib.hid hW3
    clear hW1 hW2 hW3
    go_wp2
    refine wp_region_stores [41, 44, 47] Ws (by kernel_rfl) (by kernel_rfl) hs0 ?_
    refine wpSt_any (v := ?v_540) rfl (by kernel_rfl) (fun w K hK => ?h1_540) ?h2_540
    case h1_540 => go_simp; exact hK
    simp only [Act.put, List.setIfInBounds_toArray, List.set_cons_succ, List.set_cons_zero]
    refine wpSt_any (v := ?v_541) rfl (by kernel_rfl) (fun w K hK => ?h1_541) ?h2_541
    case h1_541 => go_simp; exact hK
    simp only [Act.put, List.setIfInBounds_toArray, List.set_cons_succ, List.set_cons_zero]
    refine wpSt_any (v := ?v_542) rfl (by kernel_rfl) (fun w K hK => ?h1_542) ?h2_542
    case h1_542 => go_simp; exact hK
    simp only [Act.put, List.setIfInBounds_toArray, List.set_cons_succ, List.set_cons_zero]
    refine wpSt_any (v := ?v_543) rfl (by kernel_rfl) (fun w K hK => ?h1_543) ?h2_543
    case h1_543 => go_simp; exact hK
    simp only [Act.put, List.setIfInBounds_toArray, List.set_cons_succ, List.set_cons_zero]
    refine wpSt_any (v := ?v_544) rfl (by kernel_rfl) (fun w K hK => ?h1_544) ?h2_544
    case h1_544 => go_simp; exact hK
    simp only [Act.put, List.setIfInBounds_toArray, List.set_cons_succ, List.set_cons_zero]
    refine wpSt_any (v := ?v_545) rfl (by kernel_rfl) (fun w K hK => ?h1_545) ?h2_545
    case h1_545 => go_simp; exact hK
    simp only [Act.put, List.setIfInBounds_toArray, List.set_cons_succ, List.set_cons_zero]
    refine wpSt_0 (v := ?v_546) (by kernel_rfl) hs0 rfl (by kernel_rfl) (fun K hK => ?h1_546) ?h2_546
    case h1_546 => go_simp; exact hK
    simp only [Act.put, List.setIfInBounds_toArray, List.set_cons_succ, List.set_cons_zero]
    refine wpSt_any (v := ?v_547) rfl (by kernel_rfl) (fun w K hK => ?h1_547) ?h2_547
    case h1_547 => go_simp; exact hK
    simp only [Act.put, List.setIfInBounds_toArray, List.set_cons_succ, List.set_cons_zero]
    refine wpSt_off rfl (by kernel_rfl) ?_
    simp only [Act.put, List.setIfInBounds_toArray, List.set_cons_succ, List.set_cons_zero]
    refine wpSt_off rfl (by kernel_rfl) ?_
    simp only [Act.put, List.setIfInBounds_toArray, List.set_cons_succ, List.set_cons_zero]
    refine wpSt_off rfl (by kernel_rfl) ?_
    simp only [Act.put, List.setIfInBounds_toArray, List.set_cons_succ, List.set_cons_zero]
    refine wpSt_off rfl (by kernel_rfl) ?_
    simp only [Act.put, List.setIfInBounds_toArray, List.set_cons_succ, List.set_cons_zero]
    refine wpSt_any (v := ?v_552) rfl (by kernel_rfl) (fun w K hK => ?h1_552) ?h2_552
    case h1_552 => go_simp; exact hK
    simp only [Act.put, List.setIfInBounds_toArray, List.set_cons_succ, List.set_cons_zero]
    refine wpSt_any (v := ?v_553) rfl (by kernel_rfl) (fun w K hK => ?h1_553) ?h2_553
    case h1_553 => go_simp; exact hK
    simp only [Act.put, List.setIfInBounds_toArray, List.set_cons_succ, List.set_cons_zero]
    refine wpSt_any (v := ?v_554) rfl (by kernel_rfl) (fun w K hK => ?h1_554) ?h2_554
    case h1_554 => go_simp; exact hK
    simp only [Act.put, List.setIfInBounds_toArray, List.set_cons_succ, List.set_cons_zero]
    refine wpSt_any (v := ?v_555) rfl (by kernel_rfl) (fun w K hK => ?h1_555) ?h2_555
    case h1_555 => go_simp; exact hK
    simp only [Act.put, List.setIfInBounds_toArray, List.set_cons_succ, List.set_cons_zero]
    refine wpSt_0 (v := ?v_556) (by kernel_rfl) hs0 rfl (by kernel_rfl) (fun K hK => ?h1_556) ?h2_556
    case h1_556 => go_simp; exact hK
    simp only [Act.put, List.setIfInBounds_toArray, List.set_cons_succ, List.set_cons_zero]
    refine wpSt_any (v := ?v_557) rfl (by kernel_rfl) (fun w K hK => ?h1_557) ?h2_557
    case h1_557 => go_simp; exact hK
    simp only [Act.put, List.setIfInBounds_toArray, List.set_cons_succ, List.set_cons_zero]
    refine wpSt_off rfl (by kernel_rfl) ?_
    simp only [Act.put, List.setIfInBounds_toArray, List.set_cons_succ, List.set_cons_zero]
    refine wpSt_off rfl (by kernel_rfl) ?_
    simp only [Act.put, List.setIfInBounds_toArray, List.set_cons_succ, List.set_cons_zero]
    refine wpSt_off rfl (by kernel_rfl) ?_
    simp only [Act.put, List.setIfInBounds_toArray, List.set_cons_succ, List.set_cons_zero]
    refine wpSt_off rfl (by kernel_rfl) ?_
    simp only [Act.put, List.setIfInBounds_toArray, List.set_cons_succ, List.set_cons_zero]
    refine wpSt_any (v := ?v_562) rfl (by kernel_rfl) (fun w K hK => ?h1_562) ?h2_562
    case h1_562 => go_simp; exact hK
    simp only [Act.put, List.setIfInBounds_toArray, List.set_cons_succ, List.set_cons_zero]
    refine wpSt_any (v := ?v_563) rfl (by kernel_rfl) (fun w K hK => ?h1_563) ?h2_563
    case h1_563 => go_simp; exact hK
    simp only [Act.put, List.setIfInBounds_toArray, List.set_cons_succ, List.set_cons_zero]
    refine wpSt_any (v := ?v_564) rfl (by kernel_rfl) (fun w K hK => ?h1_564) ?h2_564
    case h1_564 => go_simp; exact hK
    simp only [Act.put, List.setIfInBounds_toArray, List.set_cons_succ, List.set_cons_zero]
    refine wpSt_any (v := ?v_565) rfl (by kernel_rfl) (fun w K hK => ?h1_565) ?h2_565
    case h1_565 => go_simp; exact hK
    simp only [Act.put, List.setIfInBounds_toArray, List.set_cons_succ, List.set_cons_zero]
    refine wpSt_0 (v := ?v_566) (by kernel_rfl) hs0 rfl (by kernel_rfl) (fun K hK => ?h1_566) ?h2_566
    case h1_566 => go_simp; exact hK
    simp only [Act.put, List.setIfInBounds_toArray, List.set_cons_succ, List.set_cons_zero]
    refine wpSt_any (v := ?v_567) rfl (by kernel_rfl) (fun w K hK => ?h1_567) ?h2_567
    case h1_567 => go_simp; exact hK
    simp only [Act.put, List.setIfInBounds_toArray, List.set_cons_succ, List.set_cons_zero]
    refine wpSt_off rfl (by kernel_rfl) ?_
    simp only [Act.put, List.setIfInBounds_toArray, List.set_cons_succ, List.set_cons_zero]
    refine wpSt_off rfl (by kernel_rfl) ?_
    simp only [Act.put, List.setIfInBounds_toArray, List.set_cons_succ, List.set_cons_zero]
    refine wpSt_off rfl (by kernel_rfl) ?_
    simp only [Act.put, List.setIfInBounds_toArray, List.set_cons_succ, List.set_cons_zero]
    refine wpSt_off rfl (by kernel_rfl) ?_
    simp only [Act.put, List.setIfInBounds_toArray, List.set_cons_succ, List.set_cons_zero]
    refine wpSt_any (v := ?v_572) rfl (by kernel_rfl) (fun w K hK => ?h1_572) ?h2_572
    case h1_572 => go_simp; exact hK
    simp only [Act.put, List.setIfInBounds_toArray, List.set_cons_succ, List.set_cons_zero]
    refine wpSt_any (v := ?v_573) rfl (by kernel_rfl) (fun w K hK => ?h1_573) ?h2_573
    case h1_573 => go_simp; exact hK
    simp only [Act.put, List.setIfInBounds_toArray, List.set_cons_succ, List.set_cons_zero]
    refine wpSt_off rfl (by kernel_rfl) ?_
    simp only [Act.put, List.setIfInBounds_toArray, List.set_cons_succ, List.set_cons_zero]
    refine wpSt_off rfl (by kernel_rfl) ?_
    simp only [Act.put, List.setIfInBounds_toArray, List.set_cons_succ, List.set_cons_zero]
    refine wpSt_off rfl (by kernel_rfl) ?_
    simp only [Act.put, List.setIfInBounds_toArray, List.set_cons_succ, List.set_cons_zero]
    refine wpSt_off rfl (by kernel_rfl) ?_
    simp only [Act.put, List.setIfInBounds_toArray, List.set_cons_succ, List.set_cons_zero]
    refine wpSt_any (v := ?v_578) rfl (by kernel_rfl) (fun w K hK => ?h1_578) ?h2_578
    case h1_578 => go_simp; exact hK
    simp only [Act.put, List.setIfInBounds_toArray, List.set_cons_succ, List.set_cons_zero]
    refine wpSt_any (v := ?v_579) rfl (by kernel_rfl) (fun w K hK => ?h1_579) ?h2_579
    case h1_579 => go_simp; exact hK
    simp only [Act.put, List.setIfInBounds_toArray, List.set_cons_succ, List.set_cons_zero]
    refine wpSt_any (v := ?v_580) rfl (by kernel_rfl) (fun w K hK => ?h1_580) ?h2_580
    case h1_580 => go_simp; exact hK
    simp only [Act.put, List.setIfInBounds_toArray, List.set_cons_succ, List.set_cons_zero]
    refine wpSt_store rfl hs0 hs1 rfl (by kernel_rfl) ?h1_581 ?h2_581
    case h1_581 => rw [HW1.out]; go_simp
    refine wpSt_any (v := ?v_582) rfl (by kernel_rfl) (fun w K hK => ?h1_582) ?h2_582
    case h1_582 => go_simp; exact hK
    simp only [Act.put, List.setIfInBounds_toArray, List.set_cons_succ, List.set_cons_zero]
    refine wpSt_any (v := ?v_583) rfl (by kernel_rfl) (fun w K hK => ?h1_583) ?h2_583
    case h1_583 => go_simp; exact hK
    simp only [Act.put, List.setIfInBounds_toArray, List.set_cons_succ, List.set_cons_zero]
    refine wpSt_store rfl hs1 hs2 rfl (by kernel_rfl) ?h1_584 ?h2_584
    case h1_584 => rw [HW2.out]; go_simp
    refine wpSt_any (v := ?v_585) rfl (by kernel_rfl) (fun w K hK => ?h1_585) ?h2_585
    case h1_585 => go_simp; exact hK
    simp only [Act.put, List.setIfInBounds_toArray, List.set_cons_succ, List.set_cons_zero]
    refine wpSt_any (v := ?v_586) rfl (by kernel_rfl) (fun w K hK => ?h1_586) ?h2_586
    case h1_586 => go_simp; exact hK
    simp only [Act.put, List.setIfInBounds_toArray, List.set_cons_succ, List.set_cons_zero]
    refine wpSt_store rfl hs2 hs3 rfl (by kernel_rfl) ?h1_587 ?h2_587
    case h1_587 => rw [HW3.out]; go_simp
    refine wpSt_nil rfl ?_
    rw [show Ws [41, 44, 47].length = W3 from hs3]
    go_wp2
    go_end0
    exact ⟨rfl, HO.out, HF.out⟩
end Go.Proofs.YtggkebngkkddhaaDoor
