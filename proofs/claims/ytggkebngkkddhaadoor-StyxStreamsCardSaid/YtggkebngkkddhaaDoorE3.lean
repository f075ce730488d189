/- The walk through Encode. (Printed by gen_e3.py.) -/
import Derived.Test.YtggkebngkkddhaaDoorE2
namespace Go.Proofs.YtggkebngkkddhaaDoor
open Go.RowKit

attribute [local irreducible] OS.sized OS.mode OS.count OS.least OS.num OS.little OS.msg
theorem OS.dir_ex (st : OS) (d : DV) : ∃ x : OS, ∃ i : OS, st.dir d = x.sized ⟨i.l.toArray⟩ 2 ∧ x.l = st.l ∧ i.l.length ≤ 0 + d.room + 60 :=
  ⟨_, _, rfl, rfl, OS.body_len (OS.mk [] false false) d⟩
theorem OS.dir_len (st : OS) (d : DV) : (st.dir d).l.length ≤ st.l.length + d.room + 62 := by
  obtain ⟨x, i, h0, h1, h2⟩ := OS.dir_ex st d
  have h3 : (⟨i.l.toArray⟩ : ByteArray).size = i.l.length := by
    show i.l.toArray.size = _
    exact List.size_toArray
  have h4 := OS.sized_len x ⟨i.l.toArray⟩ 2
  rw [h3, h1] at h4
  rw [h0]
  exact Nat.le_trans h4 (by omega)
attribute [local irreducible] OS.dir

/-- What Encode leaves: the string and the code; nothing that was there has changed. -/
def EPost (r : ByteArray × Int) (W : World) (e : Ending) (w' : World) : Prop := e = .returned (.tuple #[.string r.1, .int .i64 r.2]) ∧ Fr none_ W w'

theorem Fr.new {S : Nat → Prop} {W w1 w2 : World} (h : Fr none_ W w1) (h2 : Fr S w1 w2) (hS : ∀ c, S c → W.heap.size ≤ c) : Fr none_ W w2 := h.trans_ h2 (fun c hc hl => by have := hS c hc; omega)

structure EPre (m : MV) (vn vq : Value) (W : World) : Prop where
  words : Words W
  ns : StrsAt W vn m.names
  qs : QidsAt W vq m.qids
  r : m.R
  w : m.W
  kind : i64r m.kind
  tag : i64r m.tag
  need : m.need ≤ 900000
theorem EPre.texts {m : MV} {vn vq : Value} {W : World} (h : EPre m vn vq W) : m.texts ≤ 1000000 := by
  have := h.need
  unfold MV.need at this
  unfold MV.texts
  omega

theorem info31 : (Tryd.prog.info? 31).map (·.size) = some 27 := by kernel_rfl
theorem size_mcells (m : MV) (vn vq : Value) : (mcells m vn vq).size = 27 := rfl

section
variable (m : MV) (vn vq : Value) (W : World)

set_option maxRecDepth 20000 in
theorem encode_kind (hp : EPre m vn vq W) (hk : (fieldsOf m.kind).isSome = false) : Calls Tryd.prog 10 #[.agg (mcells m vn vq)] W (EPost (⟨#[]⟩, 13) W) := by
  have hb := Blk.new W 31 (mcells m vn vq)
  have hf : Fr none_ W (W.alloc (.cells (mcells m vn vq) 31)) := (Fr.refl _ W).alloc _
  have c0 : (W.alloc (.cells (mcells m vn vq) 31)).cell? ⟨W.heap.size, 0, none⟩ = some (.int .i64 m.kind) := hb.cell 0
  have H := Lib.hid (known_any m.kind _ (hp.words.fr hf (fun _ x => x.elim)) hp.kind)
  rw [hk] at H
  have HF := Lib.hid hf
  clear hp hk hb hf
  go_enter Tryd.func10, Tryd.ntmps10
  go_wp2_with fail
  refine H.out.mono ?_
  rintro _ w1 ⟨rfl, rfl⟩
  go_wp2
  go_ret2
  exact ⟨rfl, HF.out⟩

set_option maxRecDepth 20000 in
theorem encode_shape (hp : EPre m vn vq W) (hk : (fieldsOf m.kind).isSome = true) (hs : m.shapedB = false) : Calls Tryd.prog 10 #[.agg (mcells m vn vq)] W (EPost (⟨#[]⟩, 14) W) := by
  have hb := Blk.new W 31 (mcells m vn vq)
  have hf : Fr none_ W (W.alloc (.cells (mcells m vn vq) 31)) := (Fr.refl _ W).alloc _
  have d0 : (W.alloc (.cells (mcells m vn vq) 31)).cell? ⟨W.heap.size, 0, none⟩ = some (.int .i64 m.kind) := hb.cell 0
  have HBL := Lib.hid hb
  have H := Lib.hid (known_any m.kind _ (hp.words.fr hf (fun _ x => x.elim)) hp.kind)
  rw [hk] at H
  have H2 : Hid (Calls Tryd.prog 36 #[.agg (mcells m vn vq)] (W.alloc (.cells (mcells m vn vq) 31)) _) := Lib.hid (shaped_any m vn vq _ (hp.ns.fr hf (fun _ _ _ _ _ x => x)) (hp.qs.fr hf (fun _ _ _ _ _ x => x)) hp.r hp.w hk hp.texts)
  have HF := Lib.hid hf
  have HS : Hid (¬ m.Shaped) := Lib.hid (fun x => by rw [(shapedB_iff m).2 x] at hs; cases hs)
  clear hp hk hb hf hs
  go_enter Tryd.func10, Tryd.ntmps10
  go_wp2_with fail
  refine H.out.mono ?_
  rintro _ w1 ⟨rfl, rfl⟩
  go_wp2_with (refine wpList_load_row rfl 31 (.tmp 1) rfl W.heap.size rfl 31 (mcells m vn vq) (0, 0) _ HBL.out Tryd.underlying31 rfl (info31.trans (congrArg some (size_mcells m vn vq).symm)) ?_)
  refine H2.out.mono ?_
  rintro _ w1 ⟨b, hb, rfl, hf⟩
  obtain rfl : b = false := by
    cases b with
    | false => rfl
    | true => exact absurd (hb.1 rfl) HS.out
  have HF2 := Lib.hid (HF.out.trans hf)
  clear hf hb
  go_wp2
  go_ret2
  exact ⟨rfl, HF2.out⟩

theorem newWriter_any (w : World) : Calls Tryd.prog 41 #[] w (fun e w' => e = .returned (.pointer (some ⟨w.heap.size, 0, none⟩)) ∧ w' = w.alloc (.cells #[.slice none 0 0] 82)) := by
  go_enter Tryd.func41, Tryd.ntmps41
  go_wp2
  go_ret
  exact ⟨rfl, rfl⟩

set_option maxRecDepth 20000 in
set_option maxHeartbeats 4000000 in
theorem encode_main (hp : EPre m vn vq W) (hk : (fieldsOf m.kind).isSome = true) (hs : m.shapedB = true) (hlen : (OS.msg m).l.length ≤ 900000) :
    Calls Tryd.prog 10 #[.agg (mcells m vn vq)] W (EPost (if (OS.msg m).done.code ≠ 0 then (⟨#[]⟩, (OS.msg m).done.code) else (⟨(leB ((OS.msg m).l.length + 4 : Nat) 4 ++ (OS.msg m).l).toArray⟩, 0)) W) := by
  have hb := Blk.new W 31 (mcells m vn vq)
  have hf : Fr none_ W (W.alloc (.cells (mcells m vn vq) 31)) := (Fr.refl _ W).alloc _
  have d0 : (W.alloc (.cells (mcells m vn vq) 31)).cell? ⟨W.heap.size, 0, none⟩ = some (.int .i64 m.kind) := hb.cell 0
  have HBL := Lib.hid hb
  have H := Lib.hid (known_any m.kind _ (hp.words.fr hf (fun _ x => x.elim)) hp.kind)
  rw [hk] at H
  have H2 : Hid (Calls Tryd.prog 36 #[.agg (mcells m vn vq)] (W.alloc (.cells (mcells m vn vq) 31)) _) := Lib.hid (shaped_any m vn vq _ (hp.ns.fr hf (fun _ _ _ _ _ x => x)) (hp.qs.fr hf (fun _ _ _ _ _ x => x)) hp.r hp.w hk hp.texts)
  have HF := Lib.hid hf
  have HS : Hid m.Shaped := Lib.hid ((shapedB_iff m).1 hs)
  have HP := Lib.hid hp
  have HK := Lib.hid hk
  have HB := Lib.hid hb
  have HL := Lib.hid hlen
  obtain ⟨R, hR⟩ : ∃ R, R = (if (OS.msg m).done.code ≠ 0 then (⟨#[]⟩, (OS.msg m).done.code) else (⟨(leB ((OS.msg m).l.length + 4 : Nat) 4 ++ (OS.msg m).l).toArray⟩, 0) : ByteArray × Int) := ⟨_, rfl⟩
  rw [← hR]
  have HR := Lib.hid hR
  have HM := Lib.hid (out_fields 0 m HS.out.one)
  clear hp hk hb hf hs hlen hR
  go_enter Tryd.func10, Tryd.ntmps10
  go_wp2_with fail
  refine H.out.mono ?_
  rintro _ w1 ⟨rfl, rfl⟩
  go_wp2_with (refine wpList_load_row rfl 31 (.tmp 1) rfl W.heap.size rfl 31 (mcells m vn vq) (0, 0) _ HBL.out Tryd.underlying31 rfl (info31.trans (congrArg some (size_mcells m vn vq).symm)) ?_)
  refine H2.out.mono ?_
  rintro _ w2 ⟨b, hb, rfl, hf⟩
  obtain rfl : b = true := hb.2 HS.out
  have hf2 := HF.out.trans hf
  have hblk2 : Blk w2 W.heap.size 31 (mcells m vn vq) := hf.blk HB.out (fun x => x)
  have hlt2 : W.heap.size < w2.heap.size := hblk2.lt
  have hsz3 : (w2.alloc (.cells #[.slice none 0 0, .bool false, .bool false] 84)).heap.size = w2.heap.size + 1 := by simp
  have Hsz3 := Lib.hid hsz3
  have ho3 : Out (w2.alloc (.cells #[.slice none 0 0, .bool false, .bool false] 84)) w2.heap.size (.slice none 0 0) (OS.mk [] false false) := ⟨Blk.new w2 84 _, World.ownsRow_nil _ _ _ _⟩
  have hblk3 := hblk2.alloc (.cells #[.slice none 0 0, .bool false, .bool false] 84)
  have e0 : (w2.alloc (.cells #[.slice none 0 0, .bool false, .bool false] 84)).cell? ⟨W.heap.size, 0, none⟩ = some (.int .i64 m.kind) := hblk3.cell 0
  have H3 : Hid (Calls Tryd.prog 37 #[.pointer (some ⟨w2.heap.size, 0, none⟩), .int .i64 m.kind, .int .i64 1] (w2.alloc (.cells #[.slice none 0 0, .bool false, .bool false] 84)).drew _) :=
    Lib.hid (oLittle_ex w2.heap.size (.slice none 0 0) (OS.mk [] false false) _ m.kind 1 ho3 (by omega) (by show 0 ≤ 1000000; omega))
  have HF2 : Hid (Fr none_ W (w2.alloc (.cells #[.slice none 0 0, .bool false, .bool false] 84)).drew) := Lib.hid (hf2.alloc _).drew
  have HB3 : Hid (Blk (w2.alloc (.cells #[.slice none 0 0, .bool false, .bool false] 84)).drew W.heap.size 31 (mcells m vn vq)) := Lib.hid hblk3
  have Hlt2 := Lib.hid hlt2
  clear hf hb hf2 hblk2 hblk3 ho3 H H2 hlt2 hsz3 HBL
  clear d0
  go_wp2
  generalize w2.alloc (.cells #[.slice none 0 0, .bool false, .bool false] 84) = w3 at *
  go_still_tail 5, (by kernel_rfl)
  go_wp2_with fail
  refine H3.out.mono ?_
  rintro _ w4 ⟨v4, c4, rfl, ho4, hs4⟩
  have hn4 : ∀ r, v4.ownBlock = some r → W.heap.size < r := fun r hr => by
    rcases hs4.2 with e | ⟨r', e, hr'⟩
    · rw [e] at hr; cases hr
    · rw [e] at hr; injection hr with hr; subst hr; have := Hlt2.out; have := Hsz3.out; simp at hr'; omega
  have hblk4 : Blk w4 W.heap.size 31 (mcells m vn vq) := hs4.1.blk HB3.out (fun x => x.elim (fun e => by have := Hlt2.out; omega) (fun e => by cases e))
  have hf4 := HF2.out.new hs4.1 (fun c hc => hc.elim (fun e => by have := Hlt2.out; omega) (fun e => by cases e))
  have e1 : w4.cell? ⟨W.heap.size, 1, none⟩ = some (.int .i64 m.tag) := hblk4.cell 1
  have H4 : Hid (Calls Tryd.prog 38 #[.pointer (some ⟨w2.heap.size, 0, none⟩), .pointer (some ⟨W.heap.size, 1, none⟩), .int .i64 2] w4 _) := Lib.hid (oNum_any w2.heap.size v4 _ w4 ⟨W.heap.size, 1, none⟩ m.tag 2 ho4 e1 (by omega) (by have := OS.little_len (OS.mk [] false false) m.kind 1; simp at this; omega))
  have HF4 := Lib.hid hf4
  have HB4 := Lib.hid hblk4
  have Hn4 := Lib.hid hn4
  clear ho4 hs4 hn4 hblk4 hf4 H3 HB3 HF2 e0 e1
  go_wp2_with fail
  refine H4.out.mono ?_
  rintro _ w5 ⟨v5, rfl, ho5, hs5⟩
  have hn5 : ∀ r, v5.ownBlock = some r → W.heap.size < r := fun r hr => by
    rcases hs5.2 with e | ⟨r', e, hr'⟩
    · exact Hn4.out r (e.symm.trans hr)
    · rw [e] at hr; injection hr with hr; subst hr; have := HB4.out.lt; omega
  have hblk5 : Blk w5 W.heap.size 31 (mcells m vn vq) := hs5.1.blk HB4.out (fun x => x.elim (fun e => by have := Hlt2.out; omega) (fun e => Nat.lt_irrefl _ (Hn4.out _ e.symm)))
  have hf5 := HF4.out.new hs5.1 (fun c hc => hc.elim (fun e => by have := Hlt2.out; omega) (fun e => Nat.le_of_lt (Hn4.out _ e.symm)))
  have hfo : ¬ OF w2.heap.size v5 W.heap.size := fun x => x.elim (fun e => by have := Hlt2.out; omega) (fun e => Nat.lt_irrefl _ (hn5 _ e.symm))
  have hfw : ∀ c, OF w2.heap.size v5 c → W.heap.size ≤ c := fun c hc => hc.elim (fun e => by have := Hlt2.out; omega) (fun e => Nat.le_of_lt (hn5 _ e.symm))
  have hMS : MS (VOut w2.heap.size) (OF w2.heap.size v5) none_ w5 W.heap.size (((OS.mk [] false false).little m.kind 1).num m.tag 2) m vn vq w5 :=
    ⟨⟨OF w2.heap.size v5, ⟨v5, ho5, fun _ => Iff.rfl⟩, fun _ x => .inl x, fun a n c e hk x => by have := HP.out.ns.lt e hk; have := hfw _ x; omega, fun a n c e hk x => by have := HP.out.qs.lt e hk; have := hfw _ x; omega⟩, hfo, hblk5.lt, hblk5,
      HP.out.ns.fr hf5 (fun _ _ _ _ _ x => x), HP.out.qs.fr hf5 (fun _ _ _ _ _ x => x), fun a n c e hk x => by have := HP.out.ns.lt e hk; have : a.block = W.heap.size := x; omega, fun a n c e hk x => by have := HP.out.qs.lt e hk; have : a.block = W.heap.size := x; omega, Fr.refl _ _, fun c hc => hc.elim, fun _ _ _ _ _ x => x, fun _ _ _ _ _ x => x⟩
  have hl5 : (((OS.mk [] false false).little m.kind 1).num m.tag 2).l.length ≤ 3 := by
    have h1 := OS.little_len (OS.mk [] false false) m.kind 1
    have h2 := OS.num_len ((OS.mk [] false false).little m.kind 1) m.tag 2
    simp at h1
    omega
  have hfit : (VOut w2.heap.size).fit (((OS.mk [] false false).little m.kind 1).num m.tag 2) m.need := by
    have := HP.out.need
    show _ + _ ≤ 1000000
    omega
  have H5 := fields_any (V := VOut w2.heap.size) (B := BOut w2.heap.size) ⟨VOut_good _, BOut_good _, hMS, HP.out.r, hfit, trivial, trivial, fun _ => .inr (VOut_same _), fun ho => .inr (by
    have h1 := HS.out.one ho
    match hq : m.qids, h1 with
    | [q], _ => exact ⟨q, rfl⟩)⟩ HK.out
  rw [out_fields _ m HS.out.one] at H5
  have H5 : Hid (Calls Tryd.prog 23 #[.iface 79 (.pointer (some ⟨w2.heap.size, 0, none⟩)), .pointer (some ⟨W.heap.size, 0, none⟩)] w5 _) := Lib.hid H5
  have HF5 := Lib.hid hf5
  have HW5 := Lib.hid hfw
  clear ho5 hs5 hn5 hblk5 hf5 H4 HB4 HF4 hfo hfw hMS hl5 hfit Hn4 Hsz3 HP HK HB
  go_wp2_with fail
  refine H5.out.mono ?_
  rintro _ w6 ⟨rfl, vn', vq', h6⟩
  obtain ⟨F6, ⟨v6, ho6, hF6⟩, hF6', _, _⟩ := h6.ex
  have hf6 : Fr none_ W w6 := HF5.out.new h6.fr (fun c hc => by
    rcases hc with x | x
    · exact HW5.out c x
    · omega)
  have ho6 : Out w6 w2.heap.size v6 (OS.msg m) := ho6
  have hgl : W.heap.size ≤ w2.heap.size := Nat.le_of_lt Hlt2.out
  clear h6 hF6 hF6' H5 HF5 HW5
  generalize OS.msg m = st at *
  have b2 := ho6.cell2
  have z2 := ho6.1.frozen 2
  have ho7 : Out (w6.setCell ⟨w2.heap.size, 2, none⟩ (.bool st.done.over)) w2.heap.size v6 st.done := Wrt.set2 ho6
  have hf7 : Fr none_ W (w6.setCell ⟨w2.heap.size, 2, none⟩ (.bool st.done.over)) := hf6.setNew (p := ⟨w2.heap.size, 2, none⟩) hgl _
  have hdo : st.done.over = (st.over || decide ((8192 : Int) < (st.l.length : Int) + 4)) := by
    show (st.over || decide (8192 < st.l.length + 4)) = _
    congr 1
    exact decide_eq_decide.2 (by omega)
  have hlen := HL.out
  have HO7 := Lib.hid ho7
  have HF7 := Lib.hid hf7
  have HLen := Lib.hid (wLen_any w2.heap.size 84 v6 _ st.l w6 ho6 (by omega))
  have HE := Lib.hid (oErr_any w2.heap.size v6 st.done _ ho7)
  have e4 : IntKind.i64.wrap ((st.l.length : Int) + 4) = st.l.length + 4 := IntWalk.i64_in _ (by omega)
  have Hdo := Lib.hid hdo
  have HDL : Hid (st.done.l = st.l) := Lib.hid rfl
  clear ho6 ho7 hf7 hf6 hdo
  obtain ⟨w7, hw7⟩ : ∃ w7, w7 = w6.setCell ⟨w2.heap.size, 2, none⟩ (.bool st.done.over) := ⟨_, rfl⟩
  rw [← hw7] at HO7 HF7 HE
  rw [Hdo.out] at hw7
  have HC : Hid (st.done.code = if st.done.bad then 11 else if st.done.over then 3 else 0) := Lib.hid rfl
  rw [← HC.out] at HE
  have Hov : Hid (st.done.code = 0 → st.l.length + 4 ≤ 8192) := Lib.hid (fun hc => by
    rw [HC.out] at hc
    have h1 : st.done.over = false := by
      cases hov : st.done.over with
      | false => rfl
      | true => rw [hov] at hc; split at hc <;> simp at hc
    have h2 : (st.over || decide (8192 < st.l.length + 4)) = false := h1
    rw [Bool.or_eq_false_iff] at h2
    have := of_decide_eq_false h2.2
    omega)
  generalize hn : st.l.length = n at *
  generalize hso : st.over = so at b2 hw7
  generalize st.done.code = code at *
  have Hw7 := Lib.hid hw7
  clear hw7 hso Hdo HC
  cases so with
  | false =>
    simp only [Bool.false_or] at Hw7
    go_wp2_with fail
    refine HLen.out.mono ?_
    rintro _ w8 ⟨rfl, rfl⟩
    go_wp2_with fail
    rw [← Hw7.out]
    refine HE.out.mono ?_
    rintro _ w8 ⟨rfl, rfl⟩
    by_cases hc : code = 0
    · subst hc
      have hov := Hov.out rfl
      have hg2 : w2.heap.size < w7.heap.size := HO7.out.1.lt
      have ho8 := HO7.out.fr0 ((Fr.refl none_ w7).alloc (.cells #[.slice none 0 0] 82))
      have hw8 : Wrt (w7.alloc (.cells #[.slice none 0 0] 82)) w7.heap.size 82 (.slice none 0 0) [] [] := ⟨Blk.new w7 82 _, World.ownsRow_nil _ _ _ _⟩
      have HL2 := Lib.hid (wLen_any w2.heap.size 84 v6 _ st.done.l _ ho8 (by rw [HDL.out, hn]; omega))
      rw [show st.done.l.length = n by rw [HDL.out, hn]] at HL2
      have HW4 : Hid (Calls Tryd.prog 37 #[.pointer (some ⟨w7.heap.size, 0, none⟩), .int .i64 ((n : Int) + 4), .int .i64 4] (w7.alloc (.cells #[.slice none 0 0] 82)) _) :=
        Lib.hid (wLittle_yes w7.heap.size 82 (.slice none 0 0) [] [] ((n : Int) + 4) 4 _ hw8 (by omega) (by show 0 ≤ 1000000; omega) (by omega) (by show _ < (2 : Int) ^ 32; omega))
      have HNW := Lib.hid (newWriter_any w7)
      have HO8 := Lib.hid ho8
      have HG2 := Lib.hid hg2
      clear ho8 hw8 HE HLen hg2
      go_wp2_with fail
      refine HNW.out.mono ?_
      rintro _ _ ⟨rfl, rfl⟩
      go_wp2_with fail
      refine HL2.out.mono ?_
      rintro _ w9 ⟨rfl, rfl⟩
      go_wp2_with fail
      refine HW4.out.mono ?_
      rintro _ w9 ⟨v9, rfl, hw9, hs9⟩
      have hn9 : ∀ r, v9.ownBlock = some r → W.heap.size ≤ r := fun r hr => by
        rcases hs9.2 with e | ⟨r', e, hr'⟩
        · rw [e] at hr; cases hr
        · rw [e] at hr; injection hr with hr; subst hr; have := HF7.out.1; simp at hr'; omega
      have Hn9 := Lib.hid hn9
      have hs9f : Fr (fun b => b = w7.heap.size) (w7.alloc (.cells #[.slice none 0 0] 82)) w9 := hs9.1.mono (fun b hb => hb.elim id (fun e => by cases e))
      have ho9 : Out w9 w2.heap.size v6 st.done := HO8.out.fr hs9f (fun e => by have := HG2.out; have : w2.heap.size = w7.heap.size := e; omega) (fun r hr e => by
        have := HO7.out.lt_own (b := r) (.inr hr.symm)
        have : r = w7.heap.size := e
        omega)
      have hf9 : Fr none_ W w9 := (HF7.out.alloc _).new hs9f (fun c hc => by have := HF7.out.1; have : c = w7.heap.size := hc; omega)
      have HT := Lib.hid (wText_any w2.heap.size 84 v6 _ st.done.l w9 ho9)
      have HRw : Hid (Calls Tryd.prog 42 #[.pointer (some ⟨w7.heap.size, 0, none⟩), .string ⟨st.done.l.toArray⟩] w9 _) := Lib.hid (wRaw_any w7.heap.size 82 v9 [] _ w9 ⟨st.done.l.toArray⟩ hw9 (by
        have h1 : (⟨st.done.l.toArray⟩ : ByteArray).size = n := by rw [HDL.out]; show st.l.toArray.size = n; simpa using hn
        rw [h1]
        simp [leB_length]
        omega))
      have HF9 := Lib.hid hf9
      have Hsz : Hid (W.heap.size ≤ w7.heap.size) := Lib.hid HF7.out.1
      clear hn9 hw9 hs9 hs9f ho9 hf9 HW4 HL2 HNW HO8
      go_wp2_with fail
      refine HT.out.mono ?_
      rintro _ w10 ⟨rfl, rfl⟩
      go_wp2_with fail
      refine HRw.out.mono ?_
      rintro _ w10 ⟨v10, rfl, hw10, hs10⟩
      have hf10 : Fr none_ W w10 := HF9.out.new hs10.1 (fun c hc => by
        rcases hc with x | x
        · have := Hsz.out; omega
        · exact Hn9.out c x.symm)
      have HT2 := Lib.hid (wText_any w7.heap.size 82 v10 _ _ w10 hw10)
      have HF10 := Lib.hid hf10
      clear hw10 hs10 hf10 HT HRw
      go_wp2_with fail
      refine HT2.out.mono ?_
      rintro _ w11 ⟨rfl, rfl⟩
      go_wp2
      go_ret2
      refine ⟨?_, HF10.out⟩
      rw [HR.out, HDL.out]
      rfl
    · have hcb : (code != 0) = true := by rw [bne_iff_ne]; exact hc
      have hcb2 : (code == 0) = false := by rw [beq_eq_false_iff_ne]; exact hc
      have HRe : Hid (R = (⟨#[]⟩, code)) := Lib.hid (by rw [HR.out, if_pos hc])
      clear hc HR HL Hov
      go_wp2
      go_ret2
      exact ⟨by rw [HRe.out]; rfl, HF7.out⟩
  | true =>
    simp only [Bool.true_or] at Hw7
    go_wp2_with fail
    rw [← Hw7.out]
    refine HE.out.mono ?_
    rintro _ w8 ⟨rfl, rfl⟩
    by_cases hc : code = 0
    · subst hc
      have hov := Hov.out rfl
      have hg2 : w2.heap.size < w7.heap.size := HO7.out.1.lt
      have ho8 := HO7.out.fr0 ((Fr.refl none_ w7).alloc (.cells #[.slice none 0 0] 82))
      have hw8 : Wrt (w7.alloc (.cells #[.slice none 0 0] 82)) w7.heap.size 82 (.slice none 0 0) [] [] := ⟨Blk.new w7 82 _, World.ownsRow_nil _ _ _ _⟩
      have HL2 := Lib.hid (wLen_any w2.heap.size 84 v6 _ st.done.l _ ho8 (by rw [HDL.out, hn]; omega))
      rw [show st.done.l.length = n by rw [HDL.out, hn]] at HL2
      have HW4 : Hid (Calls Tryd.prog 37 #[.pointer (some ⟨w7.heap.size, 0, none⟩), .int .i64 ((n : Int) + 4), .int .i64 4] (w7.alloc (.cells #[.slice none 0 0] 82)) _) :=
        Lib.hid (wLittle_yes w7.heap.size 82 (.slice none 0 0) [] [] ((n : Int) + 4) 4 _ hw8 (by omega) (by show 0 ≤ 1000000; omega) (by omega) (by show _ < (2 : Int) ^ 32; omega))
      have HNW := Lib.hid (newWriter_any w7)
      have HO8 := Lib.hid ho8
      have HG2 := Lib.hid hg2
      clear ho8 hw8 HE HLen hg2
      go_wp2_with fail
      refine HNW.out.mono ?_
      rintro _ _ ⟨rfl, rfl⟩
      go_wp2_with fail
      refine HL2.out.mono ?_
      rintro _ w9 ⟨rfl, rfl⟩
      go_wp2_with fail
      refine HW4.out.mono ?_
      rintro _ w9 ⟨v9, rfl, hw9, hs9⟩
      have hn9 : ∀ r, v9.ownBlock = some r → W.heap.size ≤ r := fun r hr => by
        rcases hs9.2 with e | ⟨r', e, hr'⟩
        · rw [e] at hr; cases hr
        · rw [e] at hr; injection hr with hr; subst hr; have := HF7.out.1; simp at hr'; omega
      have Hn9 := Lib.hid hn9
      have hs9f : Fr (fun b => b = w7.heap.size) (w7.alloc (.cells #[.slice none 0 0] 82)) w9 := hs9.1.mono (fun b hb => hb.elim id (fun e => by cases e))
      have ho9 : Out w9 w2.heap.size v6 st.done := HO8.out.fr hs9f (fun e => by have := HG2.out; have : w2.heap.size = w7.heap.size := e; omega) (fun r hr e => by
        have := HO7.out.lt_own (b := r) (.inr hr.symm)
        have : r = w7.heap.size := e
        omega)
      have hf9 : Fr none_ W w9 := (HF7.out.alloc _).new hs9f (fun c hc => by have := HF7.out.1; have : c = w7.heap.size := hc; omega)
      have HT := Lib.hid (wText_any w2.heap.size 84 v6 _ st.done.l w9 ho9)
      have HRw : Hid (Calls Tryd.prog 42 #[.pointer (some ⟨w7.heap.size, 0, none⟩), .string ⟨st.done.l.toArray⟩] w9 _) := Lib.hid (wRaw_any w7.heap.size 82 v9 [] _ w9 ⟨st.done.l.toArray⟩ hw9 (by
        have h1 : (⟨st.done.l.toArray⟩ : ByteArray).size = n := by rw [HDL.out]; show st.l.toArray.size = n; simpa using hn
        rw [h1]
        simp [leB_length]
        omega))
      have HF9 := Lib.hid hf9
      have Hsz : Hid (W.heap.size ≤ w7.heap.size) := Lib.hid HF7.out.1
      clear hn9 hw9 hs9 hs9f ho9 hf9 HW4 HL2 HNW HO8
      go_wp2_with fail
      refine HT.out.mono ?_
      rintro _ w10 ⟨rfl, rfl⟩
      go_wp2_with fail
      refine HRw.out.mono ?_
      rintro _ w10 ⟨v10, rfl, hw10, hs10⟩
      have hf10 : Fr none_ W w10 := HF9.out.new hs10.1 (fun c hc => by
        rcases hc with x | x
        · have := Hsz.out; omega
        · exact Hn9.out c x.symm)
      have HT2 := Lib.hid (wText_any w7.heap.size 82 v10 _ _ w10 hw10)
      have HF10 := Lib.hid hf10
      clear hw10 hs10 hf10 HT HRw
      go_wp2_with fail
      refine HT2.out.mono ?_
      rintro _ w11 ⟨rfl, rfl⟩
      go_wp2
      go_ret2
      refine ⟨?_, HF10.out⟩
      rw [HR.out, HDL.out]
      rfl
    · have hcb : (code != 0) = true := by rw [bne_iff_ne]; exact hc
      have hcb2 : (code == 0) = false := by rw [beq_eq_false_iff_ne]; exact hc
      have HRe : Hid (R = (⟨#[]⟩, code)) := Lib.hid (by rw [HR.out, if_pos hc])
      clear hc HR HL Hov
      go_wp2
      go_ret2
      exact ⟨by rw [HRe.out]; rfl, HF7.out⟩

def cost (m : MV) : Fld → Nat
  | .v => m.version.size + 8
  | .u => m.user.size + 8
  | .t => m.tree.size + 8
  | .N => m.name.size + 8
  | .D => m.data.size + 8
  | .n => sizes m.names + 8
  | .Q => 13 * m.qids.length + 8
  | .i => m.dir.room + 80
  | .q => 13
  | _ => 8
theorem visit_len (m : MV) (st : OS) (x : Fld) : (st.visit m x).l.length ≤ st.l.length + cost m x := by
  cases x <;> simp only [OS.visit, cost]
  case S => exact Nat.le_trans (OS.num_len _ _ _) (by omega)
  case v => exact Nat.le_trans (OS.sized_len _ _ _) (by omega)
  case f => exact Nat.le_trans (OS.num_len _ _ _) (by omega)
  case u => exact Nat.le_trans (OS.sized_len _ _ _) (by omega)
  case t => exact Nat.le_trans (OS.sized_len _ _ _) (by omega)
  case q => exact OS.qid_len _ _
  case o => exact Nat.le_trans (OS.num_len _ _ _) (by omega)
  case c => exact Nat.le_trans (OS.num_len _ _ _) (by omega)
  case d => exact Nat.le_trans (OS.num_len _ _ _) (by omega)
  case n =>
    have h1 := OS.fold_len m.names (st.count m.names.length)
    have h2 := OS.count_len st m.names.length
    unfold OS.names
    omega
  case Q =>
    have h1 := OS.foldq_len m.qids (st.count m.qids.length)
    have h2 := OS.count_len st m.qids.length
    unfold OS.qids
    omega
  case m => exact Nat.le_trans (OS.num_len _ _ _) (by omega)
  case N => exact Nat.le_trans (OS.sized_len _ _ _) (by omega)
  case p => exact Nat.le_trans (OS.num_len _ _ _) (by omega)
  case O => exact Nat.le_trans (OS.least_len _ _ _) (by omega)
  case D => exact Nat.le_trans (OS.sized_len _ _ _) (by omega)
  case i => exact Nat.le_trans (OS.dir_len _ _) (by omega)
theorem visits_len (m : MV) : ∀ (l : List Fld) (st : OS), (l.foldl (fun s x => s.visit m x) st).l.length ≤ st.l.length + (l.map (cost m)).sum
  | [], st => by simp
  | x :: l, st => by
    have h1 := visits_len m l (st.visit m x)
    have h2 := visit_len m st x
    simp only [List.foldl_cons, List.map_cons, List.sum_cons]
    omega
theorem cost_need (m : MV) (k : Int) (hk : (fieldsOf k).isSome = true) : (((fieldsOf k).getD []).map (cost m)).sum + 100 ≤ m.need := by
  unfold MV.need
  rcases fieldsOf_cases k hk with rfl | rfl | rfl | rfl | rfl | rfl | rfl | rfl | rfl | rfl | rfl | rfl | rfl | rfl | rfl | rfl | rfl | rfl | rfl | rfl | rfl | rfl | rfl | rfl | rfl | rfl | rfl <;> simp [fieldsOf, cost] <;> omega
theorem msg_len (m : MV) (hk : (fieldsOf m.kind).isSome = true) : (OS.msg m).l.length ≤ m.need := by
  have h1 := visits_len m ((fieldsOf m.kind).getD []) (((OS.mk [] false false).little m.kind 1).num m.tag 2)
  have h2 := cost_need m m.kind hk
  have h3 := OS.little_len (OS.mk [] false false) m.kind 1
  have h4 := OS.num_len ((OS.mk [] false false).little m.kind 1) m.tag 2
  simp only [List.length_nil] at h3
  unfold OS.msg
  omega

/-- Encode, whatever the message. -/
theorem encode_any (hp : EPre m vn vq W) : Calls Tryd.prog 10 #[.agg (mcells m vn vq)] W (EPost m.encode W) := by
  unfold MV.encode
  cases hk : (fieldsOf m.kind).isSome with
  | false => rw [if_pos rfl]; exact encode_kind m vn vq W hp hk
  | true =>
    rw [if_neg (by decide)]
    cases hs : m.shapedB with
    | false => rw [if_pos rfl]; exact encode_shape m vn vq W hp hk hs
    | true =>
      rw [if_neg (by decide)]
      exact encode_main m vn vq W hp hk hs (Nat.le_trans (msg_len m hk) hp.need)
end
end Go.Proofs.YtggkebngkkddhaaDoor
