/- The walk through shaped. -/
import Derived.Test.YtggkebngkkddhaaDoorE0
import Derived.Laws.Closers25b
namespace Go.Proofs.YtggkebngkkddhaaDoor
open Go.RowKit

theorem or_zero {a b : Int} (ha : i64r a) (hb : i64r b) : bits BinOp.or IntKind.i64 a b = 0 ↔ a = 0 ∧ b = 0 := by
  unfold i64r at ha hb
  have e : bits BinOp.or IntKind.i64 a b = IntKind.i64.wrap ((BitVec.ofInt 64 a ||| BitVec.ofInt 64 b).toNat : Int) := rfl
  rw [e, IntKind.wrap_i64]
  have hl : (BitVec.ofInt 64 a ||| BitVec.ofInt 64 b).toNat < 18446744073709551616 := (BitVec.ofInt 64 a ||| BitVec.ofInt 64 b).isLt
  have h1 : (BitVec.ofInt 64 a).toNat = 0 ↔ a = 0 := by rw [BitVec.toNat_ofInt]; omega
  have h2 : (BitVec.ofInt 64 b).toNat = 0 ↔ b = 0 := by rw [BitVec.toNat_ofInt]; omega
  have h3 : (BitVec.ofInt 64 a ||| BitVec.ofInt 64 b).toNat = 0 ↔ a = 0 ∧ b = 0 := by
    rw [BitVec.toNat_or, Nat.or_eq_zero_iff, h1, h2]
  rw [← h3]
  omega
theorem or_r (a b : Int) : i64r (bits BinOp.or IntKind.i64 a b) := by
  have e : bits BinOp.or IntKind.i64 a b = IntKind.i64.wrap ((BitVec.ofInt 64 a ||| BitVec.ofInt 64 b).toNat : Int) := rfl
  rw [e, IntKind.wrap_i64]
  unfold i64r
  omega
theorem str_nil (s : ByteArray) : s.toList = [] ↔ s = ⟨#[]⟩ := toList_nil_iff_emptyBytes s
theorem append_nil5 (a b c d e : ByteArray) : (a ++ b ++ c ++ d ++ e).toList = [] ↔ a = ⟨#[]⟩ ∧ b = ⟨#[]⟩ ∧ c = ⟨#[]⟩ ∧ d = ⟨#[]⟩ ∧ e = ⟨#[]⟩ := by
  simp only [← str_nil, ByteArray.toList_eq, ByteArray.data_append, Array.toList_append, List.append_eq_nil_iff, and_assoc]

/-- No field but the kind and the tag is there. -/
structure MV.Clear (m : MV) : Prop where
  names : m.names = []
  qids : m.qids = []
  fid : m.fid = 0
  other : m.other = 0
  old : m.old = 0
  size : m.size = 0
  mode : m.mode = 0
  perm : m.perm = 0
  code : m.code = 0
  offset : m.offset = 0
  version : m.version = ⟨#[]⟩
  user : m.user = ⟨#[]⟩
  tree : m.tree = ⟨#[]⟩
  name : m.name = ⟨#[]⟩
  data : m.data = ⟨#[]⟩
  dir : m.dir = DV0

/-- The numbers that shaped puts together are of their kind. -/
structure MV.W (m : MV) : Prop where
  fid : i64r m.fid
  other : i64r m.other
  old : i64r m.old
  size : i64r m.size
  mode : i64r m.mode
  perm : i64r m.perm
  code : i64r m.code
theorem zero_r : i64r 0 := ⟨by omega, by omega⟩
theorem visit_W (x : Fld) (st : Unit) (m : MV) (h : m.W) : (VBl.visit BBl x st m).1.W := by
  cases x <;> exact ⟨by first | exact zero_r | exact h.fid, by first | exact zero_r | exact h.other, by first | exact zero_r | exact h.old, by first | exact zero_r | exact h.size, by first | exact zero_r | exact h.mode, by first | exact zero_r | exact h.perm, by first | exact zero_r | exact h.code⟩
theorem visits_W : ∀ (l : List Fld) (st : Unit) (m : MV), m.W → (VBl.visits BBl l st m).1.W
  | [], _, _, h => h
  | x :: l, st, m, h => visits_W l _ _ (visit_W x st m h)
theorem visit_kind (V : Vis) (B : V.Big) (x : Fld) (st : V.σ) (m : MV) : (V.visit B x st m).1.kind = m.kind := by cases x <;> rfl
theorem visits_kind (V : Vis) (B : V.Big) : ∀ (l : List Fld) (st : V.σ) (m : MV), (V.visits B l st m).1.kind = m.kind
  | [], _, _ => rfl
  | x :: l, st, m => (visits_kind V B l _ _).trans (visit_kind V B x st m)

def MV.blanked (m : MV) : MV := (VBl.fields BBl () m).1

theorem MS.first {V : Vis} {W : World} {F : Nat → Prop} {st : V.σ} {m : MV} {vn vq : Value} (hi : V.inv st F (W.alloc (.cells (mcells m vn vq) 31))) (hF : ∀ c, F c → c < W.heap.size) (hn : StrsAt W vn m.names) (hq : QidsAt W vq m.qids) (a1 : Apart vn F) (a2 : Apart vq F) :
    MS V F none_ (W.alloc (.cells (mcells m vn vq) 31)) W.heap.size st m vn vq (W.alloc (.cells (mcells m vn vq) 31)) := by
  have h1 : Fr none_ W (W.alloc (.cells (mcells m vn vq) 31)) := (Fr.refl _ W).alloc _
  refine ⟨⟨F, hi, fun c hc => .inl hc, a1, a2⟩, fun x => Nat.lt_irrefl _ (hF _ x), by simp, Blk.new _ _ _, hn.fr h1 (fun _ _ _ _ _ x => x), hq.fr h1 (fun _ _ _ _ _ x => x), fun a n c e hk x => ?_, fun a n c e hk x => ?_, Fr.refl _ _, fun c hc => hc.elim, fun _ _ _ _ _ x => x, fun _ _ _ _ _ x => x⟩
  · have := hn.lt e hk; have : a.block = W.heap.size := x; omega
  · have := hq.lt e hk; have : a.block = W.heap.size := x; omega


/-- What the last test of shaped asks, as the walk spells it. -/
theorem clear_iff (r : MV) (hw : r.W) (hn : r.names.length = 0) (hq : r.qids.length = 0) :
    r.Clear ↔ (bits BinOp.or IntKind.i64 (bits BinOp.or IntKind.i64 (bits BinOp.or IntKind.i64 (bits BinOp.or IntKind.i64 (bits BinOp.or IntKind.i64 (bits BinOp.or IntKind.i64 r.fid r.other) r.old) r.size) r.mode) r.perm) r.code = 0 ∧ r.offset = 0 ∧
      (r.version ++ r.user ++ r.tree ++ r.name ++ r.data).toList = [] ∧ r.dir.q.k = 0 ∧ r.dir.q.v = 0 ∧ r.dir.q.p = 0 ∧ r.dir.mode = 0 ∧ r.dir.time = 0 ∧ r.dir.len = 0 ∧ r.dir.name.toList = [] ∧ r.dir.owner.toList = [] ∧ r.dir.group.toList = [] ∧ r.dir.last.toList = []) := by
  rw [or_zero (or_r _ _) hw.code, or_zero (or_r _ _) hw.perm, or_zero (or_r _ _) hw.mode, or_zero (or_r _ _) hw.size, or_zero (or_r _ _) hw.old, or_zero hw.fid hw.other, append_nil5]
  simp only [str_nil]
  constructor
  · intro h
    have hd := h.dir
    rw [hd]
    exact ⟨⟨⟨⟨⟨⟨⟨h.fid, h.other⟩, h.old⟩, h.size⟩, h.mode⟩, h.perm⟩, h.code⟩, h.offset, ⟨h.version, h.user, h.tree, h.name, h.data⟩, rfl, rfl, rfl, rfl, rfl, rfl, rfl, rfl, rfl, rfl⟩
  · rintro ⟨⟨⟨⟨⟨⟨⟨a1, a2⟩, a3⟩, a4⟩, a5⟩, a6⟩, a7⟩, a8, ⟨b1, b2, b3, b4, b5⟩, c1, c2, c3, c4, c5, c6, c7, c8, c9, c10⟩
    refine ⟨List.eq_nil_of_length_eq_zero hn, List.eq_nil_of_length_eq_zero hq, a1, a2, a3, a4, a5, a6, a7, a8, b1, b2, b3, b4, b5, ?_⟩
    rcases hdr : r.dir with ⟨⟨k, v, p⟩, x4, x5, x6, x7, x8, x9, x10⟩
    simp only [hdr] at c1 c2 c3 c4 c5 c6 c7 c8 c9 c10
    subst c1 c2 c3 c4 c5 c6 c7 c8 c9 c10
    rfl

/-- What shaped gives. -/
def SPost (r : MV) (W : World) (e : Ending) (w' : World) : Prop := ∃ b : Bool, (b = true ↔ r.Clear) ∧ e = .returned (.bool b) ∧ Fr none_ W w'

theorem spost_false {r : MV} {W w' : World} (h : ¬ r.Clear) (hf : Fr none_ W w') : SPost r W (.returned (.bool false)) w' := ⟨false, ⟨fun e => (by cases e), fun x => absurd x h⟩, rfl, hf⟩
theorem spost_true {r : MV} {W w' : World} (h : r.Clear) (hf : Fr none_ W w') : SPost r W (.returned (.bool true)) w' := ⟨true, ⟨fun _ => h, fun _ => rfl⟩, rfl, hf⟩

section
variable (m : MV) (vn vq : Value) (W : World)

/-- fields, of the blank, over a message laid in a new block. -/
theorem blank_fields (hn : StrsAt W vn m.names) (hq : QidsAt W vq m.qids) (hr : m.R) (hk : (fieldsOf m.kind).isSome = true) (ho : isOne m.kind = false) :
    Calls Tryd.prog 23 #[.iface 118 (.agg #[]), .pointer (some ⟨W.heap.size, 0, none⟩)] (W.alloc (.cells (mcells m vn vq) 31)) (MPost VBl none_ none_ (W.alloc (.cells (mcells m vn vq) 31)) W.heap.size (VBl.fields BBl () m)) :=
  fields_any (V := VBl) (B := BBl) ⟨VBl_good, BBl_good, MS.first (V := VBl) (F := none_) (fun _ x => x) (fun _ x => x.elim) hn hq (fun _ _ _ _ _ x => x) (fun _ _ _ _ _ x => x), hr, trivial, trivial, trivial, fun h => (by rw [ho] at h; cases h), fun h => (by rw [ho] at h; cases h)⟩ hk

set_option maxRecDepth 20000 in
set_option maxHeartbeats 1000000 in
theorem shaped_no1 (ho : isOne m.kind = true) (hl : m.qids.length ≠ 1) (hq : QidsAt W vq m.qids) : Calls Tryd.prog 36 #[.agg (mcells m vn vq)] W (fun e w' => e = .returned (.bool false) ∧ Fr none_ W w') := by
  obtain ⟨oa, cap, rfl, _⟩ := hq
  have hb := Blk.new W 31 (mcells m vn (.slice oa m.qids.length cap))
  have c0 : (W.alloc (.cells (mcells m vn (.slice oa m.qids.length cap)) 31)).cell? ⟨W.heap.size, 0, none⟩ = some (.int .i64 m.kind) := hb.cell 0
  have c1 : (W.alloc (.cells (mcells m vn (.slice oa m.qids.length cap)) 31)).cell? ⟨W.heap.size, 14, none⟩ = some (.slice oa m.qids.length cap) := hb.cell 14
  have H := Lib.hid (single_any m.kind (W.alloc (.cells (mcells m vn (.slice oa m.qids.length cap)) 31)))
  rw [ho] at H
  have hb1 : ((m.qids.length : Int) == 1) = false := by rw [beq_eq_false_iff_ne]; omega
  have hb2 : ((m.qids.length : Int) != 1) = true := by rw [bne_iff_ne]; omega
  clear hl hb ho
  generalize m.qids.length = n at *
  go_enter Tryd.func36, Tryd.ntmps36
  go_wp2_with fail
  refine H.out.mono ?_
  rintro _ w1 ⟨rfl, rfl⟩
  go_wp2
  go_ret
  exact ⟨rfl, (Fr.refl _ _).alloc _⟩



set_option maxRecDepth 20000 in
set_option maxHeartbeats 4000000 in
theorem shaped_many (hn : StrsAt W vn m.names) (hq : QidsAt W vq m.qids) (hr : m.R) (hw : m.W) (hk : (fieldsOf m.kind).isSome = true) (ho : isOne m.kind = false) (hs : m.blanked.version.size + m.blanked.user.size + m.blanked.tree.size + m.blanked.name.size + m.blanked.data.size ≤ 1000000) :
    Calls Tryd.prog 36 #[.agg (mcells m vn vq)] W (SPost m.blanked W) := by
  have hb := Blk.new W 31 (mcells m vn vq)
  have c0 : (W.alloc (.cells (mcells m vn vq) 31)).cell? ⟨W.heap.size, 0, none⟩ = some (.int .i64 m.kind) := hb.cell 0
  have HF := Lib.hid (blank_fields m vn vq W hn hq hr hk ho)
  have H := Lib.hid (single_any m.kind (W.alloc (.cells (mcells m vn vq) 31)))
  rw [ho] at H
  have Ho := Lib.hid ho
  have hkd : (VBl.fields BBl () m).1.kind = m.kind := visits_kind _ _ _ _ _
  have hWr : (VBl.fields BBl () m).1.W := visits_W _ _ _ hw
  unfold MV.blanked at hs ⊢
  generalize VBl.fields BBl () m = r at *
  have Hs := Lib.hid hs
  have HW := Lib.hid hWr
  have Hkd := Lib.hid hkd
  clear hb ho hn hq hr hk hw hs hkd hWr
  go_enter Tryd.func36, Tryd.ntmps36
  go_wp2_with fail
  refine H.out.mono ?_
  rintro _ w1 ⟨rfl, rfl⟩
  go_wp2_with fail
  refine HF.out.mono ?_
  rintro _ w1 ⟨rfl, vn', vq', h1⟩
  have d0 : w1.cell? ⟨W.heap.size, 0, none⟩ = some (.int .i64 m.kind) := by rw [← Hkd.out]; exact h1.blk.cell 0
  have d2 : w1.cell? ⟨W.heap.size, 2, none⟩ = some (.int .i64 r.1.fid) := h1.blk.cell 2
  have d3 : w1.cell? ⟨W.heap.size, 3, none⟩ = some (.int .i64 r.1.other) := h1.blk.cell 3
  have d4 : w1.cell? ⟨W.heap.size, 4, none⟩ = some (.int .i64 r.1.old) := h1.blk.cell 4
  have d5 : w1.cell? ⟨W.heap.size, 5, none⟩ = some (.int .i64 r.1.size) := h1.blk.cell 5
  have d6 : w1.cell? ⟨W.heap.size, 6, none⟩ = some (.int .i64 r.1.offset) := h1.blk.cell 6
  have d7 : w1.cell? ⟨W.heap.size, 7, none⟩ = some (.int .i64 r.1.mode) := h1.blk.cell 7
  have d8 : w1.cell? ⟨W.heap.size, 8, none⟩ = some (.int .i64 r.1.perm) := h1.blk.cell 8
  have d9 : w1.cell? ⟨W.heap.size, 9, none⟩ = some (.string r.1.version) := h1.blk.cell 9
  have d10 : w1.cell? ⟨W.heap.size, 10, none⟩ = some (.string r.1.user) := h1.blk.cell 10
  have d11 : w1.cell? ⟨W.heap.size, 11, none⟩ = some (.string r.1.tree) := h1.blk.cell 11
  have d12 : w1.cell? ⟨W.heap.size, 12, none⟩ = some (.string r.1.name) := h1.blk.cell 12
  have d15 : w1.cell? ⟨W.heap.size, 15, none⟩ = some (.string r.1.data) := h1.blk.cell 15
  have d26 : w1.cell? ⟨W.heap.size, 26, none⟩ = some (.int .i64 r.1.code) := h1.blk.cell 26
  have d16 : w1.cell? ⟨W.heap.size, 16, none⟩ = some (.int .i64 r.1.dir.q.k) := h1.blk.cell 16
  have d17 : w1.cell? ⟨W.heap.size, 17, none⟩ = some (.int .i64 r.1.dir.q.v) := h1.blk.cell 17
  have d18 : w1.cell? ⟨W.heap.size, 18, none⟩ = some (.int .i64 r.1.dir.q.p) := h1.blk.cell 18
  have d19 : w1.cell? ⟨W.heap.size, 19, none⟩ = some (.int .i64 r.1.dir.mode) := h1.blk.cell 19
  have d20 : w1.cell? ⟨W.heap.size, 20, none⟩ = some (.int .i64 r.1.dir.time) := h1.blk.cell 20
  have d21 : w1.cell? ⟨W.heap.size, 21, none⟩ = some (.int .i64 r.1.dir.len) := h1.blk.cell 21
  have d22 : w1.cell? ⟨W.heap.size, 22, none⟩ = some (.string r.1.dir.name) := h1.blk.cell 22
  have d23 : w1.cell? ⟨W.heap.size, 23, none⟩ = some (.string r.1.dir.owner) := h1.blk.cell 23
  have d24 : w1.cell? ⟨W.heap.size, 24, none⟩ = some (.string r.1.dir.group) := h1.blk.cell 24
  have d25 : w1.cell? ⟨W.heap.size, 25, none⟩ = some (.string r.1.dir.last) := h1.blk.cell 25
  obtain ⟨oa, cap, rfl, _⟩ := h1.ns
  obtain ⟨ob, cbp, rfl, _⟩ := h1.qs
  have d13 : w1.cell? ⟨W.heap.size, 13, none⟩ = some (.slice oa r.1.names.length cap) := h1.blk.cell 13
  have d14 : w1.cell? ⟨W.heap.size, 14, none⟩ = some (.slice ob r.1.qids.length cbp) := h1.blk.cell 14
  have H2 := Lib.hid (single_any m.kind w1)
  rw [Ho.out] at H2
  have HFR : Hid (Fr none_ W w1) := Lib.hid (((Fr.refl none_ W).alloc _).trans_ h1.fr (fun c hc hl => by rcases hc with x | x; exact x; omega))
  have hsz := Hs.out
  clear h1 HF H
  by_cases hnn : r.1.names.length = 0
  · have HN := Lib.hid hnn
    rw [hnn] at d13
    by_cases hqq : r.1.qids.length = 0
    · have HQ := Lib.hid hqq
      rw [hqq] at d14
      clear hnn hqq
      go_wp2_with fail
      refine H2.out.mono ?_
      rintro _ w2 ⟨rfl, rfl⟩
      clear H2
      go_wp2
      all_goals
        go_ret
        first
        | exact spost_true ((clear_iff _ HW.out HN.out HQ.out).2 ⟨‹_›, ‹_›, ‹_›, ‹_›, ‹_›, ‹_›, ‹_›, ‹_›, ‹_›, ‹_›, ‹_›, ‹_›, ‹_›⟩) HFR.out
        | exact spost_false (fun hc => by obtain ⟨g1, g2, g3, g4, g5, g6, g7, g8, g9, g10, g11, g12, g13⟩ := (clear_iff _ HW.out HN.out HQ.out).1 hc; contradiction) HFR.out
    · have HC : Hid (¬ r.1.Clear) := Lib.hid (fun hc => hqq (by rw [hc.qids]; rfl))
      have hq2 : ((r.1.qids.length : Int) == 0) = false := by rw [beq_eq_false_iff_ne]; omega
      clear hnn hqq
      generalize r.1.qids.length = nq at d14 hq2
      go_wp2_with fail
      refine H2.out.mono ?_
      rintro _ w2 ⟨rfl, rfl⟩
      clear H2
      go_wp2
      go_ret
      exact spost_false HC.out HFR.out
  · have HC : Hid (¬ r.1.Clear) := Lib.hid (fun hc => hnn (by rw [hc.names]; rfl))
    have hq2 : ((r.1.names.length : Int) == 0) = false := by rw [beq_eq_false_iff_ne]; omega
    clear hnn
    generalize r.1.names.length = nn at d13 hq2
    generalize r.1.qids.length = nq at d14
    go_wp2_with fail
    refine H2.out.mono ?_
    rintro _ w2 ⟨rfl, rfl⟩
    clear H2
    go_wp2
    go_ret
    exact spost_false HC.out HFR.out

set_option maxRecDepth 20000 in
set_option maxHeartbeats 4000000 in
theorem shaped_one (hn : StrsAt W vn m.names) (hq : QidsAt W vq m.qids) (hr : m.R) (hw : m.W) (hk : (fieldsOf m.kind).isSome = true) (ho : isOne m.kind = true) (hl : m.qids.length = 1) (hs : ({ m with qids := [⟨0, 0, 0⟩] } : MV).blanked.version.size + ({ m with qids := [⟨0, 0, 0⟩] } : MV).blanked.user.size + ({ m with qids := [⟨0, 0, 0⟩] } : MV).blanked.tree.size + ({ m with qids := [⟨0, 0, 0⟩] } : MV).blanked.name.size + ({ m with qids := [⟨0, 0, 0⟩] } : MV).blanked.data.size ≤ 1000000) :
    Calls Tryd.prog 36 #[.agg (mcells m vn vq)] W (SPost { ({ m with qids := [⟨0, 0, 0⟩] } : MV).blanked with qids := [] } W) := by
  have hb := Blk.new W 31 (mcells m vn vq)
  have c0 : (W.alloc (.cells (mcells m vn vq) 31)).cell? ⟨W.heap.size, 0, none⟩ = some (.int .i64 m.kind) := hb.cell 0
  have h0 : MS VBl none_ none_ (W.alloc (.cells (mcells m vn vq) 31)) W.heap.size () m vn vq (W.alloc (.cells (mcells m vn vq) 31)) := MS.first (V := VBl) (F := none_) (fun _ x => x) (fun _ x => x.elim) hn hq (fun _ _ _ _ _ x => x) (fun _ _ _ _ _ x => x)
  have h2 := h0.laid VBl_good
  rw [World.setCell_alloc_past _ _ _ _ hb.lt, World.setCell_alloc_new, show (W.alloc (.cells (mcells m vn vq) 31)).heap.size = W.heap.size + 1 from by simp] at h2
  obtain ⟨oa0, cap0, hvq, _⟩ := hq
  rw [hl] at hvq
  have c14 : (W.alloc (.cells (mcells m vn vq) 31)).cell? ⟨W.heap.size, 14, none⟩ = some (.slice oa0 1 cap0) := by rw [← hvq]; exact hb.cell 14
  have z14 : (W.alloc (.cells (mcells m vn vq) 31)).frozen? ⟨W.heap.size, 14, none⟩ = false := hb.frozen 14
  have z14' : ((W.alloc (.cells (mcells m vn vq) 31)).alloc (.cells #[.int .i64 0, .int .i64 0, .int .i64 0] 26)).frozen? ⟨W.heap.size, 14, none⟩ = false := (hb.alloc _).frozen 14
  have c14' : ((W.alloc (.cells (mcells m vn vq) 31)).alloc (.cells #[.int .i64 0, .int .i64 0, .int .i64 0] 26)).cell? ⟨W.heap.size, 14, none⟩ = some (.slice oa0 1 cap0) := by rw [← hvq]; exact (hb.alloc _).cell 14
  have hlt : W.heap.size < (W.alloc (.cells (mcells m vn vq) 31)).heap.size := hb.lt
  have HF := Lib.hid (fields_any (V := VBl) (B := BBl) ⟨VBl_good, BBl_good, h2, ⟨hr.offset, hr.dir, fun q hq => by simp at hq; subst hq; exact zero_r⟩, trivial, trivial, trivial, fun _ => .inl (fun a n c e => by
      injection e with e1 _ _
      injection e1 with e1
      subst e1
      exact ⟨by simp, fun a n c e hn2 x => by have := hn.lt e hn2; have : a.block = W.heap.size + 1 := x; omega⟩), fun _ => .inr ⟨_, rfl⟩⟩ hk)
  have H := Lib.hid (single_any m.kind (W.alloc (.cells (mcells m vn vq) 31)))
  rw [ho] at H
  have Ho := Lib.hid ho
  have hkd : (VBl.fields BBl () { m with qids := [⟨0, 0, 0⟩] }).1.kind = m.kind := visits_kind _ _ _ _ _
  have hWr : (VBl.fields BBl () { m with qids := [⟨0, 0, 0⟩] }).1.W := visits_W _ _ _ ⟨hw.fid, hw.other, hw.old, hw.size, hw.mode, hw.perm, hw.code⟩
  unfold MV.blanked at hs ⊢
  generalize VBl.fields BBl () { m with qids := [⟨0, 0, 0⟩] } = r at *
  have Hs := Lib.hid hs
  have HW : Hid ({ r.1 with qids := [] } : MV).W := Lib.hid ⟨hWr.fid, hWr.other, hWr.old, hWr.size, hWr.mode, hWr.perm, hWr.code⟩
  have Hkd := Lib.hid hkd
  have hmk := make_qid
  have HFR0 : Hid (∀ w', Fr (fun c => none_ c ∨ c = W.heap.size) (W.alloc (.cells (mcells m vn vq) 31)) w' → Fr none_ W w') := Lib.hid (fun w' hf => ((Fr.refl none_ W).alloc _).trans_ hf (fun c hc hl => by rcases hc with x | x; exact x; omega))
  clear hb ho hn hr hk hw hs hkd hWr hl hvq h0 h2
  go_enter Tryd.func36, Tryd.ntmps36
  go_wp2_with fail
  refine H.out.mono ?_
  rintro _ w1 ⟨rfl, rfl⟩
  go_wp2_with fail
  refine HF.out.mono ?_
  rintro _ w1 ⟨rfl, vn', vq', h1⟩
  have d0 : w1.cell? ⟨W.heap.size, 0, none⟩ = some (.int .i64 m.kind) := by rw [← Hkd.out]; exact h1.blk.cell 0
  have d2 : w1.cell? ⟨W.heap.size, 2, none⟩ = some (.int .i64 r.1.fid) := h1.blk.cell 2
  have d3 : w1.cell? ⟨W.heap.size, 3, none⟩ = some (.int .i64 r.1.other) := h1.blk.cell 3
  have d4 : w1.cell? ⟨W.heap.size, 4, none⟩ = some (.int .i64 r.1.old) := h1.blk.cell 4
  have d5 : w1.cell? ⟨W.heap.size, 5, none⟩ = some (.int .i64 r.1.size) := h1.blk.cell 5
  have d6 : w1.cell? ⟨W.heap.size, 6, none⟩ = some (.int .i64 r.1.offset) := h1.blk.cell 6
  have d7 : w1.cell? ⟨W.heap.size, 7, none⟩ = some (.int .i64 r.1.mode) := h1.blk.cell 7
  have d8 : w1.cell? ⟨W.heap.size, 8, none⟩ = some (.int .i64 r.1.perm) := h1.blk.cell 8
  have d9 : w1.cell? ⟨W.heap.size, 9, none⟩ = some (.string r.1.version) := h1.blk.cell 9
  have d10 : w1.cell? ⟨W.heap.size, 10, none⟩ = some (.string r.1.user) := h1.blk.cell 10
  have d11 : w1.cell? ⟨W.heap.size, 11, none⟩ = some (.string r.1.tree) := h1.blk.cell 11
  have d12 : w1.cell? ⟨W.heap.size, 12, none⟩ = some (.string r.1.name) := h1.blk.cell 12
  have d15 : w1.cell? ⟨W.heap.size, 15, none⟩ = some (.string r.1.data) := h1.blk.cell 15
  have d26 : w1.cell? ⟨W.heap.size, 26, none⟩ = some (.int .i64 r.1.code) := h1.blk.cell 26
  have d16 : w1.cell? ⟨W.heap.size, 16, none⟩ = some (.int .i64 r.1.dir.q.k) := h1.blk.cell 16
  have d17 : w1.cell? ⟨W.heap.size, 17, none⟩ = some (.int .i64 r.1.dir.q.v) := h1.blk.cell 17
  have d18 : w1.cell? ⟨W.heap.size, 18, none⟩ = some (.int .i64 r.1.dir.q.p) := h1.blk.cell 18
  have d19 : w1.cell? ⟨W.heap.size, 19, none⟩ = some (.int .i64 r.1.dir.mode) := h1.blk.cell 19
  have d20 : w1.cell? ⟨W.heap.size, 20, none⟩ = some (.int .i64 r.1.dir.time) := h1.blk.cell 20
  have d21 : w1.cell? ⟨W.heap.size, 21, none⟩ = some (.int .i64 r.1.dir.len) := h1.blk.cell 21
  have d22 : w1.cell? ⟨W.heap.size, 22, none⟩ = some (.string r.1.dir.name) := h1.blk.cell 22
  have d23 : w1.cell? ⟨W.heap.size, 23, none⟩ = some (.string r.1.dir.owner) := h1.blk.cell 23
  have d24 : w1.cell? ⟨W.heap.size, 24, none⟩ = some (.string r.1.dir.group) := h1.blk.cell 24
  have d25 : w1.cell? ⟨W.heap.size, 25, none⟩ = some (.string r.1.dir.last) := h1.blk.cell 25
  obtain ⟨oa, cap, rfl, _⟩ := h1.ns
  have d13 : w1.cell? ⟨W.heap.size, 13, none⟩ = some (.slice oa r.1.names.length cap) := h1.blk.cell 13
  have d14 : w1.cell? ⟨W.heap.size, 14, none⟩ = some vq' := h1.blk.cell 14
  have z14b : w1.frozen? ⟨W.heap.size, 14, none⟩ = false := h1.blk.frozen 14
  have H2 := Lib.hid (single_any m.kind w1)
  rw [Ho.out] at H2
  have HFR : Hid (Fr none_ W (w1.setCell ⟨W.heap.size, 14, none⟩ (.slice none 0 0))) := Lib.hid (HFR0.out _ (h1.fr.set (p := ⟨W.heap.size, 14, none⟩) (Or.inr rfl) _))
  have hsz := Hs.out
  clear h1 HF H c14 z14 c14' z14' hmk
  have HQ : Hid (({ r.1 with qids := [] } : MV).qids.length = 0) := Lib.hid rfl
  by_cases hnn : r.1.names.length = 0
  · have HN : Hid (({ r.1 with qids := [] } : MV).names.length = 0) := Lib.hid hnn
    rw [hnn] at d13
    clear hnn
    go_wp2_with fail
    refine H2.out.mono ?_
    rintro _ w2 ⟨rfl, rfl⟩
    clear H2
    go_wp2
    all_goals
      go_ret
      first
      | exact spost_true ((clear_iff _ HW.out HN.out HQ.out).2 ⟨‹_›, ‹_›, ‹_›, ‹_›, ‹_›, ‹_›, ‹_›, ‹_›, ‹_›, ‹_›, ‹_›, ‹_›, ‹_›⟩) HFR.out
      | exact spost_false (fun hc => by obtain ⟨g1, g2, g3, g4, g5, g6, g7, g8, g9, g10, g11, g12, g13⟩ := (clear_iff _ HW.out HN.out HQ.out).1 hc; contradiction) HFR.out
  · have HC : Hid (¬ ({ r.1 with qids := [] } : MV).Clear) := Lib.hid (fun hc => hnn (by have := hc.names; simp only at this; rw [this]; rfl))
    have hq2 : ((r.1.names.length : Int) == 0) = false := by rw [beq_eq_false_iff_ne]; omega
    clear hnn
    generalize r.1.names.length = nn at d13 hq2
    go_wp2_with fail
    refine H2.out.mono ?_
    rintro _ w2 ⟨rfl, rfl⟩
    clear H2
    go_wp2
    go_ret
    exact spost_false HC.out HFR.out
end
end Go.Proofs.YtggkebngkkddhaaDoor
