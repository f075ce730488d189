/- shaped, whatever the message; the walk through Encode. -/
import Derived.Test.YtggkebngkkddhaaDoorE1
namespace Go.Proofs.YtggkebngkkddhaaDoor
open Go.RowKit

def MV.texts (m : MV) : Nat := m.version.size + m.user.size + m.tree.size + m.name.size + m.data.size
theorem visit_texts (x : Fld) (st : Unit) (m : MV) : (VBl.visit BBl x st m).1.texts ≤ m.texts := by
  have h0 : (⟨#[]⟩ : ByteArray).size = 0 := rfl
  cases x <;> simp only [Vis.visit, Vis.one, VBl, BBl, MV.texts, h0] <;> omega
theorem visits_texts : ∀ (l : List Fld) (st : Unit) (m : MV), (VBl.visits BBl l st m).1.texts ≤ m.texts
  | [], _, _ => Nat.le_refl _
  | x :: l, st, m => Nat.le_trans (visits_texts l _ _) (visit_texts x st m)

/-- A message has no field but those of its kind, and one qid where its kind has one. -/
def MV.Shaped (m : MV) : Prop := if isOne m.kind = true then m.qids.length = 1 ∧ ({ ({ m with qids := [⟨0, 0, 0⟩] } : MV).blanked with qids := [] } : MV).Clear else m.blanked.Clear

theorem shaped_any (m : MV) (vn vq : Value) (W : World) (hn : StrsAt W vn m.names) (hq : QidsAt W vq m.qids) (hr : m.R) (hw : m.W) (hk : (fieldsOf m.kind).isSome = true) (hs : m.texts ≤ 1000000) :
    Calls Tryd.prog 36 #[.agg (mcells m vn vq)] W (fun e w' => ∃ b : Bool, (b = true ↔ m.Shaped) ∧ e = .returned (.bool b) ∧ Fr none_ W w') := by
  cases ho : isOne m.kind with
  | true =>
    have hS : m.Shaped ↔ (m.qids.length = 1 ∧ ({ ({ m with qids := [⟨0, 0, 0⟩] } : MV).blanked with qids := [] } : MV).Clear) := by unfold MV.Shaped; rw [if_pos ho]
    by_cases hl : m.qids.length = 1
    · have ht : ({ m with qids := [⟨0, 0, 0⟩] } : MV).blanked.texts ≤ 1000000 := Nat.le_trans (visits_texts _ _ _) hs
      refine (shaped_one m vn vq W hn hq hr hw hk ho hl ht).mono ?_
      rintro e w' ⟨b, hb, he, hf⟩
      exact ⟨b, hb.trans (by rw [hS]; exact ⟨fun x => ⟨hl, x⟩, fun x => x.2⟩), he, hf⟩
    · refine (shaped_no1 m vn vq W ho hl hq).mono ?_
      rintro e w' ⟨he, hf⟩
      exact ⟨false, ⟨fun x => (by cases x), fun x => absurd (hS.1 x).1 hl⟩, he, hf⟩
  | false =>
    have hS : m.Shaped ↔ m.blanked.Clear := by unfold MV.Shaped; rw [if_neg (by rw [ho]; decide)]
    have ht : m.blanked.texts ≤ 1000000 := Nat.le_trans (visits_texts _ _ _) hs
    refine (shaped_many m vn vq W hn hq hr hw hk ho ht).mono ?_
    rintro e w' ⟨b, hb, he, hf⟩
    exact ⟨b, hb.trans hS.symm, he, hf⟩

/-- One field of a message, written. -/
def OS.visit (st : OS) (m : MV) (x : Fld) : OS :=
  match x with
  | .S => st.num m.size 4
  | .v => st.sized m.version 2
  | .f => st.num m.fid 4
  | .u => st.sized m.user 2
  | .t => st.sized m.tree 2
  | .q => st.qid (match m.qids with | [q] => q | _ => ⟨0, 0, 0⟩)
  | .o => st.num m.other 4
  | .c => st.num m.code 2
  | .d => st.num m.old 2
  | .n => st.names m.names
  | .Q => st.qids m.qids
  | .m => st.num m.mode 1
  | .N => st.sized m.name 2
  | .p => st.num m.perm 4
  | .O => st.least m.offset 0
  | .D => st.sized m.data 4
  | .i => st.dir m.dir
attribute [local irreducible] OS.sized OS.mode OS.count OS.least OS.num OS.little OS.dir

theorem out_visit (g : Nat) (st : OS) (m : MV) (x : Fld) : ((VOut g).visit (BOut g) x st m).2 = st.visit m x := by cases x <;> rfl
theorem out_same (g : Nat) (st : OS) (m : MV) (x : Fld) (h : x = .q → m.qids.length = 1) : ((VOut g).visit (BOut g) x st m).1 = m := by
  cases x <;> first | rfl | skip
  have h1 := h rfl
  match hq : m.qids, h1 with
  | [q], _ =>
    show ({ m with qids := [((VOut g).qid st (match m.qids with | [q] => q | _ => ⟨0, 0, 0⟩)).1] } : MV) = m
    rw [hq]
    show ({ m with qids := [q] } : MV) = m
    rw [← hq]
theorem out_visits (g : Nat) (m : MV) : ∀ (l : List Fld) (st : OS), (Fld.q ∈ l → m.qids.length = 1) → (VOut g).visits (BOut g) l st m = (m, l.foldl (fun s x => s.visit m x) st)
  | [], st, _ => rfl
  | x :: l, st, h => by
    have h1 := out_same g st m x (fun e => h (by rw [e]; exact List.mem_cons_self))
    have h2 := out_visit g st m x
    show (VOut g).visits (BOut g) l ((VOut g).visit (BOut g) x st m).2 ((VOut g).visit (BOut g) x st m).1 = _
    rw [h1, h2]
    exact out_visits g m l _ (fun e => h (List.mem_cons_of_mem _ e))
theorem q_one (k : Int) (h : Fld.q ∈ (fieldsOf k).getD []) : isOne k = true := by
  cases hs : (fieldsOf k).isSome with
  | true => rcases fieldsOf_cases k hs with rfl | rfl | rfl | rfl | rfl | rfl | rfl | rfl | rfl | rfl | rfl | rfl | rfl | rfl | rfl | rfl | rfl | rfl | rfl | rfl | rfl | rfl | rfl | rfl | rfl | rfl | rfl <;> first | rfl | (exact absurd h (by decide))
  | false =>
    rw [Option.isSome_eq_false_iff, Option.isNone_iff_eq_none] at hs
    rw [hs] at h
    cases h

/-- What an output holds behind the fields of a message. -/
def OS.msg (m : MV) : OS := ((fieldsOf m.kind).getD []).foldl (fun s x => s.visit m x) (((OS.mk [] false false).little m.kind 1).num m.tag 2)
theorem out_fields (g : Nat) (m : MV) (h : isOne m.kind = true → m.qids.length = 1) : (VOut g).fields (BOut g) (((OS.mk [] false false).little m.kind 1).num m.tag 2) m = (m, OS.msg m) :=
  out_visits g m _ _ (fun hq => h (q_one _ hq))
theorem MV.Shaped.one {m : MV} (h : m.Shaped) (ho : isOne m.kind = true) : m.qids.length = 1 := by
  unfold MV.Shaped at h
  rw [if_pos ho] at h
  exact h.1

def OS.done (st : OS) : OS := { st with over := st.over || decide (8192 < st.l.length + 4) }
def OS.code (st : OS) : Int := if st.bad then 11 else if st.over then 3 else 0

def MV.clearB (m : MV) : Bool := m.names.isEmpty && m.qids.isEmpty && m.fid == 0 && m.other == 0 && m.old == 0 && m.size == 0 && m.mode == 0 && m.perm == 0 && m.code == 0 && m.offset == 0 &&
  m.version.size == 0 && m.user.size == 0 && m.tree.size == 0 && m.name.size == 0 && m.data.size == 0 && m.dir.q.k == 0 && m.dir.q.v == 0 && m.dir.q.p == 0 && m.dir.mode == 0 && m.dir.time == 0 && m.dir.len == 0 &&
  m.dir.name.size == 0 && m.dir.owner.size == 0 && m.dir.group.size == 0 && m.dir.last.size == 0
theorem size_zero {s : ByteArray} : s.size = 0 ↔ s = ⟨#[]⟩ := by
  constructor
  · intro h
    rw [← str_nil, ByteArray.toList_eq]
    exact List.eq_nil_of_length_eq_zero (by simpa using h)
  · rintro rfl; rfl
theorem clearB_iff (m : MV) : m.clearB = true ↔ m.Clear := by
  simp only [MV.clearB, Bool.and_eq_true, List.isEmpty_iff, beq_iff_eq, size_zero, and_assoc]
  constructor
  · rintro ⟨a1, a2, a3, a4, a5, a6, a7, a8, a9, a10, b1, b2, b3, b4, b5, c1, c2, c3, c4, c5, c6, c7, c8, c9, c10⟩
    refine ⟨a1, a2, a3, a4, a5, a6, a7, a8, a9, a10, b1, b2, b3, b4, b5, ?_⟩
    rcases hdr : m.dir with ⟨⟨k, v, p⟩, x4, x5, x6, x7, x8, x9, x10⟩
    simp only [hdr] at c1 c2 c3 c4 c5 c6 c7 c8 c9 c10
    subst c1 c2 c3 c4 c5 c6 c7 c8 c9 c10
    rfl
  · intro h
    have hd := h.dir
    rw [hd]
    exact ⟨h.names, h.qids, h.fid, h.other, h.old, h.size, h.mode, h.perm, h.code, h.offset, h.version, h.user, h.tree, h.name, h.data, rfl, rfl, rfl, rfl, rfl, rfl, rfl, rfl, rfl, rfl⟩
def MV.shapedB (m : MV) : Bool := if isOne m.kind = true then m.qids.length == 1 && ({ ({ m with qids := [⟨0, 0, 0⟩] } : MV).blanked with qids := [] } : MV).clearB else m.blanked.clearB
theorem shapedB_iff (m : MV) : m.shapedB = true ↔ m.Shaped := by
  unfold MV.shapedB MV.Shaped
  split
  · rw [Bool.and_eq_true, beq_iff_eq, clearB_iff]
  · rw [clearB_iff]

/-- What Encode returns. -/
def MV.encode (m : MV) : ByteArray × Int :=
  if (fieldsOf m.kind).isSome = false then (⟨#[]⟩, 13) else if m.shapedB = false then (⟨#[]⟩, 14) else
  if (OS.msg m).done.code ≠ 0 then (⟨#[]⟩, (OS.msg m).done.code) else (⟨(leB ((OS.msg m).l.length + 4 : Nat) 4 ++ (OS.msg m).l).toArray⟩, 0)
end Go.Proofs.YtggkebngkkddhaaDoor
