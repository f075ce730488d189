/- Plain law: what Encode writes, Decode reads. -/
import Derived.Test.YtggkebngkkddhaaDoorP1
namespace Go.Proofs.YtggkebngkkddhaaDoor

/-! What an output wrote, if nothing is wrong. -/
def Good (st st' : OS) (l : List UInt8) (P : Prop) : Prop := st'.bad = false → st'.over = false → st.bad = false ∧ st.over = false ∧ st'.l = st.l ++ l ∧ P
theorem Good.comp {a b c : OS} {l m : List UInt8} {P Q : Prop} (h : Good a b l P) (h' : Good b c m Q) : Good a c (l ++ m) (P ∧ Q) := fun x y => by
  obtain ⟨h1, h2, h3, h4⟩ := h' x y
  obtain ⟨g1, g2, g3, g4⟩ := h h1 h2
  exact ⟨g1, g2, by rw [h3, g3, List.append_assoc], g4, h4⟩
theorem Good.imp {a b : OS} {l : List UInt8} {P Q : Prop} (h : Good a b l P) (hq : P → Q) : Good a b l Q := fun x y => by
  obtain ⟨h1, h2, h3, h4⟩ := h x y
  exact ⟨h1, h2, h3, hq h4⟩
theorem good_num (st : OS) (n : Int) (k : Nat) : Good st (st.num n k) (leB n k) (fitsB n k = true) := by
  intro hb ho
  unfold OS.num at hb ho ⊢
  cases hf : fitsB n k with
  | true => rw [hf] at hb ho; simp only [if_true] at hb ho ⊢; exact ⟨hb, ho, by trivial, by trivial⟩
  | false => rw [hf] at hb; simp at hb
theorem good_little (st : OS) (n : Int) (k : Nat) (h : fitsB n k = true) : Good st (st.little n k) (leB n k) True := by
  intro hb ho
  unfold OS.little at hb ho ⊢
  rw [h] at hb ho ⊢
  simp only [if_true] at hb ho ⊢
  exact ⟨hb, ho, by trivial, trivial⟩
theorem good_sized (st : OS) (s : ByteArray) (k : Nat) : Good st (st.sized s k) (leB s.size k ++ bs s) (fitsB s.size k = true) := by
  intro hb ho
  unfold OS.sized at hb ho ⊢
  by_cases hc : fitsB s.size k = false ∨ 8192 < s.size
  · rw [if_pos hc] at ho; cases ho
  · rw [if_neg hc] at hb ho ⊢
    refine ⟨hb, ho, by simp [bs], ?_⟩
    cases hf : fitsB s.size k with
    | true => rfl
    | false => exact absurd (.inl hf) hc
theorem good_least (st : OS) (n m : Int) : Good st (st.least n m) (leB n 8) (m ≤ n) := by
  intro hb ho
  unfold OS.least at hb ho ⊢
  by_cases hc : n < m
  · simp only [if_pos hc] at hb; cases hb
  · simp only [if_neg hc] at hb ho ⊢
    exact ⟨hb, ho, by trivial, by omega⟩
def modeN (n : Int) : Int := if n = -1 then 4294967295 else n
theorem good_mode (st : OS) (n : Int) : Good st (st.mode n) (leB (modeN n) 4) (-1 ≤ n ∧ n < 4294967295) := by
  intro hb ho
  unfold OS.mode at hb ho ⊢
  by_cases hc : n < -1 ∨ 4294967295 ≤ n
  · rw [if_pos hc] at hb
    unfold OS.little at hb
    split at hb <;> cases hb
  · rw [if_neg hc] at hb ho ⊢
    have hf : fitsB (modeN n) 4 = true := decide_eq_true (by unfold modeN; split <;> omega)
    obtain ⟨h1, h2, h3, _⟩ := good_little st (modeN n) 4 hf hb ho
    exact ⟨h1, h2, h3, by omega⟩
def encQ (q : QV) : List UInt8 := leB q.k 1 ++ leB q.v 4 ++ leB q.p 8
def okQ (q : QV) : Prop := (fitsB q.k 1 = true ∧ fitsB q.v 4 = true) ∧ 0 ≤ q.p
theorem good_qid (st : OS) (q : QV) : Good st (st.qid q) (encQ q) (okQ q) := ((good_num _ _ _).comp (good_num _ _ _)).comp (good_least _ _ _)
def encT (s : ByteArray) (k : Nat) : List UInt8 := leB s.size k ++ bs s
def encBody (d : DV) : List UInt8 := encQ d.q ++ leB (modeN d.mode) 4 ++ leB d.time 8 ++ leB d.len 8 ++ encT d.name 2 ++ encT d.owner 2 ++ encT d.group 2 ++ encT d.last 2
def okBody (d : DV) : Prop := (((((((okQ d.q ∧ (-1 ≤ d.mode ∧ d.mode < 4294967295)) ∧ -1 ≤ d.time) ∧ -1 ≤ d.len) ∧ fitsB d.name.size 2 = true) ∧ fitsB d.owner.size 2 = true) ∧ fitsB d.group.size 2 = true) ∧ fitsB d.last.size 2 = true)
theorem good_body (st : OS) (d : DV) : Good st (st.body d) (encBody d) (okBody d) :=
  (((((((good_qid _ _).comp (good_mode _ _)).comp (good_least _ _ _)).comp (good_least _ _ _)).comp (good_sized _ _ _)).comp (good_sized _ _ _)).comp (good_sized _ _ _)).comp (good_sized _ _ _)
theorem dir_parts (st : OS) (d : DV) : ∃ x i : OS, st.dir d = x.sized ⟨i.l.toArray⟩ 2 ∧ x.l = st.l ∧ x.bad = (st.bad || i.bad) ∧ x.over = (st.over || i.over || decide (1022 < i.l.length)) ∧ i = (OS.mk [] false false).body d :=
  ⟨_, _, rfl, rfl, rfl, rfl, rfl⟩
theorem good_dir (st : OS) (d : DV) : Good st (st.dir d) (encT ⟨(encBody d).toArray⟩ 2) (okBody d ∧ fitsB (encBody d).length 2 = true ∧ (encBody d).length ≤ 1022) := by
  obtain ⟨x, i, h0, hxl, hxb, hxo, hi⟩ := dir_parts st d
  have hB := good_body (OS.mk [] false false) d
  rw [← hi] at hB
  rw [h0]
  clear h0 hi
  intro hb ho
  obtain ⟨h1, h2, h3, h4⟩ := good_sized _ _ _ hb ho
  rw [hxb] at h1
  rw [hxo] at h2
  rw [hxl] at h3
  simp only [Bool.or_eq_false_iff] at h1 h2
  obtain ⟨_, _, hl, hok⟩ := hB h1.2 h2.1.2
  have hl : i.l = encBody d := by rw [hl]; rfl
  have hsz : (⟨i.l.toArray⟩ : ByteArray).size = (encBody d).length := by rw [← hl]; show i.l.toArray.size = _; exact List.size_toArray
  refine ⟨h1.1, h2.1.1, ?_, hok, ?_, ?_⟩
  · rw [h3, hl]; rfl
  · rw [hsz] at h4; exact h4
  · have := of_decide_eq_false h2.2; rw [hl] at this; omega
theorem good_fold {α : Type} (f : OS → α → OS) (enc : α → List UInt8) (ok : α → Prop) (h : ∀ st x, Good st (f st x) (enc x) (ok x)) : ∀ (l : List α) (st : OS), Good st (l.foldl f st) (l.flatMap enc) (∀ x ∈ l, ok x)
  | [], st => fun hb ho => ⟨hb, ho, by simp, fun x hx => by cases hx⟩
  | x :: l, st => ((h st x).comp (good_fold f enc ok h l (f st x))).imp (fun ⟨h1, h2⟩ y hy => by rcases List.mem_cons.1 hy with rfl | hy; exact h1; exact h2 y hy)
theorem good_count (st : OS) (n : Nat) : Good st (st.count n) (leB n 2) (n ≤ 16) := by
  intro hb ho
  unfold OS.count at hb ho ⊢
  by_cases hc : 16 < n
  · rw [if_pos hc] at ho
    unfold OS.little at ho
    split at ho <;> cases ho
  · rw [if_neg hc] at hb ho ⊢
    obtain ⟨h1, h2, h3, _⟩ := good_little st n 2 (decide_eq_true (by omega)) hb ho
    exact ⟨h1, h2, h3, by omega⟩
def encN (l : List ByteArray) : List UInt8 := leB l.length 2 ++ l.flatMap (fun s => encT s 2)
def encQs (l : List QV) : List UInt8 := leB l.length 2 ++ l.flatMap encQ
theorem good_names (st : OS) (l : List ByteArray) : Good st (st.names l) (encN l) (l.length ≤ 16 ∧ ∀ s ∈ l, fitsB s.size 2 = true) := (good_count _ _).comp (good_fold _ (fun s => encT s 2) _ (fun st s => good_sized st s 2) l _)
theorem good_qids (st : OS) (l : List QV) : Good st (st.qids l) (encQs l) (l.length ≤ 16 ∧ ∀ q ∈ l, okQ q) := (good_count _ _).comp (good_fold _ encQ okQ (fun st s => good_qid st s) l _)

def the1 (l : List QV) : QV := match l with | [q] => q | _ => ⟨0, 0, 0⟩
def encX (m : MV) : Fld → List UInt8
  | .S => leB m.size 4
  | .v => encT m.version 2
  | .f => leB m.fid 4
  | .u => encT m.user 2
  | .t => encT m.tree 2
  | .q => encQ (the1 m.qids)
  | .o => leB m.other 4
  | .c => leB m.code 2
  | .d => leB m.old 2
  | .n => encN m.names
  | .Q => encQs m.qids
  | .m => leB m.mode 1
  | .N => encT m.name 2
  | .p => leB m.perm 4
  | .O => leB m.offset 8
  | .D => encT m.data 4
  | .i => encT ⟨(encBody m.dir).toArray⟩ 2
def okX (m : MV) : Fld → Prop
  | .S => fitsB m.size 4 = true
  | .v => fitsB m.version.size 2 = true
  | .f => fitsB m.fid 4 = true
  | .u => fitsB m.user.size 2 = true
  | .t => fitsB m.tree.size 2 = true
  | .q => okQ (the1 m.qids)
  | .o => fitsB m.other 4 = true
  | .c => fitsB m.code 2 = true
  | .d => fitsB m.old 2 = true
  | .n => m.names.length ≤ 16 ∧ ∀ s ∈ m.names, fitsB s.size 2 = true
  | .Q => m.qids.length ≤ 16 ∧ ∀ q ∈ m.qids, okQ q
  | .m => fitsB m.mode 1 = true
  | .N => fitsB m.name.size 2 = true
  | .p => fitsB m.perm 4 = true
  | .O => 0 ≤ m.offset
  | .D => fitsB m.data.size 4 = true
  | .i => okBody m.dir ∧ fitsB (encBody m.dir).length 2 = true ∧ (encBody m.dir).length ≤ 1022
theorem good_visit (st : OS) (m : MV) (x : Fld) : Good st (st.visit m x) (encX m x) (okX m x) := by
  cases x
  case S => exact good_num _ _ _
  case v => exact good_sized _ _ _
  case f => exact good_num _ _ _
  case u => exact good_sized _ _ _
  case t => exact good_sized _ _ _
  case q => exact good_qid _ _
  case o => exact good_num _ _ _
  case c => exact good_num _ _ _
  case d => exact good_num _ _ _
  case n => exact good_names _ _
  case Q => exact good_qids _ _
  case m => exact good_num _ _ _
  case N => exact good_sized _ _ _
  case p => exact good_num _ _ _
  case O => exact good_least _ _ _
  case D => exact good_sized _ _ _
  case i => exact good_dir _ _
theorem good_visits (m : MV) (l : List Fld) (st : OS) : Good st (l.foldl (fun s x => s.visit m x) st) (l.flatMap (encX m)) (∀ x ∈ l, okX m x) := good_fold _ (encX m) (okX m) (fun st x => good_visit st m x) l st
end Go.Proofs.YtggkebngkkddhaaDoor
