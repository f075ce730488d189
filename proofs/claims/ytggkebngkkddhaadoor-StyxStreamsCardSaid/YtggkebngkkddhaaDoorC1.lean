/- The walks through the output's names and qids. -/
import Derived.Test.YtggkebngkkddhaaDoorB3
namespace Go.Proofs.YtggkebngkkddhaaDoor
open Go.RowKit

attribute [local irreducible] OS.sized OS.mode OS.count OS.least OS.num OS.little OS.qid

/-- A slice's value reads as a list of strings. -/
def StrsAt (w : World) (v : Value) (l : List ByteArray) : Prop :=
  ∃ oa cap, v = .slice oa l.length cap ∧ ∀ i s, l[i]? = some s → ∃ b o, oa = some ⟨b, o, none⟩ ∧ w.cell? ⟨b, o + i, none⟩ = some (.string s)
/-- A slice's value reads as a list of qids. -/
def QidsAt (w : World) (v : Value) (l : List QV) : Prop :=
  ∃ oa cap, v = .slice oa l.length cap ∧ ∀ i q, l[i]? = some q → ∃ b o, oa = some ⟨b, o, none⟩ ∧ QAt w b (o + i * 3) q ∧ NoFrzAt w b (o + i * 3) 3
/-- No block of the slice is among these. -/
def Apart (v : Value) (S : Nat → Prop) : Prop := ∀ a n c, v = .slice (some a) n c → 0 < n → ¬ S a.block

theorem StrsAt.fr {S : Nat → Prop} {w w' : World} {v : Value} {l : List ByteArray} (h : StrsAt w v l) (hf : Fr S w w') (hs : Apart v S) : StrsAt w' v l := by
  obtain ⟨oa, cap, rfl, h⟩ := h
  refine ⟨oa, cap, rfl, fun i s hi => ?_⟩
  obtain ⟨b, o, rfl, hc⟩ := h i s hi
  have hb : ¬ S b := hs ⟨b, o, none⟩ _ _ rfl (by have := (List.getElem?_eq_some_iff.1 hi).1; omega)
  exact ⟨b, o, rfl, hf.cell hc hb⟩
theorem QidsAt.fr {S : Nat → Prop} {w w' : World} {v : Value} {l : List QV} (h : QidsAt w v l) (hf : Fr S w w') (hs : Apart v S) : QidsAt w' v l := by
  obtain ⟨oa, cap, rfl, h⟩ := h
  refine ⟨oa, cap, rfl, fun i s hi => ?_⟩
  obtain ⟨b, o, rfl, hc, hz⟩ := h i s hi
  have hb : ¬ S b := hs ⟨b, o, none⟩ _ _ rfl (by have := (List.getElem?_eq_some_iff.1 hi).1; omega)
  refine ⟨b, o, rfl, ⟨hf.cell hc.1 hb, hf.cell hc.2.1 hb, hf.cell hc.2.2 hb⟩, fun j hj => ?_⟩
  have hlt := cell_lt hc.1
  exact (World.frozen?_of_block (a := ⟨b, o + i * 3 + j, none⟩) (hf.2 b hlt hb)).trans (hz j hj)

def OS.namesN (st : OS) (l : List ByteArray) (j : Nat) : OS := (l.take j).foldl (fun s x => s.sized x 2) (st.count l.length)
def OS.names (st : OS) (l : List ByteArray) : OS := l.foldl (fun s x => s.sized x 2) (st.count l.length)
def OS.qidsN (st : OS) (l : List QV) (j : Nat) : OS := (l.take j).foldl (fun s x => s.qid x) (st.count l.length)
def OS.qids (st : OS) (l : List QV) : OS := l.foldl (fun s x => s.qid x) (st.count l.length)

def sizes (l : List ByteArray) : Nat := (l.map (fun s => s.size + 2)).sum
theorem OS.fold_len (l : List ByteArray) : ∀ (st : OS), (l.foldl (fun s x => s.sized x 2) st).l.length ≤ st.l.length + sizes l := by
  induction l with
  | nil => intro st; simp [sizes]
  | cons a l ih =>
    intro st
    have h1 := ih (st.sized a 2)
    have h2 := OS.sized_len st a 2
    simp only [List.foldl_cons, sizes, List.map_cons, List.sum_cons] at *
    omega
theorem sizes_take (l : List ByteArray) (j : Nat) (s : ByteArray) (h : l[j]? = some s) : sizes (l.take j) + s.size + 2 ≤ sizes l := by
  induction l generalizing j with
  | nil => simp at h
  | cons a l ih =>
    cases j with
    | zero => simp at h; subst h; simp [sizes]
    | succ j =>
      have := ih j (by simpa using h)
      simp only [sizes, List.take_succ_cons, List.map_cons, List.sum_cons] at *
      omega
theorem OS.qid_len (st : OS) (q : QV) : (st.qid q).l.length ≤ st.l.length + 13 := by
  unfold OS.qid
  have h1 := OS.num_len st q.k 1
  have h2 := OS.num_len (st.num q.k 1) q.v 4
  have h3 := OS.least_len ((st.num q.k 1).num q.v 4) q.p 0
  omega
theorem OS.foldq_len (l : List QV) : ∀ (st : OS), (l.foldl (fun s x => s.qid x) st).l.length ≤ st.l.length + 13 * l.length := by
  induction l with
  | nil => intro st; simp
  | cons a l ih =>
    intro st
    have h1 := ih (st.qid a)
    have h2 := OS.qid_len st a
    simp only [List.foldl_cons, List.length_cons] at *
    omega
theorem sizes_len (l : List ByteArray) : 2 * l.length ≤ sizes l := by
  induction l with
  | nil => simp [sizes]
  | cons a l ih => simp only [sizes, List.map_cons, List.sum_cons, List.length_cons] at *; omega
theorem take_snoc_fold {α σ : Type} (f : σ → α → σ) (st : σ) (l : List α) (j : Nat) (s : α) (h : l[j]? = some s) : (l.take (j + 1)).foldl f st = f ((l.take j).foldl f st) s := by
  have hj : j < l.length := (List.getElem?_eq_some_iff.1 h).1
  have hs : l[j] = s := (List.getElem?_eq_some_iff.1 h).2
  rw [List.take_succ_eq_append_getElem hj, List.foldl_append, hs]
  rfl

theorem WSt.fr {g : Nat} {own own' : Option Nat} {w w' : World} (h : WSt g own w own' w') : Fr (fun b => b = g ∨ some b = own) w w' := h.1

set_option maxRecDepth 20000 in
set_option maxHeartbeats 1000000 in
theorem oNames_any (g : Nat) (v : Value) (st : OS) (w : World) (p : Addr) (sv : Value) (l : List ByteArray) (h : Out w g v st) (hp : w.cell? p = some sv) (hs : StrsAt w sv l)
    (hpg : ¬ (p.block = g ∨ some p.block = v.ownBlock)) (hsg : Apart sv (fun b => b = g ∨ some b = v.ownBlock)) (hl : st.l.length + sizes l + 20 ≤ 1000000) :
    Calls Tryd.prog 112 #[.pointer (some ⟨g, 0, none⟩), .pointer (some p)] w (OPost g v.ownBlock (st.names l) w) := by
  have H := Lib.hid (oCount_any g v st w l.length h (by omega))
  have hcl := OS.count_len st l.length
  have hnm : l.length ≤ 1000000 := by have := sizes_len l; omega
  have hN : ∀ j s, l[j]? = some s → (st.namesN l j).l.length + s.size + 8 ≤ 1000000 := fun j s hj => by
    have h1 := OS.fold_len (l.take j) (st.count l.length)
    have h2 := sizes_take l j s hj
    unfold OS.namesN
    omega
  have hst : ∀ j s, l[j]? = some s → st.namesN l (j + 1) = (st.namesN l j).sized s 2 := fun j s hj => take_snoc_fold _ _ _ _ _ hj
  have h0 : st.namesN l 0 = st.count l.length := rfl
  have hend : st.namesN l l.length = st.names l := by unfold OS.namesN OS.names; rw [List.take_of_length_le (Nat.le_refl _)]
  obtain ⟨oa, cap, rfl, hs⟩ := hs
  have hget : ∀ j, j < l.length → ∃ s, l[j]? = some s := fun j hj => ⟨_, List.getElem?_eq_getElem hj⟩
  rw [← h0] at H
  rw [← hend]
  generalize l.length = n at *
  have HS := Lib.hid hs
  have HN := Lib.hid hN
  have Hst := Lib.hid hst
  have Hp := Lib.hid hp
  have Hpg := Lib.hid hpg
  have Hsg := Lib.hid hsg
  have Hget := Lib.hid hget
  clear hs hN hst h0 hend h hl hcl hpg hsg hget
  go_enter Tryd.func112, Tryd.ntmps112
  go_wp2_with fail
  refine H.out.mono ?_
  rintro _ w1 ⟨v1, rfl, ho1, hs1⟩
  have c1 := hs1.fr.cell Hp.out Hpg.out
  have HO1 := Lib.hid ho1
  have HS1 := Lib.hid hs1
  clear ho1 hs1 H hp
  go_wp2
  go_loopg [4, 15] n (fun gk _ i wr => ∃ (j : Nat) (vr : Value), j ≤ n ∧ gk = n - j ∧ i = .int .i64 j ∧ Out wr g vr (st.namesN l j) ∧ WSt g v.ownBlock w vr.ownBlock wr)
  case atStart => exact ⟨0, v1, Nat.zero_le _, rfl, rfl, HO1.out, HS1.out⟩
  case round =>
    obtain ⟨j, vr, hj, rfl, rfl, hO, hW⟩ := hrel
    have c2 : wr.cell? p = some (.slice oa n cap) := hW.fr.cell Hp.out Hpg.out
    have HO := Lib.hid hO
    have HW := Lib.hid hW
    clear hO hW c1
    by_cases hlt : j < n
    · obtain ⟨s, hj2⟩ := Hget.out j hlt
      obtain ⟨b, o, rfl, hc⟩ := HS.out j s hj2
      have c3 := HW.out.fr.cell hc (show ¬ (b = g ∨ some b = v.ownBlock) from Hsg.out ⟨b, o, none⟩ _ _ rfl (by omega))
      have HT := Lib.hid (oText_any g vr _ wr ⟨b, o + j, none⟩ s HO.out c3 (HN.out j s hj2))
      rw [← Hst.out j s hj2] at HT
      clear hj2 hc c3
      go_wp2_with fail
      refine HT.out.mono ?_
      rintro _ w3 ⟨v3, rfl, ho3, hs3⟩
      have HO3 := Lib.hid ho3
      have HS3 := Lib.hid (HW.out.trans hs3)
      clear ho3 hs3 HT c2
      go_wp2
      go_roundg (n - (j + 1))
      case measure => omega
      case rel => exact ⟨j + 1, v3, by omega, rfl, by go_num, HO3.out, HS3.out⟩
    · go_wp2
      go_end0
      obtain rfl : j = n := by omega
      exact ⟨_, rfl, HO.out, HW.out⟩

theorem VS.unsame {V : Vis} {F : Nat → Prop} {w A w' : World} {st : V.σ} {p : Addr} {x : Value} (h : VS V F w st (A.setCell p x) w') (hx : A.cell? p = some x) : VS V F w st A w' := by
  obtain ⟨F', hi, hF, hfr, hsz⟩ := h
  exact ⟨F', hi, hF, hfr.unsame hx, by simpa [World.setCell] using hsz⟩
theorem VS.unsameQ {V : Vis} {F : Nat → Prop} {w A w' : World} {st : V.σ} {b o : Nat} {q : QV} (h : VS V F w st (setQ A b o q) w') (hq : QAt A b o q) : VS V F w st A w' := by
  obtain ⟨F', hi, hF, hfr, hsz⟩ := h
  exact ⟨F', hi, hF, hfr.unsameQ hq, by simpa [setQ, World.setCell] using hsz⟩

/-- The blocks of an output. -/
def OF (g : Nat) (v : Value) (b : Nat) : Prop := b = g ∨ some b = v.ownBlock

set_option maxRecDepth 20000 in
set_option maxHeartbeats 1000000 in
theorem oQids_any (g : Nat) (v : Value) (st : OS) (w : World) (p : Addr) (sv : Value) (l : List QV) (h : Out w g v st) (hp : w.cell? p = some sv) (hs : QidsAt w sv l) (hr : ∀ q ∈ l, i64r q.p)
    (hpg : ¬ OF g v p.block) (hsg : Apart sv (OF g v)) (hl : st.l.length + 13 * l.length + 100 ≤ 1000000) :
    Calls Tryd.prog 114 #[.pointer (some ⟨g, 0, none⟩), .pointer (some p)] w (fun e w' => e = .returned (.tuple #[]) ∧ VS (VOut g) (OF g v) w (st.qids l) w w') := by
  have H := Lib.hid (oCount_any g v st w l.length h (by omega))
  have hcl := OS.count_len st l.length
  have hnm : l.length ≤ 1000000 := by omega
  have hN : ∀ j, (st.qidsN l j).l.length + 32 ≤ 1000000 := fun j => by
    have h1 := OS.foldq_len (l.take j) (st.count l.length)
    have h2 : (l.take j).length ≤ l.length := by rw [List.length_take]; omega
    unfold OS.qidsN
    omega
  have hst : ∀ j s, l[j]? = some s → st.qidsN l (j + 1) = (st.qidsN l j).qid s := fun j s hj => take_snoc_fold _ _ _ _ _ hj
  have h0 : st.qidsN l 0 = st.count l.length := rfl
  have hend : st.qidsN l l.length = st.qids l := by unfold OS.qidsN OS.qids; rw [List.take_of_length_le (Nat.le_refl _)]
  obtain ⟨oa, cap, rfl, hs⟩ := hs
  have hget : ∀ j, j < l.length → ∃ s, l[j]? = some s ∧ i64r s.p := fun j hj => ⟨_, List.getElem?_eq_getElem hj, hr _ (List.getElem_mem hj)⟩
  rw [← h0] at H
  rw [← hend]
  generalize l.length = n at *
  have HS := Lib.hid hs
  have HN := Lib.hid hN
  have Hst := Lib.hid hst
  have Hp := Lib.hid hp
  have Hpg := Lib.hid hpg
  have Hsg := Lib.hid hsg
  have Hget := Lib.hid hget
  have HF0 : Hid (∀ b, OF g v b ↔ (b = g ∨ some b = v.ownBlock)) := Lib.hid (fun _ => Iff.rfl)
  clear hs hN hst h0 hend h hl hcl hpg hsg hget hr
  go_enter Tryd.func114, Tryd.ntmps114
  go_wp2_with fail
  refine H.out.mono ?_
  rintro _ w1 h1
  obtain ⟨rfl, hv1⟩ := out_step HF0.out Hp.out h1
  have hv1 := hv1.unsame Hp.out
  have c1 : w1.cell? p = some (.slice oa n cap) := by obtain ⟨F', hi, hF, hfr, hsz⟩ := hv1; exact hfr.cell Hp.out Hpg.out
  have HV1 := Lib.hid hv1
  clear h1 hv1 H hp
  go_wp2
  go_loopg [4, 15] n (fun gk _ i wr => ∃ (j : Nat), j ≤ n ∧ gk = n - j ∧ i = .int .i64 j ∧ VS (VOut g) (OF g v) w (st.qidsN l j) w wr)
  case atStart => exact ⟨0, Nat.zero_le _, rfl, rfl, HV1.out⟩
  case round =>
    obtain ⟨j, hj, rfl, rfl, hV⟩ := hrel
    have c2 : wr.cell? p = some (.slice oa n cap) := by obtain ⟨F', hi, hF, hfr, hsz⟩ := hV; exact hfr.cell Hp.out Hpg.out
    have HV := Lib.hid hV
    clear hV c1
    by_cases hlt : j < n
    · obtain ⟨q, hj2, hqr⟩ := Hget.out j hlt
      obtain ⟨b, o, rfl, hc, hz⟩ := HS.out j q hj2
      have hnb : ¬ OF g v b := Hsg.out ⟨b, o, none⟩ _ _ rfl (by omega)
      have HT : Hid (Calls Tryd.prog 68 #[.iface 79 (.pointer (some ⟨g, 0, none⟩)), .pointer (some ⟨b, o + j * 3, none⟩)] wr _) := Lib.hid (qid_at (VOut g) (VOut_good g) _ _ w w wr b (o + j * 3) q HV.out hnb (cell_lt hc.1) hc hz hqr (HN.out j))
      rw [vout_qid, ← Hst.out j q hj2] at HT
      have HQ := Lib.hid hc
      clear hj2 hc hz hqr hnb
      go_wp2_with fail
      refine HT.out.mono ?_
      rintro _ w3 ⟨rfl, hV⟩
      have HV3 := Lib.hid (hV.unsameQ HQ.out)
      clear hV HT c2
      go_wp2
      go_roundg (n - (j + 1))
      case measure => omega
      case rel => exact ⟨j + 1, by omega, rfl, by go_num, HV3.out⟩
    · go_wp2
      go_end0
      obtain rfl : j = n := by omega
      exact ⟨rfl, HV.out⟩
end Go.Proofs.YtggkebngkkddhaaDoor
