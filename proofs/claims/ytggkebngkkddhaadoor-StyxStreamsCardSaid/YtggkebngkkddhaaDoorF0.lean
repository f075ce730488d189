/- The walks through slices.Equal (of strings, of qids). -/
import Derived.Test.YtggkebngkkddhaaDoorE4
namespace Go.Proofs.YtggkebngkkddhaaDoor
open Go.RowKit

/-- It tells whether p; nothing that was there has changed. -/
def Tells (p : Prop) (w : World) (e : Ending) (w' : World) : Prop := ∃ b : Bool, (b = true ↔ p) ∧ e = .returned (.bool b) ∧ Fr none_ w w'
theorem tells_yes {p : Prop} {w w' : World} (h : p) (hf : Fr none_ w w') : Tells p w (.returned (.bool true)) w' := ⟨true, ⟨fun _ => h, fun _ => rfl⟩, rfl, hf⟩
theorem tells_no {p : Prop} {w w' : World} (h : ¬ p) (hf : Fr none_ w w') : Tells p w (.returned (.bool false)) w' := ⟨false, ⟨fun e => (by cases e), fun x => absurd x h⟩, rfl, hf⟩

theorem take_eq_snoc {α : Type} {l1 l2 : List α} {j : Nat} {a b : α} (h : l1.take j = l2.take j) (h1 : l1[j]? = some a) (h2 : l2[j]? = some b) (e : a = b) : l1.take (j + 1) = l2.take (j + 1) := by
  have g1 := (List.getElem?_eq_some_iff.1 h1)
  have g2 := (List.getElem?_eq_some_iff.1 h2)
  rw [List.take_succ_eq_append_getElem g1.1, List.take_succ_eq_append_getElem g2.1, h, g1.2, g2.2, e]
theorem bytes_eq {a b : ByteArray} : a.toList = b.toList ↔ a = b := by
  constructor
  · intro h
    rw [ByteArray.toList_eq, ByteArray.toList_eq] at h
    cases a; cases b
    congr
    exact Array.toList_inj.1 h
  · rintro rfl; rfl

set_option maxRecDepth 20000 in
set_option maxHeartbeats 1000000 in
theorem equalStrs_any (v1 v2 : Value) (l1 l2 : List ByteArray) (w : World) (h1 : StrsAt w v1 l1) (h2 : StrsAt w v2 l2) (hn : l1.length ≤ 1000000) :
    Calls Tryd.prog 34 #[v1, v2] w (Tells (l1 = l2) w) := by
  obtain ⟨oa, ca, rfl, h1⟩ := h1
  obtain ⟨ob, cb, rfl, h2⟩ := h2
  by_cases hl : l1.length = l2.length
  · have hend : ∀ j, j = l1.length → l1.take j = l2.take j → l1 = l2 := fun j hj h => by
      rwa [List.take_of_length_le (by omega), List.take_of_length_le (by omega)] at h
    have hne : ∀ (j : Nat) (a b : ByteArray), l1[j]? = some a → l2[j]? = some b → a ≠ b → ¬ l1 = l2 := fun j a b ha hb hab e => by
      subst e
      rw [ha] at hb
      injection hb with hb
      exact hab hb
    have hget : ∀ j, j < l1.length → ∃ a b, l1[j]? = some a ∧ l2[j]? = some b := fun j hj => ⟨_, _, List.getElem?_eq_getElem hj, List.getElem?_eq_getElem (by omega)⟩
    rw [← hl]
    have H1 := Lib.hid h1
    have H2 := Lib.hid h2
    have Hend := Lib.hid hend
    have Hne := Lib.hid hne
    have Hget := Lib.hid hget
    clear h1 h2 hend hne hget hl
    generalize l1.length = n at *
    obtain ⟨R, hR⟩ : ∃ R : Prop, R = (l1 = l2) := ⟨_, rfl⟩
    rw [← hR]
    have HR := Lib.hid hR
    clear hR
    go_enter Tryd.func34, Tryd.ntmps34
    go_wp2
    go_loopg [5, 13] n (fun gk _ i wr => ∃ j : Nat, j ≤ n ∧ gk = n - j ∧ i = .int .i64 j ∧ l1.take j = l2.take j ∧ Fr none_ w wr)
    case atStart => exact ⟨0, Nat.zero_le _, rfl, rfl, rfl, Fr.refl _ _⟩
    case round =>
      obtain ⟨j, hj, rfl, rfl, ht, hf⟩ := hrel
      have HT := Lib.hid ht
      have HF := Lib.hid hf
      clear ht hf
      by_cases hlt : j < n
      · obtain ⟨a, b, ha, hb⟩ := Hget.out j hlt
        obtain ⟨ab, ao, rfl, hca⟩ := H1.out j a ha
        obtain ⟨bb, bo, rfl, hcb⟩ := H2.out j b hb
        have c1 := HF.out.cell hca (fun x => x)
        have c2 := HF.out.cell hcb (fun x => x)
        have Ha := Lib.hid ha
        have Hb := Lib.hid hb
        clear ha hb hca hcb
        by_cases hab : a = b
        · subst hab
          have HT2 := Lib.hid (take_eq_snoc HT.out Ha.out Hb.out rfl)
          go_wp2
          go_quiet (fail)
          go_wp2
          go_roundg (n - (j + 1))
          case measure => omega
          case rel => exact ⟨j + 1, by omega, rfl, by go_num, HT2.out, HF.out.drewN _⟩
        · have HE := Lib.hid (Hne.out j a b Ha.out Hb.out hab)
          have hb1 : (a.toList == b.toList) = false := by rw [beq_eq_false_iff_ne]; exact fun e => hab (bytes_eq.1 e)
          clear hab
          go_wp2
          go_quiet (fail)
          go_wp2
          go_ret
          exact tells_no (by rw [HR.out]; exact HE.out) (HF.out.drewN _)
      · have HE := Lib.hid (Hend.out j (by omega) HT.out)
        go_wp2
        go_ret
        exact tells_yes (by rw [HR.out]; exact HE.out) HF.out
  · have hb1 : ((l1.length : Int) == (l2.length : Int)) = false := by rw [beq_eq_false_iff_ne]; omega
    have HE : Hid (¬ l1 = l2) := Lib.hid (fun e => hl (by rw [e]))
    clear h1 h2 hl
    obtain ⟨R, hR⟩ : ∃ R : Prop, R = (l1 = l2) := ⟨_, rfl⟩
    rw [← hR] at HE ⊢
    clear hR
    generalize l1.length = n1 at *
    generalize l2.length = n2 at *
    go_enter Tryd.func34, Tryd.ntmps34
    go_wp2
    go_ret
    exact tells_no HE.out (Fr.refl _ _)

set_option maxRecDepth 20000 in
set_option maxHeartbeats 1000000 in
theorem equalQids_any (v1 v2 : Value) (l1 l2 : List QV) (w : World) (h1 : QidsAt w v1 l1) (h2 : QidsAt w v2 l2) (hn : l1.length ≤ 1000000) :
    Calls Tryd.prog 35 #[v1, v2] w (Tells (l1 = l2) w) := by
  obtain ⟨oa, ca, rfl, h1⟩ := h1
  obtain ⟨ob, cb, rfl, h2⟩ := h2
  by_cases hl : l1.length = l2.length
  · have hend : ∀ j, j = l1.length → l1.take j = l2.take j → l1 = l2 := fun j hj h => by
      rwa [List.take_of_length_le (by omega), List.take_of_length_le (by omega)] at h
    have hne : ∀ (j : Nat) (a b : QV), l1[j]? = some a → l2[j]? = some b → a ≠ b → ¬ l1 = l2 := fun j a b ha hb hab e => by
      subst e
      rw [ha] at hb
      injection hb with hb
      exact hab hb
    have hget : ∀ j, j < l1.length → ∃ a b, l1[j]? = some a ∧ l2[j]? = some b := fun j hj => ⟨_, _, List.getElem?_eq_getElem hj, List.getElem?_eq_getElem (by omega)⟩
    rw [← hl]
    have H1 := Lib.hid h1
    have H2 := Lib.hid h2
    have Hend := Lib.hid hend
    have Hne := Lib.hid hne
    have Hget := Lib.hid hget
    clear h1 h2 hend hne hget hl
    generalize l1.length = n at *
    obtain ⟨R, hR⟩ : ∃ R : Prop, R = (l1 = l2) := ⟨_, rfl⟩
    rw [← hR]
    have HR := Lib.hid hR
    clear hR
    go_enter Tryd.func35, Tryd.ntmps35
    go_wp2
    go_loopg [5, 13] n (fun gk _ i wr => ∃ j : Nat, j ≤ n ∧ gk = n - j ∧ i = .int .i64 j ∧ l1.take j = l2.take j ∧ Fr none_ w wr)
    case atStart => exact ⟨0, Nat.zero_le _, rfl, rfl, rfl, Fr.refl _ _⟩
    case round =>
      obtain ⟨j, hj, rfl, rfl, ht, hf⟩ := hrel
      have HT := Lib.hid ht
      have HF := Lib.hid hf
      clear ht hf
      by_cases hlt : j < n
      · obtain ⟨a, b, ha, hb⟩ := Hget.out j hlt
        obtain ⟨ab, ao, rfl, hca, _⟩ := H1.out j a ha
        obtain ⟨bb, bo, rfl, hcb, _⟩ := H2.out j b hb
        have c1 := HF.out.cell hca.1 (fun x => x)
        have c2 := HF.out.cell hca.2.1 (fun x => x)
        have c3 := HF.out.cell hca.2.2 (fun x => x)
        have c4 := HF.out.cell hcb.1 (fun x => x)
        have c5 := HF.out.cell hcb.2.1 (fun x => x)
        have c6 := HF.out.cell hcb.2.2 (fun x => x)
        have Ha := Lib.hid ha
        have Hb := Lib.hid hb
        clear ha hb hca hcb
        by_cases hab : a = b
        · subst hab
          have HT2 := Lib.hid (take_eq_snoc HT.out Ha.out Hb.out rfl)
          go_wp2
          go_quiet (fail)
          go_wp2
          go_roundg (n - (j + 1))
          case measure => omega
          case rel => exact ⟨j + 1, by omega, rfl, by go_num, HT2.out, HF.out.drewN _⟩
        · have HE := Lib.hid (Hne.out j a b Ha.out Hb.out hab)
          have hkvp : a.k ≠ b.k ∨ a.k = b.k ∧ a.v ≠ b.v ∨ a.k = b.k ∧ a.v = b.v ∧ a.p ≠ b.p := by
            by_cases e1 : a.k = b.k
            · by_cases e2 : a.v = b.v
              · by_cases e3 : a.p = b.p
                · exact absurd (by cases a; cases b; simp_all) hab
                · exact .inr (.inr ⟨e1, e2, e3⟩)
              · exact .inr (.inl ⟨e1, e2⟩)
            · exact .inl e1
          clear Ha Hb hab
          generalize a.k = ak at *
          generalize a.v = av at *
          generalize a.p = ap at *
          generalize b.k = bk at *
          generalize b.v = bv at *
          generalize b.p = bp at *
          rcases hkvp with e1 | ⟨rfl, e2⟩ | ⟨rfl, rfl, e3⟩
          · have hb1 : (ak == bk) = false := by rw [beq_eq_false_iff_ne]; exact e1
            clear e1
            go_wp2
            go_quiet (fail)
            go_wp2
            go_ret
            exact tells_no (by rw [HR.out]; exact HE.out) (HF.out.drewN _)
          · have hb1 : (av == bv) = false := by rw [beq_eq_false_iff_ne]; exact e2
            clear e2
            go_wp2
            go_quiet (fail)
            go_wp2
            go_ret
            exact tells_no (by rw [HR.out]; exact HE.out) (HF.out.drewN _)
          · have hb1 : (ap == bp) = false := by rw [beq_eq_false_iff_ne]; exact e3
            clear e3
            go_wp2
            go_quiet (fail)
            go_wp2
            go_ret
            exact tells_no (by rw [HR.out]; exact HE.out) (HF.out.drewN _)
      · have HE := Lib.hid (Hend.out j (by omega) HT.out)
        go_wp2
        go_ret
        exact tells_yes (by rw [HR.out]; exact HE.out) HF.out
  · have hb1 : ((l1.length : Int) == (l2.length : Int)) = false := by rw [beq_eq_false_iff_ne]; omega
    have HE : Hid (¬ l1 = l2) := Lib.hid (fun e => hl (by rw [e]))
    clear h1 h2 hl
    obtain ⟨R, hR⟩ : ∃ R : Prop, R = (l1 = l2) := ⟨_, rfl⟩
    rw [← hR] at HE ⊢
    clear hR
    generalize l1.length = n1 at *
    generalize l2.length = n2 at *
    go_enter Tryd.func35, Tryd.ntmps35
    go_wp2
    go_ret
    exact tells_no HE.out (Fr.refl _ _)
end Go.Proofs.YtggkebngkkddhaaDoor
