/- The walks through the methods of an output. -/
import Derived.Test.YtggkebngkkddhaaDoorA5
import Derived.StillTailTactics
namespace Go.Proofs.YtggkebngkkddhaaDoor
open Go.RowKit

/-- What an output holds: the bytes, and what is wrong. -/
structure OS where
  l : List UInt8
  bad : Bool
  over : Bool

def Out (w : World) (g : Nat) (v : Value) (st : OS) : Prop := Wrt w g 84 v [.bool st.bad, .bool st.over] st.l

def OPost (g : Nat) (own : Option Nat) (st : OS) (w : World) (e : Ending) (w' : World) : Prop :=
  ∃ v', e = .returned (.tuple #[]) ∧ Out w' g v' st ∧ WSt g own w v'.ownBlock w'

/-- A number fits into some bytes. -/
def fitsB (n : Int) (k : Nat) : Bool := decide (0 ≤ n ∧ n < 2 ^ (8 * k))

def OS.little (st : OS) (n : Int) (k : Nat) : OS := if fitsB n k then { st with l := st.l ++ leB n k } else st
def OS.num (st : OS) (n : Int) (k : Nat) : OS := if fitsB n k then { st with l := st.l ++ leB n k } else { st with bad := true }
def OS.least (st : OS) (n least : Int) : OS := { st with l := st.l ++ leB n 8, bad := if n < least then true else st.bad }
def OS.mode (st : OS) (n : Int) : OS := if n < -1 ∨ 4294967295 ≤ n then ({ st with bad := true } : OS).little n 4 else st.little (if n = -1 then 4294967295 else n) 4
def OS.sized (st : OS) (s : ByteArray) (k : Nat) : OS :=
  if fitsB s.size k = false ∨ 8192 < s.size then { st.little s.size k with over := true } else { st with l := st.l ++ leB s.size k ++ s.data.toList }
def OS.count (st : OS) (n : Nat) : OS := (if 16 < n then { st with over := true } else st : OS).little n 2

theorem OS.least_yes (st : OS) {n least : Int} (h : n < least) : st.least n least = { st with l := st.l ++ leB n 8, bad := true } := by unfold OS.least; rw [if_pos h]
theorem OS.least_no (st : OS) {n least : Int} (h : ¬ n < least) : st.least n least = { st with l := st.l ++ leB n 8 } := by unfold OS.least; rw [if_neg h]

theorem Out.cell1 {w : World} {g : Nat} {v : Value} {st : OS} (h : Out w g v st) : w.cell? ⟨g, 1, none⟩ = some (.bool st.bad) := h.1.cell 1
theorem Out.cell2 {w : World} {g : Nat} {v : Value} {st : OS} (h : Out w g v st) : w.cell? ⟨g, 2, none⟩ = some (.bool st.over) := h.1.cell 2
theorem Wrt.set1 {w : World} {g : Nat} {t : TypeId} {v : Value} {a b c : Value} {l : List UInt8} (h : Wrt w g t v [a, b] l) : Wrt (w.setCell ⟨g, 1, none⟩ c) g t v [c, b] l := by
  refine ⟨by simpa using h.1.set_ 1 c, ?_⟩
  refine ⟨h.2.1, ?_⟩
  rcases h.2.2 with h' | ⟨g', cap, cur, e, hg, hh, r⟩
  · exact .inl h'
  · exact .inr ⟨g', cap, cur, e, hg, (Below.heap_setCell w ⟨g, 1, none⟩ c g' (by show g' ≠ g; omega)).trans hh, r⟩
theorem Wrt.set2 {w : World} {g : Nat} {t : TypeId} {v : Value} {a b c : Value} {l : List UInt8} (h : Wrt w g t v [a, b] l) : Wrt (w.setCell ⟨g, 2, none⟩ c) g t v [a, c] l := by
  refine ⟨by simpa using h.1.set_ 2 c, ?_⟩
  refine ⟨h.2.1, ?_⟩
  rcases h.2.2 with h' | ⟨g', cap, cur, e, hg, hh, r⟩
  · exact .inl h'
  · exact .inr ⟨g', cap, cur, e, hg, (Below.heap_setCell w ⟨g, 2, none⟩ c g' (by show g' ≠ g; omega)).trans hh, r⟩
theorem WSt.set {g : Nat} {own own' : Option Nat} {w w' : World} (h : WSt g own w own' w') (i : Nat) (c : Value) : WSt g own w own' (w'.setCell ⟨g, i, none⟩ c) :=
  ⟨h.1.set (p := ⟨g, i, none⟩) (.inl rfl) c, h.2⟩
theorem fits_yes {n : Int} {k : Nat} (h : fitsB n k = true) : 0 ≤ n ∧ n < 2 ^ (8 * k) := of_decide_eq_true h
theorem fits_no {n : Int} {k : Nat} (h : fitsB n k = false) : n < 0 ∨ 2 ^ (8 * k) ≤ n := by
  have := of_decide_eq_false h; omega

section
variable (g : Nat) (v : Value) (st : OS) (w : World)

/-- The writer's Little, called of an output. -/
theorem oLittle_any (n : Int) (k : Nat) (h : Out w g v st) (hk : k = 1 ∨ k = 2 ∨ k = 4) (hl : st.l.length ≤ 1000000) :
    Calls Tryd.prog 37 #[.pointer (some ⟨g, 0, none⟩), .int .i64 n, .int .i64 k] w (fun e w' => ∃ v', e = .returned (.int .i64 (if fitsB n k then 0 else 11)) ∧ Out w' g v' (st.little n k) ∧ WSt g v.ownBlock w v'.ownBlock w') := by
  cases hf : fitsB n k
  · refine (wLittle_no g n k w rfl hk (fits_no hf)).mono ?_
    rintro e w' ⟨rfl, hr⟩
    refine ⟨v, rfl, ?_, WSt.of_fr hr⟩
    simp only [OS.little, hf]
    exact h.fr0 hr
  · refine (wLittle_yes g 84 v _ _ n k w h hk hl (fits_yes hf).1 (fits_yes hf).2).mono ?_
    rintro e w' ⟨v', rfl, hw, hs⟩
    refine ⟨v', rfl, ?_, hs⟩
    simp only [OS.little, hf]
    exact hw

theorem oLittle_ex (n : Int) (k : Nat) (h : Out w g v st) (hk : k = 1 ∨ k = 2 ∨ k = 4) (hl : st.l.length ≤ 1000000) :
    Calls Tryd.prog 37 #[.pointer (some ⟨g, 0, none⟩), .int .i64 n, .int .i64 k] w (fun e w' => ∃ v' c, e = .returned (.int .i64 c) ∧ Out w' g v' (st.little n k) ∧ WSt g v.ownBlock w v'.ownBlock w') :=
  (oLittle_any g v st w n k h hk hl).mono fun _ _ ⟨v', he, ho, hs⟩ => ⟨v', _, he, ho, hs⟩

set_option maxRecDepth 20000 in
theorem oNum_any (p : Addr) (n : Int) (k : Nat) (h : Out w g v st) (hp : w.cell? p = some (.int .i64 n)) (hk : k = 1 ∨ k = 2 ∨ k = 4) (hl : st.l.length ≤ 1000000) :
    Calls Tryd.prog 38 #[.pointer (some ⟨g, 0, none⟩), .pointer (some p), .int .i64 k] w (OPost g v.ownBlock (st.num n k) w) := by
  have H := Lib.hid (oLittle_any g v st w.drew n k h hk hl)
  clear hk hl h
  go_enter Tryd.func38, Tryd.ntmps38
  go_wp2
  go_still_tail 7, (by kernel_rfl)
  go_wp2_with fail
  refine H.out.mono ?_
  rintro _ w1 ⟨v', rfl, ho, hs⟩
  cases hf : fitsB n k
  · have HO : Hid (Out (w1.setCell ⟨g, 1, none⟩ (.bool true)) g v' (st.num n k)) := Lib.hid (by simp only [OS.num, OS.little, hf] at ho ⊢; exact Wrt.set1 ho)
    have HS := Lib.hid (hs.set 1 (.bool true))
    have c1 := ho.cell1
    have f1 := ho.1.frozen 1
    clear ho hs H hp
    go_wp2
    go_end0
    exact ⟨v', rfl, HO.out, HS.out⟩
  · have HO : Hid (Out w1 g v' (st.num n k)) := Lib.hid (by simp only [OS.num, OS.little, hf] at ho ⊢; exact ho)
    have HS := Lib.hid hs
    clear ho hs H hp
    go_wp2
    go_end0
    exact ⟨v', rfl, HO.out, HS.out⟩

theorem oLeast_any (n least : Int) (h : Out w g v st) (hl : st.l.length ≤ 1000000) (h0 : -9223372036854775808 ≤ n) (h1 : n ≤ 9223372036854775807) :
    Calls Tryd.prog 117 #[.pointer (some ⟨g, 0, none⟩), .int .i64 n, .int .i64 least] w (OPost g v.ownBlock (st.least n least) w) := by
  by_cases hn : n < least
  · have h2 : Out (w.setCell ⟨g, 1, none⟩ (.bool true)) g v { st with bad := true } := Wrt.set1 h
    have H := Lib.hid (wSigned_any g 84 v _ _ n _ h2 hl h0 h1)
    have c1 := h.cell1
    have f1 := h.1.frozen 1
    have hs0 := Lib.hid ((WSt.refl g v.ownBlock w).set 1 (.bool true))
    clear h h2 hl h0 h1
    go_enter Tryd.func117, Tryd.ntmps117
    go_wp2_with fail
    refine H.out.mono ?_
    rintro _ w1 ⟨v', rfl, ho, hs⟩
    have HO : Hid (Out w1 g v' (st.least n least)) := Lib.hid (by rw [OS.least_yes st hn]; exact ho)
    have HS := Lib.hid (hs0.out.trans hs)
    clear ho hs H hs0 c1 f1
    go_wp2
    go_end0
    exact ⟨v', rfl, HO.out, HS.out⟩
  · have H := Lib.hid (wSigned_any g 84 v _ _ n _ h hl h0 h1)
    clear h hl h0 h1
    go_enter Tryd.func117, Tryd.ntmps117
    go_wp2_with fail
    refine H.out.mono ?_
    rintro _ w1 ⟨v', rfl, ho, hs⟩
    have HO : Hid (Out w1 g v' (st.least n least)) := Lib.hid (by rw [OS.least_no st (by omega)]; exact ho)
    have HS := Lib.hid hs
    clear ho hs H
    go_wp2
    go_end0
    exact ⟨v', rfl, HO.out, HS.out⟩

theorem oLong_any (p : Addr) (n : Int) (h : Out w g v st) (hp : w.cell? p = some (.int .i64 n)) (hl : st.l.length ≤ 1000000) (h0 : -9223372036854775808 ≤ n) (h1 : n ≤ 9223372036854775807) :
    Calls Tryd.prog 110 #[.pointer (some ⟨g, 0, none⟩), .pointer (some p)] w (OPost g v.ownBlock (st.least n (0)) w) := by
  have H := Lib.hid (oLeast_any g v st w n (0) h hl h0 h1)
  clear h hl h0 h1
  go_enter Tryd.func110, Tryd.ntmps110
  go_wp2_with fail
  refine H.out.mono ?_
  rintro _ w1 ⟨v', rfl, ho, hs⟩
  have HO := Lib.hid ho
  have HS := Lib.hid hs
  clear ho hs H
  go_wp2
  go_end0
  exact ⟨v', rfl, HO.out, HS.out⟩

theorem oOptional_any (p : Addr) (n : Int) (h : Out w g v st) (hp : w.cell? p = some (.int .i64 n)) (hl : st.l.length ≤ 1000000) (h0 : -9223372036854775808 ≤ n) (h1 : n ≤ 9223372036854775807) :
    Calls Tryd.prog 113 #[.pointer (some ⟨g, 0, none⟩), .pointer (some p)] w (OPost g v.ownBlock (st.least n (-1)) w) := by
  have H := Lib.hid (oLeast_any g v st w n (-1) h hl h0 h1)
  clear h hl h0 h1
  go_enter Tryd.func113, Tryd.ntmps113
  go_wp2_with fail
  refine H.out.mono ?_
  rintro _ w1 ⟨v', rfl, ho, hs⟩
  have HO := Lib.hid ho
  have HS := Lib.hid hs
  clear ho hs H
  go_wp2
  go_end0
  exact ⟨v', rfl, HO.out, HS.out⟩

theorem oMode_any (p : Addr) (n : Int) (h : Out w g v st) (hp : w.cell? p = some (.int .i64 n)) (hl : st.l.length ≤ 1000000) :
    Calls Tryd.prog 111 #[.pointer (some ⟨g, 0, none⟩), .pointer (some p)] w (OPost g v.ownBlock (st.mode n) w) := by
  by_cases hb : n < -1 ∨ 4294967295 ≤ n
  · have h2 : Out (w.setCell ⟨g, 1, none⟩ (.bool true)) g v { st with bad := true } := Wrt.set1 h
    have H : Hid (Calls Tryd.prog 37 #[.pointer (some ⟨g, 0, none⟩), .int .i64 n, .int .i64 4] _ _) := Lib.hid (oLittle_ex g v _ _ n 4 h2 (by omega) hl)
    have hst : st.mode n = ({ st with bad := true } : OS).little n 4 := by unfold OS.mode; rw [if_pos hb]
    rw [hst]
    have c1 := h.cell1
    have f1 := h.1.frozen 1
    have hs0 := Lib.hid ((WSt.refl g v.ownBlock w).set 1 (.bool true))
    clear h h2 hl hst
    rcases Int.lt_or_le n (-1) with hn | hn
    · have hne : (n == -1) = false := by rw [beq_eq_false_iff_ne]; omega
      go_enter Tryd.func111, Tryd.ntmps111
      go_wp2_with fail
      refine H.out.mono ?_
      rintro _ w1 ⟨v', c, rfl, ho, hs⟩
      have HO := Lib.hid ho
      have HS := Lib.hid (hs0.out.trans hs)
      clear ho hs H hs0 c1 f1
      go_wp2
      go_end0
      exact ⟨v', rfl, HO.out, HS.out⟩
    · have hn2 : 4294967295 ≤ n := by omega
      have hne : (n == -1) = false := by rw [beq_eq_false_iff_ne]; omega
      clear hb
      go_enter Tryd.func111, Tryd.ntmps111
      go_wp2_with fail
      refine H.out.mono ?_
      rintro _ w1 ⟨v', c, rfl, ho, hs⟩
      have HO := Lib.hid ho
      have HS := Lib.hid (hs0.out.trans hs)
      clear ho hs H hs0 c1 f1
      go_wp2
      go_end0
      exact ⟨v', rfl, HO.out, HS.out⟩
  · have hst : st.mode n = st.little (if n = -1 then 4294967295 else n) 4 := by unfold OS.mode; rw [if_neg hb]
    rw [hst]
    have hn1 : ¬ n < -1 := by omega
    have hn2 : ¬ 4294967295 ≤ n := by omega
    clear hb hst
    by_cases hn : n = -1
    · subst hn
      have H : Hid (Calls Tryd.prog 37 #[.pointer (some ⟨g, 0, none⟩), .int .i64 4294967295, .int .i64 4] _ _) := Lib.hid (oLittle_ex g v _ _ 4294967295 4 h (by omega) hl)
      clear h hl
      go_enter Tryd.func111, Tryd.ntmps111
      go_wp2_with fail
      refine H.out.mono ?_
      rintro _ w1 ⟨v', c, rfl, ho, hs⟩
      have HO := Lib.hid ho
      have HS := Lib.hid hs
      clear ho hs H
      go_wp2
      go_end0
      exact ⟨v', rfl, HO.out, HS.out⟩
    · have H : Hid (Calls Tryd.prog 37 #[.pointer (some ⟨g, 0, none⟩), .int .i64 n, .int .i64 4] _ _) := Lib.hid (oLittle_ex g v _ _ n 4 h (by omega) hl)
      have hne : (n == -1) = false := by rw [beq_eq_false_iff_ne]; exact hn
      rw [if_neg hn]
      clear h hl hn
      go_enter Tryd.func111, Tryd.ntmps111
      go_wp2_with fail
      refine H.out.mono ?_
      rintro _ w1 ⟨v', c, rfl, ho, hs⟩
      have HO := Lib.hid ho
      have HS := Lib.hid hs
      clear ho hs H
      go_wp2
      go_end0
      exact ⟨v', rfl, HO.out, HS.out⟩

theorem oSized_any (s : ByteArray) (k : Nat) (h : Out w g v st) (hk : k = 2 ∨ k = 4) (hl : st.l.length + s.size + 8 ≤ 1000000) :
    Calls Tryd.prog 116 #[.pointer (some ⟨g, 0, none⟩), .string s, .int .i64 k] w (OPost g v.ownBlock (st.sized s k) w) := by
  have H := Lib.hid (oLittle_any g v st w s.size k h (by omega) (by omega))
  have hz : s.size ≤ 1000000 := by omega
  clear h
  cases hf : fitsB s.size k
  · have hst : st.sized s k = { st.little s.size k with over := true } := by unfold OS.sized; rw [if_pos (.inl hf)]
    rw [hst]
    rw [hf] at H
    clear hf hst hl hk
    go_enter Tryd.func116, Tryd.ntmps116
    go_wp2_with fail
    refine H.out.mono ?_
    rintro _ w1 ⟨v', rfl, ho, hs⟩
    have HO : Hid (Out (w1.setCell ⟨g, 2, none⟩ (.bool true)) g v' { st.little s.size k with over := true }) := Lib.hid (Wrt.set2 ho)
    have HS := Lib.hid (hs.set 2 (.bool true))
    have c1 := ho.cell2
    have f1 := ho.1.frozen 2
    clear ho hs H
    go_wp2
    go_end0
    exact ⟨v', rfl, HO.out, HS.out⟩
  · rw [hf] at H
    by_cases hm : 8192 < s.size
    · have hst : st.sized s k = { st.little s.size k with over := true } := by unfold OS.sized; rw [if_pos (.inr hm)]
      rw [hst]
      clear hf hst hl hk
      go_enter Tryd.func116, Tryd.ntmps116
      go_wp2_with fail
      refine H.out.mono ?_
      rintro _ w1 ⟨v', rfl, ho, hs⟩
      have HO : Hid (Out (w1.setCell ⟨g, 2, none⟩ (.bool true)) g v' { st.little s.size k with over := true }) := Lib.hid (Wrt.set2 ho)
      have HS := Lib.hid (hs.set 2 (.bool true))
      have c1 := ho.cell2
      have f1 := ho.1.frozen 2
      clear ho hs H
      go_wp2
      go_end0
      exact ⟨v', rfl, HO.out, HS.out⟩
    · have hst : st.sized s k = { st with l := st.l ++ leB s.size k ++ s.data.toList } := by
        unfold OS.sized; rw [if_neg (by rintro (h | h); · rw [hf] at h; cases h
                                        · exact hm h)]
      rw [hst]
      have hlt : st.little s.size k = { st with l := st.l ++ leB s.size k } := by unfold OS.little; rw [if_pos hf]
      rw [hlt] at H
      have hk8 : k ≤ 8 := by omega
      clear hf hst hk hlt
      go_enter Tryd.func116, Tryd.ntmps116
      go_wp2_with fail
      refine H.out.mono ?_
      rintro _ w1 ⟨v', rfl, ho, hs⟩
      have H2 := Lib.hid (wRaw_any g 84 v' _ _ w1 s ho (by simp [leB_length]; omega))
      have HS := Lib.hid hs
      clear ho hs H hl hk8
      go_wp2_with fail
      refine H2.out.mono ?_
      rintro _ w2 ⟨v2, rfl, ho, hs⟩
      have HO : Hid (Out w2 g v2 { st with l := st.l ++ leB s.size k ++ s.data.toList }) := Lib.hid ho
      have HS2 := Lib.hid (HS.out.trans hs)
      clear ho hs H2 HS
      go_wp2
      go_end0
      exact ⟨v2, rfl, HO.out, HS2.out⟩

theorem oText_any (p : Addr) (s : ByteArray) (h : Out w g v st) (hp : w.cell? p = some (.string s)) (hl : st.l.length + s.size + 8 ≤ 1000000) :
    Calls Tryd.prog 115 #[.pointer (some ⟨g, 0, none⟩), .pointer (some p)] w (OPost g v.ownBlock (st.sized s 2) w) := by
  have H : Hid (Calls Tryd.prog 116 #[.pointer (some ⟨g, 0, none⟩), .string s, .int .i64 2] _ _) := Lib.hid (oSized_any g v st w s 2 h (by omega) hl)
  clear h hl
  go_enter Tryd.func115, Tryd.ntmps115
  go_wp2_with fail
  refine H.out.mono ?_
  rintro _ w1 ⟨v', rfl, ho, hs⟩
  have HO := Lib.hid ho
  have HS := Lib.hid hs
  clear ho hs H
  go_wp2
  go_end0
  exact ⟨v', rfl, HO.out, HS.out⟩

theorem oData_any (p : Addr) (s : ByteArray) (h : Out w g v st) (hp : w.cell? p = some (.string s)) (hl : st.l.length + s.size + 8 ≤ 1000000) :
    Calls Tryd.prog 108 #[.pointer (some ⟨g, 0, none⟩), .pointer (some p)] w (OPost g v.ownBlock (st.sized s 4) w) := by
  have H : Hid (Calls Tryd.prog 116 #[.pointer (some ⟨g, 0, none⟩), .string s, .int .i64 4] _ _) := Lib.hid (oSized_any g v st w s 4 h (by omega) hl)
  clear h hl
  go_enter Tryd.func108, Tryd.ntmps108
  go_wp2_with fail
  refine H.out.mono ?_
  rintro _ w1 ⟨v', rfl, ho, hs⟩
  have HO := Lib.hid ho
  have HS := Lib.hid hs
  clear ho hs H
  go_wp2
  go_end0
  exact ⟨v', rfl, HO.out, HS.out⟩

theorem oCount_any (n : Nat) (h : Out w g v st) (hl : st.l.length ≤ 1000000) :
    Calls Tryd.prog 118 #[.pointer (some ⟨g, 0, none⟩), .int .i64 n] w (OPost g v.ownBlock (st.count n) w) := by
  by_cases hn : 16 < n
  · have h2 : Out (w.setCell ⟨g, 2, none⟩ (.bool true)) g v { st with over := true } := Wrt.set2 h
    have H : Hid (Calls Tryd.prog 37 #[.pointer (some ⟨g, 0, none⟩), .int .i64 n, .int .i64 2] _ _) := Lib.hid (oLittle_ex g v _ _ n 2 h2 (by omega) hl)
    have hst : st.count n = ({ st with over := true } : OS).little n 2 := by unfold OS.count; rw [if_pos hn]
    rw [hst]
    have c1 := h.cell2
    have f1 := h.1.frozen 2
    have hs0 := Lib.hid ((WSt.refl g v.ownBlock w).set 2 (.bool true))
    clear h h2 hl hst
    go_enter Tryd.func118, Tryd.ntmps118
    go_wp2_with fail
    refine H.out.mono ?_
    rintro _ w1 ⟨v', c, rfl, ho, hs⟩
    have HO := Lib.hid ho
    have HS := Lib.hid (hs0.out.trans hs)
    clear ho hs H hs0 c1 f1
    go_wp2
    go_end0
    exact ⟨v', rfl, HO.out, HS.out⟩
  · have H : Hid (Calls Tryd.prog 37 #[.pointer (some ⟨g, 0, none⟩), .int .i64 n, .int .i64 2] _ _) := Lib.hid (oLittle_ex g v _ _ n 2 h (by omega) hl)
    have hst : st.count n = st.little n 2 := by unfold OS.count; rw [if_neg hn]
    rw [hst]
    clear h hl hst
    go_enter Tryd.func118, Tryd.ntmps118
    go_wp2_with fail
    refine H.out.mono ?_
    rintro _ w1 ⟨v', c, rfl, ho, hs⟩
    have HO := Lib.hid ho
    have HS := Lib.hid hs
    clear ho hs H
    go_wp2
    go_end0
    exact ⟨v', rfl, HO.out, HS.out⟩

theorem oErr_any (h : Out w g v st) :
    Calls Tryd.prog 40 #[.pointer (some ⟨g, 0, none⟩)] w (fun e w' => e = .returned (.int .i64 (if st.bad then 11 else if st.over then 3 else 0)) ∧ w = w') := by
  have c1 := h.cell1
  have c2 := h.cell2
  clear h
  generalize st.bad = b at c1 ⊢
  generalize st.over = o at c2 ⊢
  cases b <;> cases o <;>
  · go_enter Tryd.func40, Tryd.ntmps40
    go_wp2
    go_ret
    exact ⟨rfl, rfl⟩
end
end Go.Proofs.YtggkebngkkddhaaDoor
