/- The walks through wire.reading, at its three instances, and through what is read by it. -/
import Derived.Test.YtggkebngkkddhaaDoorA1
namespace Go.Proofs.YtggkebngkkddhaaDoor
open Go.RowKit

def RdPost (v : Value) (c : Int) (g : Nat) (s : ByteArray) (a e : Int) (w : World) (x : Ending) (w' : World) : Prop :=
  x = .returned (.tuple #[v, .int .i64 c]) ∧ Rdr w' g s a e ∧ Fr (one_ g) w w'

theorem bne0 {c : Int} (h : c ≠ 0) : (c != 0) = true := by simpa using h
theorem beq0 {c : Int} (h : c ≠ 0) : (c == 0) = false := by simpa using h

theorem little_no (g : Nat) (s : ByteArray) (a e : Int) (n : Int) (w : World) (h : Rdr w g s a e) (ha : 0 ≤ a) (hs : a ≤ s.size) (hm : s.size ≤ maxLen) (h0n : n = 1 ∨ n = 2 ∨ n = 4 ∨ n = 8) (hn : (s.size : Int) - a < n) :
    Calls Tryd.prog 66 #[.pointer (some ⟨g, 0, none⟩), .int .i64 n] w (Ret (.tuple #[.int .u64 0, .int .i64 16]) w) := by
  go_enter Tryd.func66, Tryd.ntmps66
  go_wp2_with fail
  refine (width_ok _ h0n _).mono ?_
  rintro _ w1 ⟨rfl, hf1⟩
  go_wp2_with fail
  have hr1 := h.fr hf1 (fun x => x)
  refine (take_no g s a e n w1 hr1 ha hs hm hn).mono ?_
  rintro _ w2 ⟨rfl, hf2⟩
  have hf := hf1.trans hf2
  clear h0n hr1 hf1 hf2 h hn ha hs hm
  go_wp2
  refine wp_loop_rounds 1 ?_
  rw [rounds_succ]
  go_wp2
  go_ret2
  exact ⟨rfl, hf⟩

theorem size_extract_int (s : ByteArray) (a n : Int) (ha : 0 ≤ a) (h0 : 0 ≤ n) (hn : n ≤ (s.size : Int) - a) : (s.extract a.toNat (a + n).toNat).size = n.toNat := by
  rw [ByteArray.size_extract]; omega

theorem little_yes (g : Nat) (s : ByteArray) (a e : Int) (n : Int) (w : World) (h : Rdr w g s a e) (ha : 0 ≤ a) (hs : a ≤ s.size) (hm : s.size ≤ maxLen) (h0n : n = 1 ∨ n = 2 ∨ n = 4 ∨ n = 8) (hn : n ≤ (s.size : Int) - a) :
    Calls Tryd.prog 66 #[.pointer (some ⟨g, 0, none⟩), .int .i64 n] w (RdPost (.int .u64 (leVal (s.extract a.toNat (a + n).toNat).data.toList)) 0 g s (a + n) e w) := by
  have hsz := size_extract_int s a n ha (by omega) hn
  go_enter Tryd.func66, Tryd.ntmps66
  go_wp2_with fail
  refine (width_ok _ h0n _).mono ?_
  rintro _ w1 ⟨rfl, hf1⟩
  go_wp2_with fail
  have hr1 := h.fr hf1 (fun x => x)
  refine (take_yes g s a e n w1 hr1 ha hs hm (by omega) hn).mono ?_
  rintro _ w2 ⟨rfl, hr2, hf2⟩
  have hf := (hf1.mono (S' := one_ g) (fun _ x => x.elim)).trans hf2
  generalize s.extract a.toNat (a + n).toNat = x at *
  have h8 : x.size ≤ 8 := by omega
  have Hr := Lib.hid hr2
  have Hf := Lib.hid hf
  clear h0n hr2 hf2 hr1 hf1 h hn ha hs hm hf hsz
  go_wp2_with fail
  go_loop [8, 9, 21] (fun v _ i => ∃ k : Nat, k ≤ x.size ∧ i = .int .i64 k ∧ v = .int .u64 (leVal (x.data.toList.take k))) (fun _ _ i => x.size - (intOf i).toNat)
  case atStart => exact ⟨0, Nat.zero_le _, rfl, rfl⟩
  case round =>
    obtain ⟨k, hk, rfl, rfl⟩ := hrel
    by_cases hlt : k < x.size
    · have hst := Lib.hid (leVal_step x k hlt h8)
      go_wp2
      go_round
      case rel => exact ⟨k + 1, by omega, by go_num, by rw [hst.out]⟩
      case measure => simp [intOf]; omega
    · go_wp2
      go_ret2
      have e : x.data.toList.take k = x.data.toList := List.take_of_length_le (by simp; omega)
      rw [e]
      exact ⟨rfl, Hr.out, Hf.out⟩

theorem reading64_err (g : Nat) (s : ByteArray) (a e : Int) (he : e ≠ 0) (clo : Value) (w : World) (h : Rdr w g s a e) :
    Calls Tryd.prog 64 #[.pointer (some ⟨g, 0, none⟩), clo] w (RdPost (.int .i64 0) e g s a e w) := by
  have h2 := h.cell 2
  simp at h2
  have hb := bne0 he
  have hf := Fr.refl (one_ g) w
  clear he
  go_enter Tryd.func64, Tryd.ntmps64
  go_wp2
  go_quiet (fail)
  go_wp2
  go_ret2
  exact ⟨rfl, h, hf⟩
theorem reading64_65_ok (g : Nat) (s : ByteArray) (a a' : Int) (v : Value) (p1 p2 : Addr) (w : World) (h : Rdr w g s a 0) (hc : Calls Tryd.prog 65 #[.pointer (some p1), .pointer (some p2)] w (RdPost v 0 g s a' 0 w)) :
    Calls Tryd.prog 64 #[.pointer (some ⟨g, 0, none⟩), .func (.func 65) #[] #[.pointer (some p1), .pointer (some p2)]] w (RdPost v 0 g s a' 0 w) := by
  have h1 := h.cell 1
  have h2 := h.cell 2
  simp at h1 h2
  have Hc := Lib.hid hc
  clear hc h
  go_enter Tryd.func64, Tryd.ntmps64
  go_wp2_with fail
  refine Hc.out.mono ?_
  rintro _ w1 ⟨rfl, hr, hf⟩
  clear h1 h2 Hc
  go_wp2
  go_ret2
  exact ⟨rfl, hr, hf⟩
theorem reading64_65_bad (g : Nat) (s : ByteArray) (a a' c : Int) (hc0 : c ≠ 0) (v : Value) (p1 p2 : Addr) (w : World) (h : Rdr w g s a 0) (hc : Calls Tryd.prog 65 #[.pointer (some p1), .pointer (some p2)] w (RdPost v c g s a' 0 w)) :
    Calls Tryd.prog 64 #[.pointer (some ⟨g, 0, none⟩), .func (.func 65) #[] #[.pointer (some p1), .pointer (some p2)]] w (RdPost (.int .i64 0) c g s a c w) := by
  have h1 := h.cell 1
  have h2 := h.cell 2
  simp at h1 h2
  have hb := bne0 hc0
  have Hc := Lib.hid hc
  clear hc0 hc h
  go_enter Tryd.func64, Tryd.ntmps64
  go_wp2_with fail
  refine Hc.out.mono ?_
  rintro _ w1 ⟨rfl, hr, hf⟩
  clear h1 h2 Hc
  have g1 := hr.cell 1
  have g2 := hr.cell 2
  have f1 := hr.frozen 1
  have f2 := hr.frozen 2
  simp at g1 g2
  have hr' : Rdr ((w1.setCell ⟨g, 1, none⟩ (.int .i64 a)).setCell ⟨g, 2, none⟩ (.int .i64 c)) g s a c := by
    have := (hr.set_ 1 (.int .i64 a)).set_ 2 (.int .i64 c); simpa [Rdr] using this
  have hf' := (hf.set (p := ⟨g, 1, none⟩) rfl (.int .i64 a)).set (p := ⟨g, 2, none⟩) rfl (.int .i64 c)
  have HR := Lib.hid hr'
  have HF := Lib.hid hf'
  clear hr' hf' hr hf
  go_wp2
  go_ret2
  exact ⟨rfl, HR.out, HF.out⟩
theorem reading64_105_ok (g : Nat) (s : ByteArray) (a a' : Int) (v : Value) (p1 p2 : Addr) (w : World) (h : Rdr w g s a 0) (hc : Calls Tryd.prog 105 #[.pointer (some p1), .pointer (some p2)] w (RdPost v 0 g s a' 0 w)) :
    Calls Tryd.prog 64 #[.pointer (some ⟨g, 0, none⟩), .func (.func 105) #[] #[.pointer (some p1), .pointer (some p2)]] w (RdPost v 0 g s a' 0 w) := by
  have h1 := h.cell 1
  have h2 := h.cell 2
  simp at h1 h2
  have Hc := Lib.hid hc
  clear hc h
  go_enter Tryd.func64, Tryd.ntmps64
  go_wp2_with fail
  refine Hc.out.mono ?_
  rintro _ w1 ⟨rfl, hr, hf⟩
  clear h1 h2 Hc
  go_wp2
  go_ret2
  exact ⟨rfl, hr, hf⟩
theorem reading64_105_bad (g : Nat) (s : ByteArray) (a a' c : Int) (hc0 : c ≠ 0) (v : Value) (p1 p2 : Addr) (w : World) (h : Rdr w g s a 0) (hc : Calls Tryd.prog 105 #[.pointer (some p1), .pointer (some p2)] w (RdPost v c g s a' 0 w)) :
    Calls Tryd.prog 64 #[.pointer (some ⟨g, 0, none⟩), .func (.func 105) #[] #[.pointer (some p1), .pointer (some p2)]] w (RdPost (.int .i64 0) c g s a c w) := by
  have h1 := h.cell 1
  have h2 := h.cell 2
  simp at h1 h2
  have hb := bne0 hc0
  have Hc := Lib.hid hc
  clear hc0 hc h
  go_enter Tryd.func64, Tryd.ntmps64
  go_wp2_with fail
  refine Hc.out.mono ?_
  rintro _ w1 ⟨rfl, hr, hf⟩
  clear h1 h2 Hc
  have g1 := hr.cell 1
  have g2 := hr.cell 2
  have f1 := hr.frozen 1
  have f2 := hr.frozen 2
  simp at g1 g2
  have hr' : Rdr ((w1.setCell ⟨g, 1, none⟩ (.int .i64 a)).setCell ⟨g, 2, none⟩ (.int .i64 c)) g s a c := by
    have := (hr.set_ 1 (.int .i64 a)).set_ 2 (.int .i64 c); simpa [Rdr] using this
  have hf' := (hf.set (p := ⟨g, 1, none⟩) rfl (.int .i64 a)).set (p := ⟨g, 2, none⟩) rfl (.int .i64 c)
  have HR := Lib.hid hr'
  have HF := Lib.hid hf'
  clear hr' hf' hr hf
  go_wp2
  go_ret2
  exact ⟨rfl, HR.out, HF.out⟩

theorem reading69_err (g : Nat) (s : ByteArray) (a e : Int) (he : e ≠ 0) (clo : Value) (w : World) (h : Rdr w g s a e) :
    Calls Tryd.prog 69 #[.pointer (some ⟨g, 0, none⟩), clo] w (RdPost (.bool false) e g s a e w) := by
  have h2 := h.cell 2
  simp at h2
  have hb := bne0 he
  have hf := Fr.refl (one_ g) w
  clear he
  go_enter Tryd.func69, Tryd.ntmps69
  go_wp2
  go_quiet (fail)
  go_wp2
  go_ret2
  exact ⟨rfl, h, hf⟩
theorem reading69_70_ok (g : Nat) (s : ByteArray) (a a' : Int) (v : Value) (p1 : Addr) (w : World) (h : Rdr w g s a 0) (hc : Calls Tryd.prog 70 #[.pointer (some p1)] w (RdPost v 0 g s a' 0 w)) :
    Calls Tryd.prog 69 #[.pointer (some ⟨g, 0, none⟩), .func (.func 70) #[] #[.pointer (some p1)]] w (RdPost v 0 g s a' 0 w) := by
  have h1 := h.cell 1
  have h2 := h.cell 2
  simp at h1 h2
  have Hc := Lib.hid hc
  clear hc h
  go_enter Tryd.func69, Tryd.ntmps69
  go_wp2_with fail
  refine Hc.out.mono ?_
  rintro _ w1 ⟨rfl, hr, hf⟩
  clear h1 h2 Hc
  go_wp2
  go_ret2
  exact ⟨rfl, hr, hf⟩
theorem reading69_70_bad (g : Nat) (s : ByteArray) (a a' c : Int) (hc0 : c ≠ 0) (v : Value) (p1 : Addr) (w : World) (h : Rdr w g s a 0) (hc : Calls Tryd.prog 70 #[.pointer (some p1)] w (RdPost v c g s a' 0 w)) :
    Calls Tryd.prog 69 #[.pointer (some ⟨g, 0, none⟩), .func (.func 70) #[] #[.pointer (some p1)]] w (RdPost (.bool false) c g s a c w) := by
  have h1 := h.cell 1
  have h2 := h.cell 2
  simp at h1 h2
  have hb := bne0 hc0
  have Hc := Lib.hid hc
  clear hc0 hc h
  go_enter Tryd.func69, Tryd.ntmps69
  go_wp2_with fail
  refine Hc.out.mono ?_
  rintro _ w1 ⟨rfl, hr, hf⟩
  clear h1 h2 Hc
  have g1 := hr.cell 1
  have g2 := hr.cell 2
  have f1 := hr.frozen 1
  have f2 := hr.frozen 2
  simp at g1 g2
  have hr' : Rdr ((w1.setCell ⟨g, 1, none⟩ (.int .i64 a)).setCell ⟨g, 2, none⟩ (.int .i64 c)) g s a c := by
    have := (hr.set_ 1 (.int .i64 a)).set_ 2 (.int .i64 c); simpa [Rdr] using this
  have hf' := (hf.set (p := ⟨g, 1, none⟩) rfl (.int .i64 a)).set (p := ⟨g, 2, none⟩) rfl (.int .i64 c)
  have HR := Lib.hid hr'
  have HF := Lib.hid hf'
  clear hr' hf' hr hf
  go_wp2
  go_ret2
  exact ⟨rfl, HR.out, HF.out⟩

theorem reading103_err (g : Nat) (s : ByteArray) (a e : Int) (he : e ≠ 0) (clo : Value) (w : World) (h : Rdr w g s a e) :
    Calls Tryd.prog 103 #[.pointer (some ⟨g, 0, none⟩), clo] w (RdPost (.string ⟨#[]⟩) e g s a e w) := by
  have h2 := h.cell 2
  simp at h2
  have hb := bne0 he
  have hf := Fr.refl (one_ g) w
  clear he
  go_enter Tryd.func103, Tryd.ntmps103
  go_wp2
  go_quiet (fail)
  go_wp2
  go_ret2
  exact ⟨rfl, h, hf⟩
theorem reading103_104_ok (g : Nat) (s : ByteArray) (a a' : Int) (v : Value) (p1 p2 : Addr) (w : World) (h : Rdr w g s a 0) (hc : Calls Tryd.prog 104 #[.pointer (some p1), .pointer (some p2)] w (RdPost v 0 g s a' 0 w)) :
    Calls Tryd.prog 103 #[.pointer (some ⟨g, 0, none⟩), .func (.func 104) #[] #[.pointer (some p1), .pointer (some p2)]] w (RdPost v 0 g s a' 0 w) := by
  have h1 := h.cell 1
  have h2 := h.cell 2
  simp at h1 h2
  have Hc := Lib.hid hc
  clear hc h
  go_enter Tryd.func103, Tryd.ntmps103
  go_wp2_with fail
  refine Hc.out.mono ?_
  rintro _ w1 ⟨rfl, hr, hf⟩
  clear h1 h2 Hc
  go_wp2
  go_ret2
  exact ⟨rfl, hr, hf⟩
theorem reading103_104_bad (g : Nat) (s : ByteArray) (a a' c : Int) (hc0 : c ≠ 0) (v : Value) (p1 p2 : Addr) (w : World) (h : Rdr w g s a 0) (hc : Calls Tryd.prog 104 #[.pointer (some p1), .pointer (some p2)] w (RdPost v c g s a' 0 w)) :
    Calls Tryd.prog 103 #[.pointer (some ⟨g, 0, none⟩), .func (.func 104) #[] #[.pointer (some p1), .pointer (some p2)]] w (RdPost (.string ⟨#[]⟩) c g s a c w) := by
  have h1 := h.cell 1
  have h2 := h.cell 2
  simp at h1 h2
  have hb := bne0 hc0
  have Hc := Lib.hid hc
  clear hc0 hc h
  go_enter Tryd.func103, Tryd.ntmps103
  go_wp2_with fail
  refine Hc.out.mono ?_
  rintro _ w1 ⟨rfl, hr, hf⟩
  clear h1 h2 Hc
  have g1 := hr.cell 1
  have g2 := hr.cell 2
  have f1 := hr.frozen 1
  have f2 := hr.frozen 2
  simp at g1 g2
  have hr' : Rdr ((w1.setCell ⟨g, 1, none⟩ (.int .i64 a)).setCell ⟨g, 2, none⟩ (.int .i64 c)) g s a c := by
    have := (hr.set_ 1 (.int .i64 a)).set_ 2 (.int .i64 c); simpa [Rdr] using this
  have hf' := (hf.set (p := ⟨g, 1, none⟩) rfl (.int .i64 a)).set (p := ⟨g, 2, none⟩) rfl (.int .i64 c)
  have HR := Lib.hid hr'
  have HF := Lib.hid hf'
  clear hr' hf' hr hf
  go_wp2
  go_ret2
  exact ⟨rfl, HR.out, HF.out⟩
end Go.Proofs.YtggkebngkkddhaaDoor
