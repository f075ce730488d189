/- The walks through Little, Signed, Raw and End of a reader. -/
import Derived.Test.YtggkebngkkddhaaDoorA2
namespace Go.Proofs.YtggkebngkkddhaaDoor
open Go.RowKit

/-- The bytes from a on, n of them, as a number. -/
def numAt (s : ByteArray) (a n : Int) : Int := leVal (s.extract a.toNat (a + n).toNat).data.toList
theorem numAt_lt (s : ByteArray) (a n : Int) (ha : 0 ≤ a) (h0 : 0 ≤ n) (hn : n ≤ (s.size : Int) - a) : 0 ≤ numAt s a n ∧ numAt s a n < 2 ^ (8 * n.toNat) := by
  have h := leVal_lt (s.extract a.toNat (a + n).toNat).data.toList
  have e : (s.extract a.toNat (a + n).toNat).data.toList.length = n.toNat := size_extract_int s a n ha h0 hn
  rw [e] at h
  unfold numAt
  exact ⟨by omega, by exact_mod_cast h⟩
theorem numAt_lt4 (s : ByteArray) (a n : Int) (ha : 0 ≤ a) (h0 : n = 1 ∨ n = 2 ∨ n = 4) (hn : n ≤ (s.size : Int) - a) : 0 ≤ numAt s a n ∧ numAt s a n < 4294967296 := by
  have h := numAt_lt s a n ha (by omega) hn
  refine ⟨h.1, ?_⟩
  rcases h0 with rfl | rfl | rfl
  · have := h.2; simp at this; omega
  · have := h.2; simp at this; omega
  · have := h.2; simp at this; omega
theorem numAt_lt8 (s : ByteArray) (a : Int) (ha : 0 ≤ a) (hn : 8 ≤ (s.size : Int) - a) : numAt s a 8 < 18446744073709551616 := by
  have h := (numAt_lt s a 8 ha (by omega) hn).2
  simpa using h

section
variable (g b1 b2 : Nat) (s : ByteArray) (a n : Int) (w : World)

theorem clo65_yes (h : Rdr w g s a 0) (hp1 : w.cell? ⟨b1, 0, none⟩ = some (.pointer (some ⟨g, 0, none⟩))) (hp2 : w.cell? ⟨b2, 0, none⟩ = some (.int .i64 n))
    (ha : 0 ≤ a) (hs : a ≤ s.size) (hm : s.size ≤ maxLen) (h0n : n = 1 ∨ n = 2 ∨ n = 4) (hn : n ≤ (s.size : Int) - a) :
    Calls Tryd.prog 65 #[.pointer (some ⟨b1, 0, none⟩), .pointer (some ⟨b2, 0, none⟩)] w (RdPost (.int .i64 (numAt s a n)) 0 g s (a + n) 0 w) := by
  obtain ⟨hb1, hb2⟩ := numAt_lt4 s a n ha h0n hn
  have H := Lib.hid (little_yes g s a 0 n w h ha hs hm (by omega) hn)
  clear h ha hs hm h0n hn
  change Hid (Calls _ _ _ _ (RdPost (.int .u64 (numAt s a n)) 0 g s (a + n) 0 w)) at H
  generalize numAt s a n = v at *
  go_enter Tryd.func65, Tryd.ntmps65
  go_wp2_with fail
  refine H.out.mono ?_
  rintro _ w1 ⟨rfl, hr, hf⟩
  have ew : wrap64 v = v := by unfold wrap64; omega
  clear hp1 hp2 H
  have HR := Lib.hid hr
  have HF := Lib.hid hf
  clear hr hf
  go_wp2
  go_ret2
  exact ⟨rfl, HR.out, HF.out⟩

theorem clo65_no (h : Rdr w g s a 0) (hp1 : w.cell? ⟨b1, 0, none⟩ = some (.pointer (some ⟨g, 0, none⟩))) (hp2 : w.cell? ⟨b2, 0, none⟩ = some (.int .i64 n))
    (ha : 0 ≤ a) (hs : a ≤ s.size) (hm : s.size ≤ maxLen) (h0n : n = 1 ∨ n = 2 ∨ n = 4) (hn : (s.size : Int) - a < n) :
    Calls Tryd.prog 65 #[.pointer (some ⟨b1, 0, none⟩), .pointer (some ⟨b2, 0, none⟩)] w (RdPost (.int .i64 0) 16 g s a 0 w) := by
  have H := Lib.hid (little_no g s a 0 n w h ha hs hm (by omega) hn)
  have HH := Lib.hid h
  clear h ha hs hm h0n hn
  go_enter Tryd.func65, Tryd.ntmps65
  go_wp2_with fail
  refine H.out.mono ?_
  rintro _ w1 ⟨rfl, hf⟩
  have HR := Lib.hid (HH.out.fr hf (fun x => x))
  have HF := Lib.hid (hf.mono (S' := one_ g) (fun _ x => x.elim))
  clear hp1 hp2 H hf HH
  go_wp2
  go_ret2
  exact ⟨rfl, HR.out, HF.out⟩

theorem clo105_yes (h : Rdr w g s a 0) (hp1 : w.cell? ⟨b1, 0, none⟩ = some (.pointer (some ⟨g, 0, none⟩))) (hp2 : w.cell? ⟨b2, 0, none⟩ = some (.int .i64 8))
    (hb2 : b2 ≠ g)
    (ha : 0 ≤ a) (hs : a ≤ s.size) (hm : s.size ≤ maxLen) (hn : 8 ≤ (s.size : Int) - a) (h2 : Blk w b2 3 #[.int .i64 8]) :
    Calls Tryd.prog 105 #[.pointer (some ⟨b1, 0, none⟩), .pointer (some ⟨b2, 0, none⟩)] w (RdPost (.int .i64 (wrap64 (numAt s a 8))) 0 g s (a + 8) 0 w) := by
  have hv8 := numAt_lt8 s a ha hn
  have hv0 := (numAt_lt s a 8 ha (by omega) hn).1
  have H := Lib.hid (little_yes g s a 0 8 w h ha hs hm (by omega) hn)
  clear h ha hs hm hn
  change Hid (Calls _ _ _ _ (RdPost (.int .u64 (numAt s a 8)) 0 g s (a + 8) 0 w)) at H
  generalize numAt s a 8 = v at *
  go_enter Tryd.func105, Tryd.ntmps105
  go_wp2_with fail
  refine H.out.mono ?_
  rintro _ w1 ⟨rfl, hr, hf⟩
  have hc := (hf.blk h2 (fun e => hb2 e)).cell 0
  simp at hc
  have ew : IntKind.u64.wrap v = v := by rw [IntKind.wrap_u64]; omega
  clear hp1 hp2 H h2 hb2 hv8 hv0
  have HR := Lib.hid hr
  have HF := Lib.hid hf
  clear hr hf
  go_wp2
  go_ret2
  have e1 : (wrap64 v) / 1 = wrap64 v := by omega
  exact ⟨by simp, HR.out, HF.out⟩

theorem clo105_no (h : Rdr w g s a 0) (hp1 : w.cell? ⟨b1, 0, none⟩ = some (.pointer (some ⟨g, 0, none⟩))) (hp2 : w.cell? ⟨b2, 0, none⟩ = some (.int .i64 8))
    (ha : 0 ≤ a) (hs : a ≤ s.size) (hm : s.size ≤ maxLen) (hn : (s.size : Int) - a < 8) :
    Calls Tryd.prog 105 #[.pointer (some ⟨b1, 0, none⟩), .pointer (some ⟨b2, 0, none⟩)] w (RdPost (.int .i64 0) 16 g s a 0 w) := by
  have H := Lib.hid (little_no g s a 0 8 w h ha hs hm (by omega) hn)
  have HH := Lib.hid h
  clear h ha hs hm hn
  go_enter Tryd.func105, Tryd.ntmps105
  go_wp2_with fail
  refine H.out.mono ?_
  rintro _ w1 ⟨rfl, hf⟩
  have HR := Lib.hid (HH.out.fr hf (fun x => x))
  have HF := Lib.hid (hf.mono (S' := one_ g) (fun _ x => x.elim))
  clear hp1 hp2 H hf HH
  go_wp2
  go_ret2
  exact ⟨rfl, HR.out, HF.out⟩

theorem clo104_yes (h : Rdr w g s a 0) (hp1 : w.cell? ⟨b1, 0, none⟩ = some (.int .i64 n)) (hp2 : w.cell? ⟨b2, 0, none⟩ = some (.pointer (some ⟨g, 0, none⟩)))
    (ha : 0 ≤ a) (hs : a ≤ s.size) (hm : s.size ≤ maxLen) (h0n : 0 ≤ n) (hn : n ≤ (s.size : Int) - a) :
    Calls Tryd.prog 104 #[.pointer (some ⟨b1, 0, none⟩), .pointer (some ⟨b2, 0, none⟩)] w (RdPost (.string (s.extract a.toNat (a + n).toNat)) 0 g s (a + n) 0 w) := by
  have H := Lib.hid (take_yes g s a 0 n w h ha hs hm h0n hn)
  clear h ha hs hm hn
  go_enter Tryd.func104, Tryd.ntmps104
  go_wp2_with fail
  refine H.out.mono ?_
  rintro _ w1 ⟨rfl, hr, hf⟩
  clear hp1 hp2 H h0n
  have HR := Lib.hid hr
  have HF := Lib.hid hf
  clear hr hf
  go_wp2
  go_ret2
  exact ⟨rfl, HR.out, HF.out⟩
theorem clo104_no (h : Rdr w g s a 0) (hp1 : w.cell? ⟨b1, 0, none⟩ = some (.int .i64 n)) (hp2 : w.cell? ⟨b2, 0, none⟩ = some (.pointer (some ⟨g, 0, none⟩)))
    (ha : 0 ≤ a) (hs : a ≤ s.size) (hm : s.size ≤ maxLen) (h0n : 0 ≤ n) (hn : (s.size : Int) - a < n) :
    Calls Tryd.prog 104 #[.pointer (some ⟨b1, 0, none⟩), .pointer (some ⟨b2, 0, none⟩)] w (RdPost (.string ⟨#[]⟩) 16 g s a 0 w) := by
  have H := Lib.hid (take_no g s a 0 n w h ha hs hm hn)
  have HH := Lib.hid h
  clear h ha hs hm hn
  go_enter Tryd.func104, Tryd.ntmps104
  go_wp2_with fail
  refine H.out.mono ?_
  rintro _ w1 ⟨rfl, hf⟩
  have HR := Lib.hid (HH.out.fr hf (fun x => x))
  have HF := Lib.hid (hf.mono (S' := one_ g) (fun _ x => x.elim))
  clear hp1 hp2 H hf h0n HH
  go_wp2
  go_ret2
  exact ⟨rfl, HR.out, HF.out⟩

theorem clo70_end (h : Rdr w g s a 0) (hp1 : w.cell? ⟨b1, 0, none⟩ = some (.pointer (some ⟨g, 0, none⟩))) (hc : a = s.size) :
    Calls Tryd.prog 70 #[.pointer (some ⟨b1, 0, none⟩)] w (RdPost (.bool true) 0 g s a 0 w) := by
  have h0 := h.cell 0
  have h1 := h.cell 1
  simp at h0 h1
  have hcc : decide (a < (s.size : Int)) = false := by simp; omega
  have HF := Lib.hid (Fr.refl (one_ g) w)
  have HH := Lib.hid h
  clear h hc
  go_enter Tryd.func70, Tryd.ntmps70
  go_wp2
  go_quiet (fail)
  go_wp2
  go_ret2
  exact ⟨rfl, HH.out, HF.out⟩

theorem clo70_more (h : Rdr w g s a 0) (hp1 : w.cell? ⟨b1, 0, none⟩ = some (.pointer (some ⟨g, 0, none⟩))) (hc : a < s.size) :
    Calls Tryd.prog 70 #[.pointer (some ⟨b1, 0, none⟩)] w (RdPost (.bool false) 2 g s a 0 w) := by
  have h0 := h.cell 0
  have h1 := h.cell 1
  simp at h0 h1
  have hcc : decide (a < (s.size : Int)) = true := by simp; omega
  have HF := Lib.hid (Fr.refl (one_ g) w)
  have HH := Lib.hid h
  clear h hc
  go_enter Tryd.func70, Tryd.ntmps70
  go_wp2
  go_quiet (fail)
  go_wp2
  go_ret2
  exact ⟨rfl, HH.out, HF.out⟩
end

theorem Rdr.alloc {w : World} {g : Nat} {s : ByteArray} {a e : Int} (h : Rdr w g s a e) (o : Obj) : Rdr (w.alloc o) g s a e := Blk.alloc h o
theorem RdPost.of {v : Value} {c : Int} {g : Nat} {s : ByteArray} {a e : Int} {w w0 : World} {x : Ending} {w' : World} (h : RdPost v c g s a e w x w') (hf : Fr (one_ g) w0 w) : RdPost v c g s a e w0 x w' :=
  ⟨h.1, h.2.1, hf.trans h.2.2⟩
section
variable (g : Nat) (s : ByteArray) (a n : Int) (w : World)

theorem Little_yes (h : Rdr w g s a 0) (ha : 0 ≤ a) (hs : a ≤ s.size) (hm : s.size ≤ maxLen) (h0n : n = 1 ∨ n = 2 ∨ n = 4) (hn : n ≤ (s.size : Int) - a) :
    Calls Tryd.prog 54 #[.pointer (some ⟨g, 0, none⟩), .int .i64 n] w (RdPost (.int .i64 (numAt s a n)) 0 g s (a + n) 0 w) := by
  have h2 : Rdr ((w.alloc (.cells #[.pointer (some ⟨g, 0, none⟩)] 50)).alloc (.cells #[.int .i64 n] 3)) g s a 0 := (h.alloc _).alloc _
  have k1 : Blk ((w.alloc (.cells #[.pointer (some ⟨g, 0, none⟩)] 50)).alloc (.cells #[.int .i64 n] 3)) w.heap.size 50 #[.pointer (some ⟨g, 0, none⟩)] := (Blk.new w 50 _).alloc _
  have k2 : Blk ((w.alloc (.cells #[.pointer (some ⟨g, 0, none⟩)] 50)).alloc (.cells #[.int .i64 n] 3)) (w.heap.size + 1) 3 #[.int .i64 n] := by have := Blk.new (w.alloc (.cells #[.pointer (some ⟨g, 0, none⟩)] 50)) 3 #[.int .i64 n]; simpa using this
  have c1 : World.cell? ((w.alloc (.cells #[.pointer (some ⟨g, 0, none⟩)] 50)).alloc (.cells #[.int .i64 n] 3)) ⟨w.heap.size, 0, none⟩ = some (.pointer (some ⟨g, 0, none⟩)) := k1.cell 0
  have c2 : World.cell? ((w.alloc (.cells #[.pointer (some ⟨g, 0, none⟩)] 50)).alloc (.cells #[.int .i64 n] 3)) ⟨w.heap.size + 1, 0, none⟩ = some (.int .i64 n) := k2.cell 0
  have F2 : Fr (one_ g) w ((w.alloc (.cells #[.pointer (some ⟨g, 0, none⟩)] 50)).alloc (.cells #[.int .i64 n] 3)) := ((Fr.refl _ w).alloc _).alloc _
  have H := Lib.hid (reading64_65_ok g s a (a + n) _ _ _ _ h2 (clo65_yes g w.heap.size (w.heap.size + 1) s a n _ h2 c1 c2 ha hs hm h0n hn))
  have HF := Lib.hid F2
  clear h h2 k1 k2 c1 c2 F2 ha hs hm h0n hn
  go_enter Tryd.func54, Tryd.ntmps54
  go_wp2_with fail
  refine H.out.mono ?_
  rintro _ w1 hp
  have hp1 := RdPost.of hp HF.out
  obtain ⟨rfl, hr, hf⟩ := hp1
  have HR := Lib.hid hr
  have HG := Lib.hid hf
  clear hr hf H HF hp
  go_wp2
  go_ret2
  exact ⟨rfl, HR.out, HG.out⟩

theorem Little_no (h : Rdr w g s a 0) (ha : 0 ≤ a) (hs : a ≤ s.size) (hm : s.size ≤ maxLen) (h0n : n = 1 ∨ n = 2 ∨ n = 4) (hn : (s.size : Int) - a < n) :
    Calls Tryd.prog 54 #[.pointer (some ⟨g, 0, none⟩), .int .i64 n] w (RdPost (.int .i64 0) 16 g s a 16 w) := by
  have h2 : Rdr ((w.alloc (.cells #[.pointer (some ⟨g, 0, none⟩)] 50)).alloc (.cells #[.int .i64 n] 3)) g s a 0 := (h.alloc _).alloc _
  have k1 : Blk ((w.alloc (.cells #[.pointer (some ⟨g, 0, none⟩)] 50)).alloc (.cells #[.int .i64 n] 3)) w.heap.size 50 #[.pointer (some ⟨g, 0, none⟩)] := (Blk.new w 50 _).alloc _
  have k2 : Blk ((w.alloc (.cells #[.pointer (some ⟨g, 0, none⟩)] 50)).alloc (.cells #[.int .i64 n] 3)) (w.heap.size + 1) 3 #[.int .i64 n] := by have := Blk.new (w.alloc (.cells #[.pointer (some ⟨g, 0, none⟩)] 50)) 3 #[.int .i64 n]; simpa using this
  have c1 : World.cell? ((w.alloc (.cells #[.pointer (some ⟨g, 0, none⟩)] 50)).alloc (.cells #[.int .i64 n] 3)) ⟨w.heap.size, 0, none⟩ = some (.pointer (some ⟨g, 0, none⟩)) := k1.cell 0
  have c2 : World.cell? ((w.alloc (.cells #[.pointer (some ⟨g, 0, none⟩)] 50)).alloc (.cells #[.int .i64 n] 3)) ⟨w.heap.size + 1, 0, none⟩ = some (.int .i64 n) := k2.cell 0
  have F2 : Fr (one_ g) w ((w.alloc (.cells #[.pointer (some ⟨g, 0, none⟩)] 50)).alloc (.cells #[.int .i64 n] 3)) := ((Fr.refl _ w).alloc _).alloc _
  have H := Lib.hid (reading64_65_bad g s a a 16 (by decide) _ _ _ _ h2 (clo65_no g w.heap.size (w.heap.size + 1) s a n _ h2 c1 c2 ha hs hm h0n hn))
  have HF := Lib.hid F2
  clear h h2 k1 k2 c1 c2 F2 ha hs hm h0n hn
  go_enter Tryd.func54, Tryd.ntmps54
  go_wp2_with fail
  refine H.out.mono ?_
  rintro _ w1 hp
  have hp1 := RdPost.of hp HF.out
  obtain ⟨rfl, hr, hf⟩ := hp1
  have HR := Lib.hid hr
  have HG := Lib.hid hf
  clear hr hf H HF hp
  go_wp2
  go_ret2
  exact ⟨rfl, HR.out, HG.out⟩

theorem Little_err (e : Int) (he : e ≠ 0) (h : Rdr w g s a e) :
    Calls Tryd.prog 54 #[.pointer (some ⟨g, 0, none⟩), .int .i64 n] w (RdPost (.int .i64 0) e g s a e w) := by
  have H := Lib.hid (fun clo => reading64_err g s a e he clo ((w.alloc (.cells #[.pointer (some ⟨g, 0, none⟩)] 50)).alloc (.cells #[.int .i64 n] 3)) ((h.alloc _).alloc _))
  have HF := Lib.hid (((Fr.refl (one_ g) w).alloc (.cells #[.pointer (some ⟨g, 0, none⟩)] 50)).alloc (.cells #[.int .i64 n] 3))
  clear h he
  go_enter Tryd.func54, Tryd.ntmps54
  go_wp2_with fail
  refine (H.out _).mono ?_
  rintro _ w1 hp
  have hp1 := RdPost.of hp HF.out
  obtain ⟨rfl, hr, hf⟩ := hp1
  have HR := Lib.hid hr
  have HG := Lib.hid hf
  clear hr hf H HF hp
  go_wp2
  go_ret2
  exact ⟨rfl, HR.out, HG.out⟩

theorem Signed_yes (h : Rdr w g s a 0) (ha : 0 ≤ a) (hs : a ≤ s.size) (hm : s.size ≤ maxLen) (hn : 8 ≤ (s.size : Int) - a) :
    Calls Tryd.prog 102 #[.pointer (some ⟨g, 0, none⟩), .int .i64 8] w (RdPost (.int .i64 (wrap64 (numAt s a 8))) 0 g s (a + 8) 0 w) := by
  have h2 : Rdr ((w.alloc (.cells #[.pointer (some ⟨g, 0, none⟩)] 50)).alloc (.cells #[.int .i64 8] 3)) g s a 0 := (h.alloc _).alloc _
  have k1 : Blk ((w.alloc (.cells #[.pointer (some ⟨g, 0, none⟩)] 50)).alloc (.cells #[.int .i64 8] 3)) w.heap.size 50 #[.pointer (some ⟨g, 0, none⟩)] := (Blk.new w 50 _).alloc _
  have k2 : Blk ((w.alloc (.cells #[.pointer (some ⟨g, 0, none⟩)] 50)).alloc (.cells #[.int .i64 8] 3)) (w.heap.size + 1) 3 #[.int .i64 8] := by have := Blk.new (w.alloc (.cells #[.pointer (some ⟨g, 0, none⟩)] 50)) 3 #[.int .i64 8]; simpa using this
  have c1 : World.cell? ((w.alloc (.cells #[.pointer (some ⟨g, 0, none⟩)] 50)).alloc (.cells #[.int .i64 8] 3)) ⟨w.heap.size, 0, none⟩ = some (.pointer (some ⟨g, 0, none⟩)) := k1.cell 0
  have c2 : World.cell? ((w.alloc (.cells #[.pointer (some ⟨g, 0, none⟩)] 50)).alloc (.cells #[.int .i64 8] 3)) ⟨w.heap.size + 1, 0, none⟩ = some (.int .i64 8) := k2.cell 0
  have F2 : Fr (one_ g) w ((w.alloc (.cells #[.pointer (some ⟨g, 0, none⟩)] 50)).alloc (.cells #[.int .i64 8] 3)) := ((Fr.refl _ w).alloc _).alloc _
  have H := Lib.hid (reading64_105_ok g s a (a + 8) _ _ _ _ h2 (clo105_yes g w.heap.size (w.heap.size + 1) s a _ h2 c1 c2 (by have := h.lt; omega) ha hs hm hn k2))
  have HF := Lib.hid F2
  clear h h2 k1 k2 c1 c2 F2 ha hs hm hn
  go_enter Tryd.func102, Tryd.ntmps102
  go_wp2_with fail
  refine H.out.mono ?_
  rintro _ w1 hp
  have hp1 := RdPost.of hp HF.out
  obtain ⟨rfl, hr, hf⟩ := hp1
  have HR := Lib.hid hr
  have HG := Lib.hid hf
  clear hr hf H HF hp
  go_wp2
  go_ret2
  exact ⟨rfl, HR.out, HG.out⟩

theorem Signed_no (h : Rdr w g s a 0) (ha : 0 ≤ a) (hs : a ≤ s.size) (hm : s.size ≤ maxLen) (hn : (s.size : Int) - a < 8) :
    Calls Tryd.prog 102 #[.pointer (some ⟨g, 0, none⟩), .int .i64 8] w (RdPost (.int .i64 0) 16 g s a 16 w) := by
  have h2 : Rdr ((w.alloc (.cells #[.pointer (some ⟨g, 0, none⟩)] 50)).alloc (.cells #[.int .i64 8] 3)) g s a 0 := (h.alloc _).alloc _
  have k1 : Blk ((w.alloc (.cells #[.pointer (some ⟨g, 0, none⟩)] 50)).alloc (.cells #[.int .i64 8] 3)) w.heap.size 50 #[.pointer (some ⟨g, 0, none⟩)] := (Blk.new w 50 _).alloc _
  have k2 : Blk ((w.alloc (.cells #[.pointer (some ⟨g, 0, none⟩)] 50)).alloc (.cells #[.int .i64 8] 3)) (w.heap.size + 1) 3 #[.int .i64 8] := by have := Blk.new (w.alloc (.cells #[.pointer (some ⟨g, 0, none⟩)] 50)) 3 #[.int .i64 8]; simpa using this
  have c1 : World.cell? ((w.alloc (.cells #[.pointer (some ⟨g, 0, none⟩)] 50)).alloc (.cells #[.int .i64 8] 3)) ⟨w.heap.size, 0, none⟩ = some (.pointer (some ⟨g, 0, none⟩)) := k1.cell 0
  have c2 : World.cell? ((w.alloc (.cells #[.pointer (some ⟨g, 0, none⟩)] 50)).alloc (.cells #[.int .i64 8] 3)) ⟨w.heap.size + 1, 0, none⟩ = some (.int .i64 8) := k2.cell 0
  have F2 : Fr (one_ g) w ((w.alloc (.cells #[.pointer (some ⟨g, 0, none⟩)] 50)).alloc (.cells #[.int .i64 8] 3)) := ((Fr.refl _ w).alloc _).alloc _
  have H := Lib.hid (reading64_105_bad g s a a 16 (by decide) _ _ _ _ h2 (clo105_no g w.heap.size (w.heap.size + 1) s a _ h2 c1 c2 ha hs hm hn))
  have HF := Lib.hid F2
  clear h h2 k1 k2 c1 c2 F2 ha hs hm hn
  go_enter Tryd.func102, Tryd.ntmps102
  go_wp2_with fail
  refine H.out.mono ?_
  rintro _ w1 hp
  have hp1 := RdPost.of hp HF.out
  obtain ⟨rfl, hr, hf⟩ := hp1
  have HR := Lib.hid hr
  have HG := Lib.hid hf
  clear hr hf H HF hp
  go_wp2
  go_ret2
  exact ⟨rfl, HR.out, HG.out⟩

theorem Signed_err (e : Int) (he : e ≠ 0) (h : Rdr w g s a e) :
    Calls Tryd.prog 102 #[.pointer (some ⟨g, 0, none⟩), .int .i64 8] w (RdPost (.int .i64 0) e g s a e w) := by
  have H := Lib.hid (fun clo => reading64_err g s a e he clo ((w.alloc (.cells #[.pointer (some ⟨g, 0, none⟩)] 50)).alloc (.cells #[.int .i64 8] 3)) ((h.alloc _).alloc _))
  have HF := Lib.hid (((Fr.refl (one_ g) w).alloc (.cells #[.pointer (some ⟨g, 0, none⟩)] 50)).alloc (.cells #[.int .i64 8] 3))
  clear h he
  go_enter Tryd.func102, Tryd.ntmps102
  go_wp2_with fail
  refine (H.out _).mono ?_
  rintro _ w1 hp
  have hp1 := RdPost.of hp HF.out
  obtain ⟨rfl, hr, hf⟩ := hp1
  have HR := Lib.hid hr
  have HG := Lib.hid hf
  clear hr hf H HF hp
  go_wp2
  go_ret2
  exact ⟨rfl, HR.out, HG.out⟩

theorem Raw_yes (h : Rdr w g s a 0) (ha : 0 ≤ a) (hs : a ≤ s.size) (hm : s.size ≤ maxLen) (h0n : 0 ≤ n) (hn : n ≤ (s.size : Int) - a) :
    Calls Tryd.prog 101 #[.pointer (some ⟨g, 0, none⟩), .int .i64 n] w (RdPost (.string (s.extract a.toNat (a + n).toNat)) 0 g s (a + n) 0 w) := by
  have h2 : Rdr ((w.alloc (.cells #[.pointer (some ⟨g, 0, none⟩)] 50)).alloc (.cells #[.int .i64 n] 3)) g s a 0 := (h.alloc _).alloc _
  have k1 : Blk ((w.alloc (.cells #[.pointer (some ⟨g, 0, none⟩)] 50)).alloc (.cells #[.int .i64 n] 3)) w.heap.size 50 #[.pointer (some ⟨g, 0, none⟩)] := (Blk.new w 50 _).alloc _
  have k2 : Blk ((w.alloc (.cells #[.pointer (some ⟨g, 0, none⟩)] 50)).alloc (.cells #[.int .i64 n] 3)) (w.heap.size + 1) 3 #[.int .i64 n] := by have := Blk.new (w.alloc (.cells #[.pointer (some ⟨g, 0, none⟩)] 50)) 3 #[.int .i64 n]; simpa using this
  have c1 : World.cell? ((w.alloc (.cells #[.pointer (some ⟨g, 0, none⟩)] 50)).alloc (.cells #[.int .i64 n] 3)) ⟨w.heap.size, 0, none⟩ = some (.pointer (some ⟨g, 0, none⟩)) := k1.cell 0
  have c2 : World.cell? ((w.alloc (.cells #[.pointer (some ⟨g, 0, none⟩)] 50)).alloc (.cells #[.int .i64 n] 3)) ⟨w.heap.size + 1, 0, none⟩ = some (.int .i64 n) := k2.cell 0
  have F2 : Fr (one_ g) w ((w.alloc (.cells #[.pointer (some ⟨g, 0, none⟩)] 50)).alloc (.cells #[.int .i64 n] 3)) := ((Fr.refl _ w).alloc _).alloc _
  have H := Lib.hid (reading103_104_ok g s a (a + n) _ _ _ _ h2 (clo104_yes g (w.heap.size + 1) w.heap.size s a n _ h2 c2 c1 ha hs hm h0n hn))
  have HF := Lib.hid F2
  clear h h2 k1 k2 c1 c2 F2 ha hs hm h0n hn
  go_enter Tryd.func101, Tryd.ntmps101
  go_wp2_with fail
  refine H.out.mono ?_
  rintro _ w1 hp
  have hp1 := RdPost.of hp HF.out
  obtain ⟨rfl, hr, hf⟩ := hp1
  have HR := Lib.hid hr
  have HG := Lib.hid hf
  clear hr hf H HF hp
  go_wp2
  go_ret2
  exact ⟨rfl, HR.out, HG.out⟩

theorem Raw_no (h : Rdr w g s a 0) (ha : 0 ≤ a) (hs : a ≤ s.size) (hm : s.size ≤ maxLen) (h0n : 0 ≤ n) (hn : (s.size : Int) - a < n) :
    Calls Tryd.prog 101 #[.pointer (some ⟨g, 0, none⟩), .int .i64 n] w (RdPost (.string ⟨#[]⟩) 16 g s a 16 w) := by
  have h2 : Rdr ((w.alloc (.cells #[.pointer (some ⟨g, 0, none⟩)] 50)).alloc (.cells #[.int .i64 n] 3)) g s a 0 := (h.alloc _).alloc _
  have k1 : Blk ((w.alloc (.cells #[.pointer (some ⟨g, 0, none⟩)] 50)).alloc (.cells #[.int .i64 n] 3)) w.heap.size 50 #[.pointer (some ⟨g, 0, none⟩)] := (Blk.new w 50 _).alloc _
  have k2 : Blk ((w.alloc (.cells #[.pointer (some ⟨g, 0, none⟩)] 50)).alloc (.cells #[.int .i64 n] 3)) (w.heap.size + 1) 3 #[.int .i64 n] := by have := Blk.new (w.alloc (.cells #[.pointer (some ⟨g, 0, none⟩)] 50)) 3 #[.int .i64 n]; simpa using this
  have c1 : World.cell? ((w.alloc (.cells #[.pointer (some ⟨g, 0, none⟩)] 50)).alloc (.cells #[.int .i64 n] 3)) ⟨w.heap.size, 0, none⟩ = some (.pointer (some ⟨g, 0, none⟩)) := k1.cell 0
  have c2 : World.cell? ((w.alloc (.cells #[.pointer (some ⟨g, 0, none⟩)] 50)).alloc (.cells #[.int .i64 n] 3)) ⟨w.heap.size + 1, 0, none⟩ = some (.int .i64 n) := k2.cell 0
  have F2 : Fr (one_ g) w ((w.alloc (.cells #[.pointer (some ⟨g, 0, none⟩)] 50)).alloc (.cells #[.int .i64 n] 3)) := ((Fr.refl _ w).alloc _).alloc _
  have H := Lib.hid (reading103_104_bad g s a a 16 (by decide) _ _ _ _ h2 (clo104_no g (w.heap.size + 1) w.heap.size s a n _ h2 c2 c1 ha hs hm h0n hn))
  have HF := Lib.hid F2
  clear h h2 k1 k2 c1 c2 F2 ha hs hm h0n hn
  go_enter Tryd.func101, Tryd.ntmps101
  go_wp2_with fail
  refine H.out.mono ?_
  rintro _ w1 hp
  have hp1 := RdPost.of hp HF.out
  obtain ⟨rfl, hr, hf⟩ := hp1
  have HR := Lib.hid hr
  have HG := Lib.hid hf
  clear hr hf H HF hp
  go_wp2
  go_ret2
  exact ⟨rfl, HR.out, HG.out⟩

theorem Raw_err (e : Int) (he : e ≠ 0) (h : Rdr w g s a e) :
    Calls Tryd.prog 101 #[.pointer (some ⟨g, 0, none⟩), .int .i64 n] w (RdPost (.string ⟨#[]⟩) e g s a e w) := by
  have H := Lib.hid (fun clo => reading103_err g s a e he clo ((w.alloc (.cells #[.pointer (some ⟨g, 0, none⟩)] 50)).alloc (.cells #[.int .i64 n] 3)) ((h.alloc _).alloc _))
  have HF := Lib.hid (((Fr.refl (one_ g) w).alloc (.cells #[.pointer (some ⟨g, 0, none⟩)] 50)).alloc (.cells #[.int .i64 n] 3))
  clear h he
  go_enter Tryd.func101, Tryd.ntmps101
  go_wp2_with fail
  refine (H.out _).mono ?_
  rintro _ w1 hp
  have hp1 := RdPost.of hp HF.out
  obtain ⟨rfl, hr, hf⟩ := hp1
  have HR := Lib.hid hr
  have HG := Lib.hid hf
  clear hr hf H HF hp
  go_wp2
  go_ret2
  exact ⟨rfl, HR.out, HG.out⟩

def EndPostEnd (c : Int) (g : Nat) (s : ByteArray) (a e : Int) (w : World) (x : Ending) (w' : World) : Prop := x = .returned (.int .i64 c) ∧ Rdr w' g s a e ∧ Fr (one_ g) w w'
theorem End_end (h : Rdr w g s a 0) (hc : a = s.size) :
    Calls Tryd.prog 57 #[.pointer (some ⟨g, 0, none⟩)] w (EndPostEnd 0 g s a 0 w) := by
  have c1 : World.cell? (w.alloc (.cells #[.pointer (some ⟨g, 0, none⟩)] 50)) ⟨w.heap.size, 0, none⟩ = some (.pointer (some ⟨g, 0, none⟩)) := (Blk.new w 50 #[.pointer (some ⟨g, 0, none⟩)]).cell 0
  have H := Lib.hid (reading69_70_ok g s a a _ _ _ (h.alloc _) (clo70_end g w.heap.size s a _ (h.alloc _) c1 hc))
  have HF := Lib.hid ((Fr.refl (one_ g) w).alloc (.cells #[.pointer (some ⟨g, 0, none⟩)] 50))
  clear h c1 hc
  go_enter Tryd.func57, Tryd.ntmps57
  go_wp2_with fail
  refine H.out.mono ?_
  rintro _ w1 hp
  have hp1 := RdPost.of hp HF.out
  obtain ⟨rfl, hr, hf⟩ := hp1
  have HR := Lib.hid hr
  have HG := Lib.hid hf
  clear hr hf H HF hp
  go_wp2
  go_ret
  exact ⟨rfl, HR.out, HG.out⟩

def EndPostMore (c : Int) (g : Nat) (s : ByteArray) (a e : Int) (w : World) (x : Ending) (w' : World) : Prop := x = .returned (.int .i64 c) ∧ Rdr w' g s a e ∧ Fr (one_ g) w w'
theorem End_more (h : Rdr w g s a 0) (hc : a < s.size) :
    Calls Tryd.prog 57 #[.pointer (some ⟨g, 0, none⟩)] w (EndPostMore 2 g s a 2 w) := by
  have c1 : World.cell? (w.alloc (.cells #[.pointer (some ⟨g, 0, none⟩)] 50)) ⟨w.heap.size, 0, none⟩ = some (.pointer (some ⟨g, 0, none⟩)) := (Blk.new w 50 #[.pointer (some ⟨g, 0, none⟩)]).cell 0
  have H := Lib.hid (reading69_70_bad g s a a 2 (by decide) _ _ _ (h.alloc _) (clo70_more g w.heap.size s a _ (h.alloc _) c1 hc))
  have HF := Lib.hid ((Fr.refl (one_ g) w).alloc (.cells #[.pointer (some ⟨g, 0, none⟩)] 50))
  clear h c1 hc
  go_enter Tryd.func57, Tryd.ntmps57
  go_wp2_with fail
  refine H.out.mono ?_
  rintro _ w1 hp
  have hp1 := RdPost.of hp HF.out
  obtain ⟨rfl, hr, hf⟩ := hp1
  have HR := Lib.hid hr
  have HG := Lib.hid hf
  clear hr hf H HF hp
  go_wp2
  go_ret
  exact ⟨rfl, HR.out, HG.out⟩

def EndPostErr (c : Int) (g : Nat) (s : ByteArray) (a e : Int) (w : World) (x : Ending) (w' : World) : Prop := x = .returned (.int .i64 c) ∧ Rdr w' g s a e ∧ Fr (one_ g) w w'
theorem End_err (e : Int) (he : e ≠ 0) (h : Rdr w g s a e) :
    Calls Tryd.prog 57 #[.pointer (some ⟨g, 0, none⟩)] w (EndPostErr e g s a e w) := by
  have c1 : World.cell? (w.alloc (.cells #[.pointer (some ⟨g, 0, none⟩)] 50)) ⟨w.heap.size, 0, none⟩ = some (.pointer (some ⟨g, 0, none⟩)) := (Blk.new w 50 #[.pointer (some ⟨g, 0, none⟩)]).cell 0
  have H := Lib.hid (fun clo => reading69_err g s a e he clo (w.alloc (.cells #[.pointer (some ⟨g, 0, none⟩)] 50)) (h.alloc _))
  have HF := Lib.hid ((Fr.refl (one_ g) w).alloc (.cells #[.pointer (some ⟨g, 0, none⟩)] 50))
  clear h c1 he
  go_enter Tryd.func57, Tryd.ntmps57
  go_wp2_with fail
  refine (H.out _).mono ?_
  rintro _ w1 hp
  have hp1 := RdPost.of hp HF.out
  obtain ⟨rfl, hr, hf⟩ := hp1
  have HR := Lib.hid hr
  have HG := Lib.hid hf
  clear hr hf H HF hp
  go_wp2
  go_ret
  exact ⟨rfl, HR.out, HG.out⟩
end
end Go.Proofs.YtggkebngkkddhaaDoor
