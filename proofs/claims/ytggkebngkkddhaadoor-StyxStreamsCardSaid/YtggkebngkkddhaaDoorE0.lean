/- The words of requests; the walks through Request, Word, known and single. (Printed by gen_e0.py.) -/
import Derived.Test.YtggkebngkkddhaaDoorD5
namespace Go.Proofs.YtggkebngkkddhaaDoor
open Go.RowKit

/-- The name of a request, else the empty string. -/
def wordB (k : Int) : ByteArray :=
  if k = 100 then ⟨#[118, 101, 114, 115, 105, 111, 110]⟩ else if k = 102 then ⟨#[97, 117, 116, 104]⟩ else if k = 104 then ⟨#[97, 116, 116, 97, 99, 104]⟩ else if k = 108 then ⟨#[102, 108, 117, 115, 104]⟩ else if k = 110 then ⟨#[119, 97, 108, 107]⟩ else if k = 112 then ⟨#[111, 112, 101, 110]⟩ else if k = 114 then ⟨#[99, 114, 101, 97, 116, 101]⟩ else if k = 116 then ⟨#[114, 101, 97, 100]⟩ else if k = 118 then ⟨#[119, 114, 105, 116, 101]⟩ else if k = 120 then ⟨#[99, 108, 117, 110, 107]⟩ else if k = 122 then ⟨#[114, 101, 109, 111, 118, 101]⟩ else if k = 124 then ⟨#[115, 116, 97, 116]⟩ else if k = 126 then ⟨#[119, 115, 116, 97, 116]⟩ else ⟨#[]⟩
def isReq (k : Int) : Bool := decide (k = 100 ∨ k = 102 ∨ k = 104 ∨ k = 108 ∨ k = 110 ∨ k = 112 ∨ k = 114 ∨ k = 116 ∨ k = 118 ∨ k = 120 ∨ k = 122 ∨ k = 124 ∨ k = 126)

/-- The variable styx.words holds the names. -/
def Words (w : World) : Prop := ∃ bm, w.cell? ⟨0, 0, none⟩ = some (.map (some bm)) ∧ bm < w.heap.size ∧
  ∀ w' : World, w'.heap[bm]? = w.heap[bm]? → ∀ k : Int, i64r k → (Instr.lookup 126 (.map (some bm)) (.int .i64 k) false).run Tryd.prog w' = .ok (.string (wordB k)) w'
theorem Words.pos {w : World} (h : Words w) : 0 < w.heap.size := by
  obtain ⟨bm, hc, _⟩ := h
  exact cell_lt hc
theorem Words.fr {S : Nat → Prop} {w w' : World} (h : Words w) (hf : Fr S w w') (hS : ∀ c, S c → w.heap.size ≤ c) : Words w' := by
  have hp := h.pos
  obtain ⟨bm, hc, hlt, hl⟩ := h
  refine ⟨bm, hf.cell hc (fun x => by have : w.heap.size ≤ 0 := hS _ x; omega), Nat.lt_of_lt_of_le hlt hf.1, fun w2 h2 k hk => hl w2 ?_ k hk⟩
  exact h2.trans (hf.2 bm hlt (fun x => by have := hS _ x; omega))
theorem Words.drew {w : World} (h : Words w) : Words w.drew := h.fr (Fr.refl none_ w).drew (fun _ x => x.elim)

theorem wordB_not {k : Int} (h : isReq k = false) : wordB k = ⟨#[]⟩ := by
  have h := of_decide_eq_false h
  simp only [not_or] at h
  simp [wordB, h]
theorem not_req {k : Int} (h : ¬ isReq k = true) : isReq k = false := by simpa using h
theorem isReq_cases {k : Int} (h : isReq k = true) : k = 100 ∨ k = 102 ∨ k = 104 ∨ k = 108 ∨ k = 110 ∨ k = 112 ∨ k = 114 ∨ k = 116 ∨ k = 118 ∨ k = 120 ∨ k = 122 ∨ k = 124 ∨ k = 126 := of_decide_eq_true h
theorem i64_small (k : Int) (h : i64r k) : IntKind.i64.wrap (k - 1) = if k = -9223372036854775808 then 9223372036854775807 else k - 1 := by
  unfold i64r at h
  rw [IntKind.wrap_i64]
  split <;> omega

theorem request_no (k : Int) (w : World) (hw : Words w) (hk : i64r k) (h : isReq k = false) : Calls Tryd.prog 67 #[.int .i64 k] w (fun e w' => e = .returned (.bool false) ∧ w = w') := by
  obtain ⟨bm, c0, _, hl⟩ := hw
  have hl := hl w rfl k hk
  rw [wordB_not h] at hl
  clear h hk
  go_enter Tryd.func67, Tryd.ntmps67
  go_wp2
  go_ret
  exact ⟨rfl, rfl⟩
theorem request_100 (w : World) (hw : Words w) : Calls Tryd.prog 67 #[.int .i64 100] w (fun e w' => e = .returned (.bool true) ∧ w = w') := by
  obtain ⟨bm, c0, _, hl⟩ := hw
  have hl := hl w rfl 100 ⟨by omega, by omega⟩
  change _ = Result.ok (Value.string ⟨#[118, 101, 114, 115, 105, 111, 110]⟩) w at hl
  go_enter Tryd.func67, Tryd.ntmps67
  go_wp2
  go_ret
  exact ⟨rfl, rfl⟩
theorem request_102 (w : World) (hw : Words w) : Calls Tryd.prog 67 #[.int .i64 102] w (fun e w' => e = .returned (.bool true) ∧ w = w') := by
  obtain ⟨bm, c0, _, hl⟩ := hw
  have hl := hl w rfl 102 ⟨by omega, by omega⟩
  change _ = Result.ok (Value.string ⟨#[97, 117, 116, 104]⟩) w at hl
  go_enter Tryd.func67, Tryd.ntmps67
  go_wp2
  go_ret
  exact ⟨rfl, rfl⟩
theorem request_104 (w : World) (hw : Words w) : Calls Tryd.prog 67 #[.int .i64 104] w (fun e w' => e = .returned (.bool true) ∧ w = w') := by
  obtain ⟨bm, c0, _, hl⟩ := hw
  have hl := hl w rfl 104 ⟨by omega, by omega⟩
  change _ = Result.ok (Value.string ⟨#[97, 116, 116, 97, 99, 104]⟩) w at hl
  go_enter Tryd.func67, Tryd.ntmps67
  go_wp2
  go_ret
  exact ⟨rfl, rfl⟩
theorem request_108 (w : World) (hw : Words w) : Calls Tryd.prog 67 #[.int .i64 108] w (fun e w' => e = .returned (.bool true) ∧ w = w') := by
  obtain ⟨bm, c0, _, hl⟩ := hw
  have hl := hl w rfl 108 ⟨by omega, by omega⟩
  change _ = Result.ok (Value.string ⟨#[102, 108, 117, 115, 104]⟩) w at hl
  go_enter Tryd.func67, Tryd.ntmps67
  go_wp2
  go_ret
  exact ⟨rfl, rfl⟩
theorem request_110 (w : World) (hw : Words w) : Calls Tryd.prog 67 #[.int .i64 110] w (fun e w' => e = .returned (.bool true) ∧ w = w') := by
  obtain ⟨bm, c0, _, hl⟩ := hw
  have hl := hl w rfl 110 ⟨by omega, by omega⟩
  change _ = Result.ok (Value.string ⟨#[119, 97, 108, 107]⟩) w at hl
  go_enter Tryd.func67, Tryd.ntmps67
  go_wp2
  go_ret
  exact ⟨rfl, rfl⟩
theorem request_112 (w : World) (hw : Words w) : Calls Tryd.prog 67 #[.int .i64 112] w (fun e w' => e = .returned (.bool true) ∧ w = w') := by
  obtain ⟨bm, c0, _, hl⟩ := hw
  have hl := hl w rfl 112 ⟨by omega, by omega⟩
  change _ = Result.ok (Value.string ⟨#[111, 112, 101, 110]⟩) w at hl
  go_enter Tryd.func67, Tryd.ntmps67
  go_wp2
  go_ret
  exact ⟨rfl, rfl⟩
theorem request_114 (w : World) (hw : Words w) : Calls Tryd.prog 67 #[.int .i64 114] w (fun e w' => e = .returned (.bool true) ∧ w = w') := by
  obtain ⟨bm, c0, _, hl⟩ := hw
  have hl := hl w rfl 114 ⟨by omega, by omega⟩
  change _ = Result.ok (Value.string ⟨#[99, 114, 101, 97, 116, 101]⟩) w at hl
  go_enter Tryd.func67, Tryd.ntmps67
  go_wp2
  go_ret
  exact ⟨rfl, rfl⟩
theorem request_116 (w : World) (hw : Words w) : Calls Tryd.prog 67 #[.int .i64 116] w (fun e w' => e = .returned (.bool true) ∧ w = w') := by
  obtain ⟨bm, c0, _, hl⟩ := hw
  have hl := hl w rfl 116 ⟨by omega, by omega⟩
  change _ = Result.ok (Value.string ⟨#[114, 101, 97, 100]⟩) w at hl
  go_enter Tryd.func67, Tryd.ntmps67
  go_wp2
  go_ret
  exact ⟨rfl, rfl⟩
theorem request_118 (w : World) (hw : Words w) : Calls Tryd.prog 67 #[.int .i64 118] w (fun e w' => e = .returned (.bool true) ∧ w = w') := by
  obtain ⟨bm, c0, _, hl⟩ := hw
  have hl := hl w rfl 118 ⟨by omega, by omega⟩
  change _ = Result.ok (Value.string ⟨#[119, 114, 105, 116, 101]⟩) w at hl
  go_enter Tryd.func67, Tryd.ntmps67
  go_wp2
  go_ret
  exact ⟨rfl, rfl⟩
theorem request_120 (w : World) (hw : Words w) : Calls Tryd.prog 67 #[.int .i64 120] w (fun e w' => e = .returned (.bool true) ∧ w = w') := by
  obtain ⟨bm, c0, _, hl⟩ := hw
  have hl := hl w rfl 120 ⟨by omega, by omega⟩
  change _ = Result.ok (Value.string ⟨#[99, 108, 117, 110, 107]⟩) w at hl
  go_enter Tryd.func67, Tryd.ntmps67
  go_wp2
  go_ret
  exact ⟨rfl, rfl⟩
theorem request_122 (w : World) (hw : Words w) : Calls Tryd.prog 67 #[.int .i64 122] w (fun e w' => e = .returned (.bool true) ∧ w = w') := by
  obtain ⟨bm, c0, _, hl⟩ := hw
  have hl := hl w rfl 122 ⟨by omega, by omega⟩
  change _ = Result.ok (Value.string ⟨#[114, 101, 109, 111, 118, 101]⟩) w at hl
  go_enter Tryd.func67, Tryd.ntmps67
  go_wp2
  go_ret
  exact ⟨rfl, rfl⟩
theorem request_124 (w : World) (hw : Words w) : Calls Tryd.prog 67 #[.int .i64 124] w (fun e w' => e = .returned (.bool true) ∧ w = w') := by
  obtain ⟨bm, c0, _, hl⟩ := hw
  have hl := hl w rfl 124 ⟨by omega, by omega⟩
  change _ = Result.ok (Value.string ⟨#[115, 116, 97, 116]⟩) w at hl
  go_enter Tryd.func67, Tryd.ntmps67
  go_wp2
  go_ret
  exact ⟨rfl, rfl⟩
theorem request_126 (w : World) (hw : Words w) : Calls Tryd.prog 67 #[.int .i64 126] w (fun e w' => e = .returned (.bool true) ∧ w = w') := by
  obtain ⟨bm, c0, _, hl⟩ := hw
  have hl := hl w rfl 126 ⟨by omega, by omega⟩
  change _ = Result.ok (Value.string ⟨#[119, 115, 116, 97, 116]⟩) w at hl
  go_enter Tryd.func67, Tryd.ntmps67
  go_wp2
  go_ret
  exact ⟨rfl, rfl⟩

/-- What Word gives: empty, or not. -/
def IsStr (b : Bool) (w : World) (e : Ending) (w' : World) : Prop := ∃ s : ByteArray, (if b then s.data.toList ≠ [] else s = ⟨#[]⟩) ∧ e = .returned (.string s) ∧ w = w'

theorem word_none (k : Int) (w : World) (hw : Words w) (hk : i64r k) (h1 : k ≠ 107) (h2 : isReq k = false) (h3 : isReq (IntKind.i64.wrap (k - 1)) = false) : Calls Tryd.prog 55 #[.int .i64 k] w (fun e w' => e = .returned (.string ⟨#[]⟩) ∧ w = w') := by
  have hb : (k == 107) = false := by simpa using h1
  have hk1 : i64r (IntKind.i64.wrap (k - 1)) := by rw [IntKind.wrap_i64]; unfold i64r; omega
  have R1 := Lib.hid (request_no k w hw hk h2)
  have R2 := Lib.hid (request_no _ w hw hk1 h3)
  clear h1 h2 h3 hk hk1 hw
  generalize hx : IntKind.i64.wrap (k - 1) = k1 at R2
  go_enter Tryd.func55, Tryd.ntmps55
  go_wp2_with fail
  refine R1.out.mono ?_
  rintro _ w1 ⟨rfl, rfl⟩
  go_wp2_with fail
  refine R2.out.mono ?_
  rintro _ w1 ⟨rfl, rfl⟩
  go_wp2
  go_ret
  exact ⟨rfl, rfl⟩
theorem word_107 (w : World) : Calls Tryd.prog 55 #[.int .i64 107] w (fun e w' => e = .returned (.string ⟨#[82, 101, 114, 114, 111, 114]⟩) ∧ w = w') := by
  go_enter Tryd.func55, Tryd.ntmps55
  go_wp2
  go_ret
  exact ⟨rfl, rfl⟩
theorem word_100 (w : World) (hw : Words w) : Calls Tryd.prog 55 #[.int .i64 100] w (fun e w' => e = .returned (.string ⟨#[118, 101, 114, 115, 105, 111, 110]⟩) ∧ w = w') := by
  have R1 := Lib.hid (request_100 w hw)
  obtain ⟨bm, c0, _, hl⟩ := hw
  have hl := hl w rfl 100 ⟨by omega, by omega⟩
  change _ = Result.ok (Value.string ⟨#[118, 101, 114, 115, 105, 111, 110]⟩) w at hl
  go_enter Tryd.func55, Tryd.ntmps55
  go_wp2_with fail
  refine R1.out.mono ?_
  rintro _ w1 ⟨rfl, rfl⟩
  go_wp2
  go_ret
  exact ⟨rfl, rfl⟩
theorem word_101 (w : World) (hw : Words w) : Calls Tryd.prog 55 #[.int .i64 101] w (fun e w' => e = .returned (.string ⟨#[82, 118, 101, 114, 115, 105, 111, 110]⟩) ∧ w = w') := by
  have R1 := Lib.hid (request_no 101 w hw ⟨by omega, by omega⟩ (by decide))
  have R2 := Lib.hid (request_100 w hw)
  obtain ⟨bm, c0, _, hl⟩ := hw
  have hl := hl w rfl 100 ⟨by omega, by omega⟩
  change _ = Result.ok (Value.string ⟨#[118, 101, 114, 115, 105, 111, 110]⟩) w at hl
  go_enter Tryd.func55, Tryd.ntmps55
  go_wp2_with fail
  refine R1.out.mono ?_
  rintro _ w1 ⟨rfl, rfl⟩
  go_wp2_with fail
  refine R2.out.mono ?_
  rintro _ w1 ⟨rfl, rfl⟩
  go_wp2
  go_ret
  exact ⟨rfl, rfl⟩
theorem word_102 (w : World) (hw : Words w) : Calls Tryd.prog 55 #[.int .i64 102] w (fun e w' => e = .returned (.string ⟨#[97, 117, 116, 104]⟩) ∧ w = w') := by
  have R1 := Lib.hid (request_102 w hw)
  obtain ⟨bm, c0, _, hl⟩ := hw
  have hl := hl w rfl 102 ⟨by omega, by omega⟩
  change _ = Result.ok (Value.string ⟨#[97, 117, 116, 104]⟩) w at hl
  go_enter Tryd.func55, Tryd.ntmps55
  go_wp2_with fail
  refine R1.out.mono ?_
  rintro _ w1 ⟨rfl, rfl⟩
  go_wp2
  go_ret
  exact ⟨rfl, rfl⟩
theorem word_103 (w : World) (hw : Words w) : Calls Tryd.prog 55 #[.int .i64 103] w (fun e w' => e = .returned (.string ⟨#[82, 97, 117, 116, 104]⟩) ∧ w = w') := by
  have R1 := Lib.hid (request_no 103 w hw ⟨by omega, by omega⟩ (by decide))
  have R2 := Lib.hid (request_102 w hw)
  obtain ⟨bm, c0, _, hl⟩ := hw
  have hl := hl w rfl 102 ⟨by omega, by omega⟩
  change _ = Result.ok (Value.string ⟨#[97, 117, 116, 104]⟩) w at hl
  go_enter Tryd.func55, Tryd.ntmps55
  go_wp2_with fail
  refine R1.out.mono ?_
  rintro _ w1 ⟨rfl, rfl⟩
  go_wp2_with fail
  refine R2.out.mono ?_
  rintro _ w1 ⟨rfl, rfl⟩
  go_wp2
  go_ret
  exact ⟨rfl, rfl⟩
theorem word_104 (w : World) (hw : Words w) : Calls Tryd.prog 55 #[.int .i64 104] w (fun e w' => e = .returned (.string ⟨#[97, 116, 116, 97, 99, 104]⟩) ∧ w = w') := by
  have R1 := Lib.hid (request_104 w hw)
  obtain ⟨bm, c0, _, hl⟩ := hw
  have hl := hl w rfl 104 ⟨by omega, by omega⟩
  change _ = Result.ok (Value.string ⟨#[97, 116, 116, 97, 99, 104]⟩) w at hl
  go_enter Tryd.func55, Tryd.ntmps55
  go_wp2_with fail
  refine R1.out.mono ?_
  rintro _ w1 ⟨rfl, rfl⟩
  go_wp2
  go_ret
  exact ⟨rfl, rfl⟩
theorem word_105 (w : World) (hw : Words w) : Calls Tryd.prog 55 #[.int .i64 105] w (fun e w' => e = .returned (.string ⟨#[82, 97, 116, 116, 97, 99, 104]⟩) ∧ w = w') := by
  have R1 := Lib.hid (request_no 105 w hw ⟨by omega, by omega⟩ (by decide))
  have R2 := Lib.hid (request_104 w hw)
  obtain ⟨bm, c0, _, hl⟩ := hw
  have hl := hl w rfl 104 ⟨by omega, by omega⟩
  change _ = Result.ok (Value.string ⟨#[97, 116, 116, 97, 99, 104]⟩) w at hl
  go_enter Tryd.func55, Tryd.ntmps55
  go_wp2_with fail
  refine R1.out.mono ?_
  rintro _ w1 ⟨rfl, rfl⟩
  go_wp2_with fail
  refine R2.out.mono ?_
  rintro _ w1 ⟨rfl, rfl⟩
  go_wp2
  go_ret
  exact ⟨rfl, rfl⟩
theorem word_108 (w : World) (hw : Words w) : Calls Tryd.prog 55 #[.int .i64 108] w (fun e w' => e = .returned (.string ⟨#[102, 108, 117, 115, 104]⟩) ∧ w = w') := by
  have R1 := Lib.hid (request_108 w hw)
  obtain ⟨bm, c0, _, hl⟩ := hw
  have hl := hl w rfl 108 ⟨by omega, by omega⟩
  change _ = Result.ok (Value.string ⟨#[102, 108, 117, 115, 104]⟩) w at hl
  go_enter Tryd.func55, Tryd.ntmps55
  go_wp2_with fail
  refine R1.out.mono ?_
  rintro _ w1 ⟨rfl, rfl⟩
  go_wp2
  go_ret
  exact ⟨rfl, rfl⟩
theorem word_109 (w : World) (hw : Words w) : Calls Tryd.prog 55 #[.int .i64 109] w (fun e w' => e = .returned (.string ⟨#[82, 102, 108, 117, 115, 104]⟩) ∧ w = w') := by
  have R1 := Lib.hid (request_no 109 w hw ⟨by omega, by omega⟩ (by decide))
  have R2 := Lib.hid (request_108 w hw)
  obtain ⟨bm, c0, _, hl⟩ := hw
  have hl := hl w rfl 108 ⟨by omega, by omega⟩
  change _ = Result.ok (Value.string ⟨#[102, 108, 117, 115, 104]⟩) w at hl
  go_enter Tryd.func55, Tryd.ntmps55
  go_wp2_with fail
  refine R1.out.mono ?_
  rintro _ w1 ⟨rfl, rfl⟩
  go_wp2_with fail
  refine R2.out.mono ?_
  rintro _ w1 ⟨rfl, rfl⟩
  go_wp2
  go_ret
  exact ⟨rfl, rfl⟩
theorem word_110 (w : World) (hw : Words w) : Calls Tryd.prog 55 #[.int .i64 110] w (fun e w' => e = .returned (.string ⟨#[119, 97, 108, 107]⟩) ∧ w = w') := by
  have R1 := Lib.hid (request_110 w hw)
  obtain ⟨bm, c0, _, hl⟩ := hw
  have hl := hl w rfl 110 ⟨by omega, by omega⟩
  change _ = Result.ok (Value.string ⟨#[119, 97, 108, 107]⟩) w at hl
  go_enter Tryd.func55, Tryd.ntmps55
  go_wp2_with fail
  refine R1.out.mono ?_
  rintro _ w1 ⟨rfl, rfl⟩
  go_wp2
  go_ret
  exact ⟨rfl, rfl⟩
theorem word_111 (w : World) (hw : Words w) : Calls Tryd.prog 55 #[.int .i64 111] w (fun e w' => e = .returned (.string ⟨#[82, 119, 97, 108, 107]⟩) ∧ w = w') := by
  have R1 := Lib.hid (request_no 111 w hw ⟨by omega, by omega⟩ (by decide))
  have R2 := Lib.hid (request_110 w hw)
  obtain ⟨bm, c0, _, hl⟩ := hw
  have hl := hl w rfl 110 ⟨by omega, by omega⟩
  change _ = Result.ok (Value.string ⟨#[119, 97, 108, 107]⟩) w at hl
  go_enter Tryd.func55, Tryd.ntmps55
  go_wp2_with fail
  refine R1.out.mono ?_
  rintro _ w1 ⟨rfl, rfl⟩
  go_wp2_with fail
  refine R2.out.mono ?_
  rintro _ w1 ⟨rfl, rfl⟩
  go_wp2
  go_ret
  exact ⟨rfl, rfl⟩
theorem word_112 (w : World) (hw : Words w) : Calls Tryd.prog 55 #[.int .i64 112] w (fun e w' => e = .returned (.string ⟨#[111, 112, 101, 110]⟩) ∧ w = w') := by
  have R1 := Lib.hid (request_112 w hw)
  obtain ⟨bm, c0, _, hl⟩ := hw
  have hl := hl w rfl 112 ⟨by omega, by omega⟩
  change _ = Result.ok (Value.string ⟨#[111, 112, 101, 110]⟩) w at hl
  go_enter Tryd.func55, Tryd.ntmps55
  go_wp2_with fail
  refine R1.out.mono ?_
  rintro _ w1 ⟨rfl, rfl⟩
  go_wp2
  go_ret
  exact ⟨rfl, rfl⟩
theorem word_113 (w : World) (hw : Words w) : Calls Tryd.prog 55 #[.int .i64 113] w (fun e w' => e = .returned (.string ⟨#[82, 111, 112, 101, 110]⟩) ∧ w = w') := by
  have R1 := Lib.hid (request_no 113 w hw ⟨by omega, by omega⟩ (by decide))
  have R2 := Lib.hid (request_112 w hw)
  obtain ⟨bm, c0, _, hl⟩ := hw
  have hl := hl w rfl 112 ⟨by omega, by omega⟩
  change _ = Result.ok (Value.string ⟨#[111, 112, 101, 110]⟩) w at hl
  go_enter Tryd.func55, Tryd.ntmps55
  go_wp2_with fail
  refine R1.out.mono ?_
  rintro _ w1 ⟨rfl, rfl⟩
  go_wp2_with fail
  refine R2.out.mono ?_
  rintro _ w1 ⟨rfl, rfl⟩
  go_wp2
  go_ret
  exact ⟨rfl, rfl⟩
theorem word_114 (w : World) (hw : Words w) : Calls Tryd.prog 55 #[.int .i64 114] w (fun e w' => e = .returned (.string ⟨#[99, 114, 101, 97, 116, 101]⟩) ∧ w = w') := by
  have R1 := Lib.hid (request_114 w hw)
  obtain ⟨bm, c0, _, hl⟩ := hw
  have hl := hl w rfl 114 ⟨by omega, by omega⟩
  change _ = Result.ok (Value.string ⟨#[99, 114, 101, 97, 116, 101]⟩) w at hl
  go_enter Tryd.func55, Tryd.ntmps55
  go_wp2_with fail
  refine R1.out.mono ?_
  rintro _ w1 ⟨rfl, rfl⟩
  go_wp2
  go_ret
  exact ⟨rfl, rfl⟩
theorem word_115 (w : World) (hw : Words w) : Calls Tryd.prog 55 #[.int .i64 115] w (fun e w' => e = .returned (.string ⟨#[82, 99, 114, 101, 97, 116, 101]⟩) ∧ w = w') := by
  have R1 := Lib.hid (request_no 115 w hw ⟨by omega, by omega⟩ (by decide))
  have R2 := Lib.hid (request_114 w hw)
  obtain ⟨bm, c0, _, hl⟩ := hw
  have hl := hl w rfl 114 ⟨by omega, by omega⟩
  change _ = Result.ok (Value.string ⟨#[99, 114, 101, 97, 116, 101]⟩) w at hl
  go_enter Tryd.func55, Tryd.ntmps55
  go_wp2_with fail
  refine R1.out.mono ?_
  rintro _ w1 ⟨rfl, rfl⟩
  go_wp2_with fail
  refine R2.out.mono ?_
  rintro _ w1 ⟨rfl, rfl⟩
  go_wp2
  go_ret
  exact ⟨rfl, rfl⟩
theorem word_116 (w : World) (hw : Words w) : Calls Tryd.prog 55 #[.int .i64 116] w (fun e w' => e = .returned (.string ⟨#[114, 101, 97, 100]⟩) ∧ w = w') := by
  have R1 := Lib.hid (request_116 w hw)
  obtain ⟨bm, c0, _, hl⟩ := hw
  have hl := hl w rfl 116 ⟨by omega, by omega⟩
  change _ = Result.ok (Value.string ⟨#[114, 101, 97, 100]⟩) w at hl
  go_enter Tryd.func55, Tryd.ntmps55
  go_wp2_with fail
  refine R1.out.mono ?_
  rintro _ w1 ⟨rfl, rfl⟩
  go_wp2
  go_ret
  exact ⟨rfl, rfl⟩
theorem word_117 (w : World) (hw : Words w) : Calls Tryd.prog 55 #[.int .i64 117] w (fun e w' => e = .returned (.string ⟨#[82, 114, 101, 97, 100]⟩) ∧ w = w') := by
  have R1 := Lib.hid (request_no 117 w hw ⟨by omega, by omega⟩ (by decide))
  have R2 := Lib.hid (request_116 w hw)
  obtain ⟨bm, c0, _, hl⟩ := hw
  have hl := hl w rfl 116 ⟨by omega, by omega⟩
  change _ = Result.ok (Value.string ⟨#[114, 101, 97, 100]⟩) w at hl
  go_enter Tryd.func55, Tryd.ntmps55
  go_wp2_with fail
  refine R1.out.mono ?_
  rintro _ w1 ⟨rfl, rfl⟩
  go_wp2_with fail
  refine R2.out.mono ?_
  rintro _ w1 ⟨rfl, rfl⟩
  go_wp2
  go_ret
  exact ⟨rfl, rfl⟩
theorem word_118 (w : World) (hw : Words w) : Calls Tryd.prog 55 #[.int .i64 118] w (fun e w' => e = .returned (.string ⟨#[119, 114, 105, 116, 101]⟩) ∧ w = w') := by
  have R1 := Lib.hid (request_118 w hw)
  obtain ⟨bm, c0, _, hl⟩ := hw
  have hl := hl w rfl 118 ⟨by omega, by omega⟩
  change _ = Result.ok (Value.string ⟨#[119, 114, 105, 116, 101]⟩) w at hl
  go_enter Tryd.func55, Tryd.ntmps55
  go_wp2_with fail
  refine R1.out.mono ?_
  rintro _ w1 ⟨rfl, rfl⟩
  go_wp2
  go_ret
  exact ⟨rfl, rfl⟩
theorem word_119 (w : World) (hw : Words w) : Calls Tryd.prog 55 #[.int .i64 119] w (fun e w' => e = .returned (.string ⟨#[82, 119, 114, 105, 116, 101]⟩) ∧ w = w') := by
  have R1 := Lib.hid (request_no 119 w hw ⟨by omega, by omega⟩ (by decide))
  have R2 := Lib.hid (request_118 w hw)
  obtain ⟨bm, c0, _, hl⟩ := hw
  have hl := hl w rfl 118 ⟨by omega, by omega⟩
  change _ = Result.ok (Value.string ⟨#[119, 114, 105, 116, 101]⟩) w at hl
  go_enter Tryd.func55, Tryd.ntmps55
  go_wp2_with fail
  refine R1.out.mono ?_
  rintro _ w1 ⟨rfl, rfl⟩
  go_wp2_with fail
  refine R2.out.mono ?_
  rintro _ w1 ⟨rfl, rfl⟩
  go_wp2
  go_ret
  exact ⟨rfl, rfl⟩
theorem word_120 (w : World) (hw : Words w) : Calls Tryd.prog 55 #[.int .i64 120] w (fun e w' => e = .returned (.string ⟨#[99, 108, 117, 110, 107]⟩) ∧ w = w') := by
  have R1 := Lib.hid (request_120 w hw)
  obtain ⟨bm, c0, _, hl⟩ := hw
  have hl := hl w rfl 120 ⟨by omega, by omega⟩
  change _ = Result.ok (Value.string ⟨#[99, 108, 117, 110, 107]⟩) w at hl
  go_enter Tryd.func55, Tryd.ntmps55
  go_wp2_with fail
  refine R1.out.mono ?_
  rintro _ w1 ⟨rfl, rfl⟩
  go_wp2
  go_ret
  exact ⟨rfl, rfl⟩
theorem word_121 (w : World) (hw : Words w) : Calls Tryd.prog 55 #[.int .i64 121] w (fun e w' => e = .returned (.string ⟨#[82, 99, 108, 117, 110, 107]⟩) ∧ w = w') := by
  have R1 := Lib.hid (request_no 121 w hw ⟨by omega, by omega⟩ (by decide))
  have R2 := Lib.hid (request_120 w hw)
  obtain ⟨bm, c0, _, hl⟩ := hw
  have hl := hl w rfl 120 ⟨by omega, by omega⟩
  change _ = Result.ok (Value.string ⟨#[99, 108, 117, 110, 107]⟩) w at hl
  go_enter Tryd.func55, Tryd.ntmps55
  go_wp2_with fail
  refine R1.out.mono ?_
  rintro _ w1 ⟨rfl, rfl⟩
  go_wp2_with fail
  refine R2.out.mono ?_
  rintro _ w1 ⟨rfl, rfl⟩
  go_wp2
  go_ret
  exact ⟨rfl, rfl⟩
theorem word_122 (w : World) (hw : Words w) : Calls Tryd.prog 55 #[.int .i64 122] w (fun e w' => e = .returned (.string ⟨#[114, 101, 109, 111, 118, 101]⟩) ∧ w = w') := by
  have R1 := Lib.hid (request_122 w hw)
  obtain ⟨bm, c0, _, hl⟩ := hw
  have hl := hl w rfl 122 ⟨by omega, by omega⟩
  change _ = Result.ok (Value.string ⟨#[114, 101, 109, 111, 118, 101]⟩) w at hl
  go_enter Tryd.func55, Tryd.ntmps55
  go_wp2_with fail
  refine R1.out.mono ?_
  rintro _ w1 ⟨rfl, rfl⟩
  go_wp2
  go_ret
  exact ⟨rfl, rfl⟩
theorem word_123 (w : World) (hw : Words w) : Calls Tryd.prog 55 #[.int .i64 123] w (fun e w' => e = .returned (.string ⟨#[82, 114, 101, 109, 111, 118, 101]⟩) ∧ w = w') := by
  have R1 := Lib.hid (request_no 123 w hw ⟨by omega, by omega⟩ (by decide))
  have R2 := Lib.hid (request_122 w hw)
  obtain ⟨bm, c0, _, hl⟩ := hw
  have hl := hl w rfl 122 ⟨by omega, by omega⟩
  change _ = Result.ok (Value.string ⟨#[114, 101, 109, 111, 118, 101]⟩) w at hl
  go_enter Tryd.func55, Tryd.ntmps55
  go_wp2_with fail
  refine R1.out.mono ?_
  rintro _ w1 ⟨rfl, rfl⟩
  go_wp2_with fail
  refine R2.out.mono ?_
  rintro _ w1 ⟨rfl, rfl⟩
  go_wp2
  go_ret
  exact ⟨rfl, rfl⟩
theorem word_124 (w : World) (hw : Words w) : Calls Tryd.prog 55 #[.int .i64 124] w (fun e w' => e = .returned (.string ⟨#[115, 116, 97, 116]⟩) ∧ w = w') := by
  have R1 := Lib.hid (request_124 w hw)
  obtain ⟨bm, c0, _, hl⟩ := hw
  have hl := hl w rfl 124 ⟨by omega, by omega⟩
  change _ = Result.ok (Value.string ⟨#[115, 116, 97, 116]⟩) w at hl
  go_enter Tryd.func55, Tryd.ntmps55
  go_wp2_with fail
  refine R1.out.mono ?_
  rintro _ w1 ⟨rfl, rfl⟩
  go_wp2
  go_ret
  exact ⟨rfl, rfl⟩
theorem word_125 (w : World) (hw : Words w) : Calls Tryd.prog 55 #[.int .i64 125] w (fun e w' => e = .returned (.string ⟨#[82, 115, 116, 97, 116]⟩) ∧ w = w') := by
  have R1 := Lib.hid (request_no 125 w hw ⟨by omega, by omega⟩ (by decide))
  have R2 := Lib.hid (request_124 w hw)
  obtain ⟨bm, c0, _, hl⟩ := hw
  have hl := hl w rfl 124 ⟨by omega, by omega⟩
  change _ = Result.ok (Value.string ⟨#[115, 116, 97, 116]⟩) w at hl
  go_enter Tryd.func55, Tryd.ntmps55
  go_wp2_with fail
  refine R1.out.mono ?_
  rintro _ w1 ⟨rfl, rfl⟩
  go_wp2_with fail
  refine R2.out.mono ?_
  rintro _ w1 ⟨rfl, rfl⟩
  go_wp2
  go_ret
  exact ⟨rfl, rfl⟩
theorem word_126 (w : World) (hw : Words w) : Calls Tryd.prog 55 #[.int .i64 126] w (fun e w' => e = .returned (.string ⟨#[119, 115, 116, 97, 116]⟩) ∧ w = w') := by
  have R1 := Lib.hid (request_126 w hw)
  obtain ⟨bm, c0, _, hl⟩ := hw
  have hl := hl w rfl 126 ⟨by omega, by omega⟩
  change _ = Result.ok (Value.string ⟨#[119, 115, 116, 97, 116]⟩) w at hl
  go_enter Tryd.func55, Tryd.ntmps55
  go_wp2_with fail
  refine R1.out.mono ?_
  rintro _ w1 ⟨rfl, rfl⟩
  go_wp2
  go_ret
  exact ⟨rfl, rfl⟩
theorem word_127 (w : World) (hw : Words w) : Calls Tryd.prog 55 #[.int .i64 127] w (fun e w' => e = .returned (.string ⟨#[82, 119, 115, 116, 97, 116]⟩) ∧ w = w') := by
  have R1 := Lib.hid (request_no 127 w hw ⟨by omega, by omega⟩ (by decide))
  have R2 := Lib.hid (request_126 w hw)
  obtain ⟨bm, c0, _, hl⟩ := hw
  have hl := hl w rfl 126 ⟨by omega, by omega⟩
  change _ = Result.ok (Value.string ⟨#[119, 115, 116, 97, 116]⟩) w at hl
  go_enter Tryd.func55, Tryd.ntmps55
  go_wp2_with fail
  refine R1.out.mono ?_
  rintro _ w1 ⟨rfl, rfl⟩
  go_wp2_with fail
  refine R2.out.mono ?_
  rintro _ w1 ⟨rfl, rfl⟩
  go_wp2
  go_ret
  exact ⟨rfl, rfl⟩
theorem known_100 (w : World) (hw : Words w) : Calls Tryd.prog 22 #[.int .i64 100] w (fun e w' => e = .returned (.bool true) ∧ w = w') := by
  have R1 := Lib.hid (word_100 w hw)
  go_enter Tryd.func22, Tryd.ntmps22
  go_wp2_with fail
  refine R1.out.mono ?_
  rintro _ w1 ⟨rfl, rfl⟩
  go_wp2
  go_ret
  exact ⟨rfl, rfl⟩
theorem known_101 (w : World) (hw : Words w) : Calls Tryd.prog 22 #[.int .i64 101] w (fun e w' => e = .returned (.bool true) ∧ w = w') := by
  have R1 := Lib.hid (word_101 w hw)
  go_enter Tryd.func22, Tryd.ntmps22
  go_wp2_with fail
  refine R1.out.mono ?_
  rintro _ w1 ⟨rfl, rfl⟩
  go_wp2
  go_ret
  exact ⟨rfl, rfl⟩
theorem known_102 (w : World) (hw : Words w) : Calls Tryd.prog 22 #[.int .i64 102] w (fun e w' => e = .returned (.bool true) ∧ w = w') := by
  have R1 := Lib.hid (word_102 w hw)
  go_enter Tryd.func22, Tryd.ntmps22
  go_wp2_with fail
  refine R1.out.mono ?_
  rintro _ w1 ⟨rfl, rfl⟩
  go_wp2
  go_ret
  exact ⟨rfl, rfl⟩
theorem known_103 (w : World) (hw : Words w) : Calls Tryd.prog 22 #[.int .i64 103] w (fun e w' => e = .returned (.bool true) ∧ w = w') := by
  have R1 := Lib.hid (word_103 w hw)
  go_enter Tryd.func22, Tryd.ntmps22
  go_wp2_with fail
  refine R1.out.mono ?_
  rintro _ w1 ⟨rfl, rfl⟩
  go_wp2
  go_ret
  exact ⟨rfl, rfl⟩
theorem known_104 (w : World) (hw : Words w) : Calls Tryd.prog 22 #[.int .i64 104] w (fun e w' => e = .returned (.bool true) ∧ w = w') := by
  have R1 := Lib.hid (word_104 w hw)
  go_enter Tryd.func22, Tryd.ntmps22
  go_wp2_with fail
  refine R1.out.mono ?_
  rintro _ w1 ⟨rfl, rfl⟩
  go_wp2
  go_ret
  exact ⟨rfl, rfl⟩
theorem known_105 (w : World) (hw : Words w) : Calls Tryd.prog 22 #[.int .i64 105] w (fun e w' => e = .returned (.bool true) ∧ w = w') := by
  have R1 := Lib.hid (word_105 w hw)
  go_enter Tryd.func22, Tryd.ntmps22
  go_wp2_with fail
  refine R1.out.mono ?_
  rintro _ w1 ⟨rfl, rfl⟩
  go_wp2
  go_ret
  exact ⟨rfl, rfl⟩
theorem known_107 (w : World) (hw : Words w) : Calls Tryd.prog 22 #[.int .i64 107] w (fun e w' => e = .returned (.bool true) ∧ w = w') := by
  have R1 := Lib.hid (word_107 w)
  go_enter Tryd.func22, Tryd.ntmps22
  go_wp2_with fail
  refine R1.out.mono ?_
  rintro _ w1 ⟨rfl, rfl⟩
  go_wp2
  go_ret
  exact ⟨rfl, rfl⟩
theorem known_108 (w : World) (hw : Words w) : Calls Tryd.prog 22 #[.int .i64 108] w (fun e w' => e = .returned (.bool true) ∧ w = w') := by
  have R1 := Lib.hid (word_108 w hw)
  go_enter Tryd.func22, Tryd.ntmps22
  go_wp2_with fail
  refine R1.out.mono ?_
  rintro _ w1 ⟨rfl, rfl⟩
  go_wp2
  go_ret
  exact ⟨rfl, rfl⟩
theorem known_109 (w : World) (hw : Words w) : Calls Tryd.prog 22 #[.int .i64 109] w (fun e w' => e = .returned (.bool true) ∧ w = w') := by
  have R1 := Lib.hid (word_109 w hw)
  go_enter Tryd.func22, Tryd.ntmps22
  go_wp2_with fail
  refine R1.out.mono ?_
  rintro _ w1 ⟨rfl, rfl⟩
  go_wp2
  go_ret
  exact ⟨rfl, rfl⟩
theorem known_110 (w : World) (hw : Words w) : Calls Tryd.prog 22 #[.int .i64 110] w (fun e w' => e = .returned (.bool true) ∧ w = w') := by
  have R1 := Lib.hid (word_110 w hw)
  go_enter Tryd.func22, Tryd.ntmps22
  go_wp2_with fail
  refine R1.out.mono ?_
  rintro _ w1 ⟨rfl, rfl⟩
  go_wp2
  go_ret
  exact ⟨rfl, rfl⟩
theorem known_111 (w : World) (hw : Words w) : Calls Tryd.prog 22 #[.int .i64 111] w (fun e w' => e = .returned (.bool true) ∧ w = w') := by
  have R1 := Lib.hid (word_111 w hw)
  go_enter Tryd.func22, Tryd.ntmps22
  go_wp2_with fail
  refine R1.out.mono ?_
  rintro _ w1 ⟨rfl, rfl⟩
  go_wp2
  go_ret
  exact ⟨rfl, rfl⟩
theorem known_112 (w : World) (hw : Words w) : Calls Tryd.prog 22 #[.int .i64 112] w (fun e w' => e = .returned (.bool true) ∧ w = w') := by
  have R1 := Lib.hid (word_112 w hw)
  go_enter Tryd.func22, Tryd.ntmps22
  go_wp2_with fail
  refine R1.out.mono ?_
  rintro _ w1 ⟨rfl, rfl⟩
  go_wp2
  go_ret
  exact ⟨rfl, rfl⟩
theorem known_113 (w : World) (hw : Words w) : Calls Tryd.prog 22 #[.int .i64 113] w (fun e w' => e = .returned (.bool true) ∧ w = w') := by
  have R1 := Lib.hid (word_113 w hw)
  go_enter Tryd.func22, Tryd.ntmps22
  go_wp2_with fail
  refine R1.out.mono ?_
  rintro _ w1 ⟨rfl, rfl⟩
  go_wp2
  go_ret
  exact ⟨rfl, rfl⟩
theorem known_114 (w : World) (hw : Words w) : Calls Tryd.prog 22 #[.int .i64 114] w (fun e w' => e = .returned (.bool true) ∧ w = w') := by
  have R1 := Lib.hid (word_114 w hw)
  go_enter Tryd.func22, Tryd.ntmps22
  go_wp2_with fail
  refine R1.out.mono ?_
  rintro _ w1 ⟨rfl, rfl⟩
  go_wp2
  go_ret
  exact ⟨rfl, rfl⟩
theorem known_115 (w : World) (hw : Words w) : Calls Tryd.prog 22 #[.int .i64 115] w (fun e w' => e = .returned (.bool true) ∧ w = w') := by
  have R1 := Lib.hid (word_115 w hw)
  go_enter Tryd.func22, Tryd.ntmps22
  go_wp2_with fail
  refine R1.out.mono ?_
  rintro _ w1 ⟨rfl, rfl⟩
  go_wp2
  go_ret
  exact ⟨rfl, rfl⟩
theorem known_116 (w : World) (hw : Words w) : Calls Tryd.prog 22 #[.int .i64 116] w (fun e w' => e = .returned (.bool true) ∧ w = w') := by
  have R1 := Lib.hid (word_116 w hw)
  go_enter Tryd.func22, Tryd.ntmps22
  go_wp2_with fail
  refine R1.out.mono ?_
  rintro _ w1 ⟨rfl, rfl⟩
  go_wp2
  go_ret
  exact ⟨rfl, rfl⟩
theorem known_117 (w : World) (hw : Words w) : Calls Tryd.prog 22 #[.int .i64 117] w (fun e w' => e = .returned (.bool true) ∧ w = w') := by
  have R1 := Lib.hid (word_117 w hw)
  go_enter Tryd.func22, Tryd.ntmps22
  go_wp2_with fail
  refine R1.out.mono ?_
  rintro _ w1 ⟨rfl, rfl⟩
  go_wp2
  go_ret
  exact ⟨rfl, rfl⟩
theorem known_118 (w : World) (hw : Words w) : Calls Tryd.prog 22 #[.int .i64 118] w (fun e w' => e = .returned (.bool true) ∧ w = w') := by
  have R1 := Lib.hid (word_118 w hw)
  go_enter Tryd.func22, Tryd.ntmps22
  go_wp2_with fail
  refine R1.out.mono ?_
  rintro _ w1 ⟨rfl, rfl⟩
  go_wp2
  go_ret
  exact ⟨rfl, rfl⟩
theorem known_119 (w : World) (hw : Words w) : Calls Tryd.prog 22 #[.int .i64 119] w (fun e w' => e = .returned (.bool true) ∧ w = w') := by
  have R1 := Lib.hid (word_119 w hw)
  go_enter Tryd.func22, Tryd.ntmps22
  go_wp2_with fail
  refine R1.out.mono ?_
  rintro _ w1 ⟨rfl, rfl⟩
  go_wp2
  go_ret
  exact ⟨rfl, rfl⟩
theorem known_120 (w : World) (hw : Words w) : Calls Tryd.prog 22 #[.int .i64 120] w (fun e w' => e = .returned (.bool true) ∧ w = w') := by
  have R1 := Lib.hid (word_120 w hw)
  go_enter Tryd.func22, Tryd.ntmps22
  go_wp2_with fail
  refine R1.out.mono ?_
  rintro _ w1 ⟨rfl, rfl⟩
  go_wp2
  go_ret
  exact ⟨rfl, rfl⟩
theorem known_121 (w : World) (hw : Words w) : Calls Tryd.prog 22 #[.int .i64 121] w (fun e w' => e = .returned (.bool true) ∧ w = w') := by
  have R1 := Lib.hid (word_121 w hw)
  go_enter Tryd.func22, Tryd.ntmps22
  go_wp2_with fail
  refine R1.out.mono ?_
  rintro _ w1 ⟨rfl, rfl⟩
  go_wp2
  go_ret
  exact ⟨rfl, rfl⟩
theorem known_122 (w : World) (hw : Words w) : Calls Tryd.prog 22 #[.int .i64 122] w (fun e w' => e = .returned (.bool true) ∧ w = w') := by
  have R1 := Lib.hid (word_122 w hw)
  go_enter Tryd.func22, Tryd.ntmps22
  go_wp2_with fail
  refine R1.out.mono ?_
  rintro _ w1 ⟨rfl, rfl⟩
  go_wp2
  go_ret
  exact ⟨rfl, rfl⟩
theorem known_123 (w : World) (hw : Words w) : Calls Tryd.prog 22 #[.int .i64 123] w (fun e w' => e = .returned (.bool true) ∧ w = w') := by
  have R1 := Lib.hid (word_123 w hw)
  go_enter Tryd.func22, Tryd.ntmps22
  go_wp2_with fail
  refine R1.out.mono ?_
  rintro _ w1 ⟨rfl, rfl⟩
  go_wp2
  go_ret
  exact ⟨rfl, rfl⟩
theorem known_124 (w : World) (hw : Words w) : Calls Tryd.prog 22 #[.int .i64 124] w (fun e w' => e = .returned (.bool true) ∧ w = w') := by
  have R1 := Lib.hid (word_124 w hw)
  go_enter Tryd.func22, Tryd.ntmps22
  go_wp2_with fail
  refine R1.out.mono ?_
  rintro _ w1 ⟨rfl, rfl⟩
  go_wp2
  go_ret
  exact ⟨rfl, rfl⟩
theorem known_125 (w : World) (hw : Words w) : Calls Tryd.prog 22 #[.int .i64 125] w (fun e w' => e = .returned (.bool true) ∧ w = w') := by
  have R1 := Lib.hid (word_125 w hw)
  go_enter Tryd.func22, Tryd.ntmps22
  go_wp2_with fail
  refine R1.out.mono ?_
  rintro _ w1 ⟨rfl, rfl⟩
  go_wp2
  go_ret
  exact ⟨rfl, rfl⟩
theorem known_126 (w : World) (hw : Words w) : Calls Tryd.prog 22 #[.int .i64 126] w (fun e w' => e = .returned (.bool true) ∧ w = w') := by
  have R1 := Lib.hid (word_126 w hw)
  go_enter Tryd.func22, Tryd.ntmps22
  go_wp2_with fail
  refine R1.out.mono ?_
  rintro _ w1 ⟨rfl, rfl⟩
  go_wp2
  go_ret
  exact ⟨rfl, rfl⟩
theorem known_127 (w : World) (hw : Words w) : Calls Tryd.prog 22 #[.int .i64 127] w (fun e w' => e = .returned (.bool true) ∧ w = w') := by
  have R1 := Lib.hid (word_127 w hw)
  go_enter Tryd.func22, Tryd.ntmps22
  go_wp2_with fail
  refine R1.out.mono ?_
  rintro _ w1 ⟨rfl, rfl⟩
  go_wp2
  go_ret
  exact ⟨rfl, rfl⟩
theorem known_none (k : Int) (w : World) (hw : Words w) (hk : i64r k) (h1 : k ≠ 107) (h2 : isReq k = false) (h3 : isReq (IntKind.i64.wrap (k - 1)) = false) : Calls Tryd.prog 22 #[.int .i64 k] w (fun e w' => e = .returned (.bool false) ∧ w = w') := by
  have R1 := Lib.hid (word_none k w hw hk h1 h2 h3)
  clear h1 h2 h3 hk hw
  go_enter Tryd.func22, Tryd.ntmps22
  go_wp2_with fail
  refine R1.out.mono ?_
  rintro _ w1 ⟨rfl, rfl⟩
  go_wp2
  go_ret
  exact ⟨rfl, rfl⟩
theorem known_any (k : Int) (w : World) (hw : Words w) (hk : i64r k) : Calls Tryd.prog 22 #[.int .i64 k] w (fun e w' => e = .returned (.bool (fieldsOf k).isSome) ∧ w = w') := by
  cases hf : (fieldsOf k).isSome with
  | true => rcases fieldsOf_cases _ hf with rfl | rfl | rfl | rfl | rfl | rfl | rfl | rfl | rfl | rfl | rfl | rfl | rfl | rfl | rfl | rfl | rfl | rfl | rfl | rfl | rfl | rfl | rfl | rfl | rfl | rfl | rfl
            · exact known_100 w hw
            · exact known_101 w hw
            · exact known_102 w hw
            · exact known_103 w hw
            · exact known_104 w hw
            · exact known_105 w hw
            · exact known_107 w hw
            · exact known_108 w hw
            · exact known_109 w hw
            · exact known_110 w hw
            · exact known_111 w hw
            · exact known_112 w hw
            · exact known_113 w hw
            · exact known_114 w hw
            · exact known_115 w hw
            · exact known_116 w hw
            · exact known_117 w hw
            · exact known_118 w hw
            · exact known_119 w hw
            · exact known_120 w hw
            · exact known_121 w hw
            · exact known_122 w hw
            · exact known_123 w hw
            · exact known_124 w hw
            · exact known_125 w hw
            · exact known_126 w hw
            · exact known_127 w hw
  | false =>
    have hn : ∀ j : Int, (fieldsOf j).isSome = true → k ≠ j := fun j hj e => by rw [e, hj] at hf; cases hf
    refine known_none k w hw hk (hn 107 (by decide)) (decide_eq_false ?_) (decide_eq_false ?_)
    · rintro (e | e | e | e | e | e | e | e | e | e | e | e | e)
      all_goals exact hn _ (by decide) e
    · rw [i64_small k hk]
      split
      · omega
      · rintro (e | e | e | e | e | e | e | e | e | e | e | e | e)
        all_goals exact hn _ (by decide) (Int.sub_eq_iff_eq_add.1 e)

theorem single_any (k : Int) (w : World) : Calls Tryd.prog 58 #[.int .i64 k] w (fun e w' => e = .returned (.bool (isOne k)) ∧ w = w') := by
  by_cases h1 : k = 103
  · subst h1; go_enter Tryd.func58, Tryd.ntmps58; go_wp2; go_ret; exact ⟨rfl, rfl⟩
  by_cases h2 : k = 105
  · subst h2; go_enter Tryd.func58, Tryd.ntmps58; go_wp2; go_ret; exact ⟨rfl, rfl⟩
  by_cases h3 : k = 113
  · subst h3; go_enter Tryd.func58, Tryd.ntmps58; go_wp2; go_ret; exact ⟨rfl, rfl⟩
  by_cases h4 : k = 115
  · subst h4; go_enter Tryd.func58, Tryd.ntmps58; go_wp2; go_ret; exact ⟨rfl, rfl⟩
  have e : isOne k = false := by simp [isOne, h1, h2, h3, h4]
  have b1 : (k == 103) = false := by simpa using h1
  have b2 : (k == 105) = false := by simpa using h2
  have b3 : (k == 113) = false := by simpa using h3
  have b4 : (k == 115) = false := by simpa using h4
  rw [e]
  clear h1 h2 h3 h4 e
  go_enter Tryd.func58, Tryd.ntmps58
  go_wp2
  go_ret
  exact ⟨rfl, rfl⟩
end Go.Proofs.YtggkebngkkddhaaDoor
