/- The walks through the functions of package wire's Reader. -/
import Derived.Test.YtggkebngkkddhaaDoorProg
import Derived.Test.YtggkebngkkddhaaDoorA0
import Derived.Deep.QuietTactic
import Derived.BigQuiet
import Derived.Outline
import Derived.WalkSpells
import Derived.LoopTactic
import Derived.Laws.BitsAllLaws
import Derived.Test.YtggkebngkkddhaaDoorP0
namespace Go.Proofs.YtggkebngkkddhaaDoor
open Go.RowKit

/-- A reader: the text, the place, what is wrong. -/
def Rdr (w : World) (g : Nat) (s : ByteArray) (at_ err : Int) : Prop := Blk w g 102 #[.string s, .int .i64 at_, .int .i64 err]
theorem Rdr.fr {S : Nat → Prop} {w w' : World} {g : Nat} {s : ByteArray} {a e : Int} (h : Rdr w g s a e) (hf : Fr S w w') (hg : ¬ S g) : Rdr w' g s a e := hf.blk h hg

/-- It returns v, and nothing that was there has changed. -/
def Ret (v : Value) (w : World) (e : Ending) (w' : World) : Prop := e = .returned v ∧ Fr none_ w w'

theorem take_no (g : Nat) (s : ByteArray) (a e n : Int) (w : World) (h : Rdr w g s a e) (ha : 0 ≤ a) (hs : a ≤ s.size) (hm : s.size ≤ maxLen) (hn : (s.size : Int) - a < n) :
    Calls Tryd.prog 72 #[.pointer (some ⟨g, 0, none⟩), .int .i64 n] w (Ret (.tuple #[.string ⟨#[]⟩, .int .i64 16]) w) := by
  unfold maxLen at hm
  have h0 := h.cell 0
  have h1 := h.cell 1
  simp at h0 h1
  have hw : IntKind.i64.wrap ((s.size : Int) - a) = s.size - a := IntWalk.i64_in _ (by omega)
  go_enter Tryd.func72, Tryd.ntmps72
  go_wp2
  go_quiet (fail)
  go_wp2
  go_ret2
  exact ⟨rfl, Fr.refl _ _⟩

def TakeYes (g : Nat) (s : ByteArray) (a e n : Int) (w : World) (x : Ending) (w' : World) : Prop :=
  x = .returned (.tuple #[.string (s.extract a.toNat (a + n).toNat), .int .i64 0]) ∧ Rdr w' g s (a + n) e ∧ Fr (one_ g) w w'

theorem take_yes (g : Nat) (s : ByteArray) (a e n : Int) (w : World) (h : Rdr w g s a e) (ha : 0 ≤ a) (hs : a ≤ s.size) (hm : s.size ≤ maxLen) (h0n : 0 ≤ n) (hn : n ≤ (s.size : Int) - a) :
    Calls Tryd.prog 72 #[.pointer (some ⟨g, 0, none⟩), .int .i64 n] w (TakeYes g s a e n w) := by
  unfold maxLen at hm
  have h0 := h.cell 0
  have h1 := h.cell 1
  have hf := h.frozen 1
  simp at h0 h1
  have hw : IntKind.i64.wrap ((s.size : Int) - a) = s.size - a := IntWalk.i64_in _ (by omega)
  have hw2 : IntKind.i64.wrap (a + n) = a + n := IntWalk.i64_in _ (by omega)
  have b1 : 0 ≤ a + n := by omega
  have b2 : a ≤ a + n := by omega
  have b3 : a + n ≤ s.size := by omega
  have hk : Rdr (w.setCell ⟨g, 1, none⟩ (.int .i64 (a + n))) g s (a + n) e := by
    have := h.set_ 1 (.int .i64 (a + n)); simpa [Rdr] using this
  have hfr := (Fr.refl (one_ g) w).set (p := ⟨g, 1, none⟩) rfl (.int .i64 (a + n))
  go_enter Tryd.func72, Tryd.ntmps72
  go_wp2
  go_quiet (fail)
  go_wp2
  go_quiet (fail)
  clear hw
  go_wp2
  go_ret2
  exact ⟨rfl, hk, hfr⟩

theorem index4 (n : Int) (hn : n = 1 ∨ n = 2 ∨ n = 4 ∨ n = 8) (g : Nat) (w : World) (h : Blk w g 3 #[.int .i64 1, .int .i64 2, .int .i64 4, .int .i64 8]) :
    Calls Tryd.prog 73 #[.slice (some ⟨g, 0, none⟩) 4 4, .int .i64 n] w (fun e w' => w = w' ∧ ∃ i : Int, 0 ≤ i ∧ e = .returned (.int .i64 i)) := by
  have h0 := h.cell 0
  have h1 := h.cell 1
  have h2 := h.cell 2
  have h3 := h.cell 3
  simp at h0 h1 h2 h3
  go_enter Tryd.func73, Tryd.ntmps73
  go_wp2
  go_loop [5, 8] (fun _ i => ∃ k : Nat, k ≤ 3 ∧ i = .int .i64 k ∧ (k = 3 → n = 8) ∧ (k = 2 → n = 4 ∨ n = 8) ∧ (k = 1 → n ≠ 1)) (fun _ i => 4 - (intOf i).toNat)
  case atStart => exact ⟨0, by omega, rfl, by omega, by omega, by omega⟩
  case round =>
    obtain ⟨k, hk, rfl, e3, e2, e1⟩ := hrel
    have hk4 : k = 0 ∨ k = 1 ∨ k = 2 ∨ k = 3 := by omega
    rcases hk4 with rfl | rfl | rfl | rfl
    · by_cases hc : n = 1
      · subst hc; go_wp2; go_ret; exact ⟨rfl, 0, by omega, rfl⟩
      · have hb : (n == 1) = false := by simpa using hc
        go_wp2
        exact ⟨⟨1, by omega, rfl, by omega, by omega, fun _ => hc⟩, by decide⟩
    · by_cases hc : n = 2
      · subst hc; go_wp2; go_ret; exact ⟨rfl, 1, by omega, rfl⟩
      · have hb : (n == 2) = false := by simpa using hc
        go_wp2
        exact ⟨⟨2, by omega, rfl, by omega, fun _ => by omega, by omega⟩, by decide⟩
    · by_cases hc : n = 4
      · subst hc; go_wp2; go_ret; exact ⟨rfl, 2, by omega, rfl⟩
      · have hb : (n == 4) = false := by simpa using hc
        go_wp2
        exact ⟨⟨3, by omega, rfl, fun _ => by omega, by omega, by omega⟩, by decide⟩
    · obtain rfl : n = 8 := e3 rfl
      go_wp2; go_ret; exact ⟨rfl, 3, by omega, rfl⟩

theorem contains4 (n : Int) (hn : n = 1 ∨ n = 2 ∨ n = 4 ∨ n = 8) (g : Nat) (w : World) (h : Blk w g 3 #[.int .i64 1, .int .i64 2, .int .i64 4, .int .i64 8]) :
    Calls Tryd.prog 71 #[.slice (some ⟨g, 0, none⟩) 4 4, .int .i64 n] w (fun e w' => w = w' ∧ e = .returned (.bool true)) := by
  go_enter Tryd.func71, Tryd.ntmps71
  go_wp2_with fail
  refine (index4 n hn _ _ h).mono ?_
  rintro _ w1 ⟨rfl, i, hi, rfl⟩
  have hb : decide (0 ≤ i) = true := by simpa using hi
  go_wp2
  go_ret
  exact ⟨rfl, by simp [hi]⟩

theorem width_ok (n : Int) (hn : n = 1 ∨ n = 2 ∨ n = 4 ∨ n = 8) (w : World) : Calls Tryd.prog 59 #[.int .i64 n] w (Ret (.bool true) w) := by
  go_enter Tryd.func59, Tryd.ntmps59
  go_wp2_with fail
  refine (contains4 n hn _ _ (Blk.new _ _ _)).mono ?_
  rintro _ w1 ⟨rfl, rfl⟩
  go_wp2
  go_ret
  exact ⟨rfl, (Fr.refl _ _).alloc _⟩

end Go.Proofs.YtggkebngkkddhaaDoor
