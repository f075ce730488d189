/- The walks through Check, Size, Frames. -/
import Derived.Test.YtggkebngkkddhaaDoorF2
namespace Go.Proofs.YtggkebngkkddhaaDoor
open Go.RowKit

section
variable (m : MV) (vn vq : Value) (W : World)
theorem check_any (hp : EPre m vn vq W) : Calls Tryd.prog 14 #[.agg (mcells m vn vq)] W (fun e w' => e = .returned (.int .i64 m.encode.2) ∧ Fr none_ W w') := by
  have hb := Blk.new W 31 (mcells m vn vq)
  have hf : Fr none_ W (W.alloc (.cells (mcells m vn vq) 31)) := (Fr.refl _ W).alloc _
  have H := Lib.hid (encode_any m vn vq (W.alloc (.cells (mcells m vn vq) 31)) ⟨hp.words.fr hf (fun _ x => x.elim), hp.ns.fr hf (fun _ _ _ _ _ x => x), hp.qs.fr hf (fun _ _ _ _ _ x => x), hp.r, hp.w, hp.kind, hp.tag, hp.need⟩)
  have HBL := Lib.hid hb
  have HF := Lib.hid hf
  clear hp hb hf
  generalize m.encode = r at *
  go_enter Tryd.func14, Tryd.ntmps14
  go_wp2_with (refine wpList_load_row rfl 31 (.tmp 1) rfl W.heap.size rfl 31 (mcells m vn vq) (0, 0) _ HBL.out Tryd.underlying31 rfl (info31.trans (congrArg some (size_mcells m vn vq).symm)) ?_)
  refine H.out.mono ?_
  rintro _ w1 ⟨rfl, hf⟩
  have HF2 := Lib.hid (HF.out.trans hf)
  clear hf
  go_wp2
  go_ret
  exact ⟨rfl, HF2.out⟩
theorem size_any (hp : EPre m vn vq W) : Calls Tryd.prog 11 #[.agg (mcells m vn vq)] W (fun e w' => e = .returned (.int .i64 m.encode.1.size) ∧ Fr none_ W w') := by
  have hb := Blk.new W 31 (mcells m vn vq)
  have hf : Fr none_ W (W.alloc (.cells (mcells m vn vq) 31)) := (Fr.refl _ W).alloc _
  have H := Lib.hid (encode_any m vn vq (W.alloc (.cells (mcells m vn vq) 31)) ⟨hp.words.fr hf (fun _ x => x.elim), hp.ns.fr hf (fun _ _ _ _ _ x => x), hp.qs.fr hf (fun _ _ _ _ _ x => x), hp.r, hp.w, hp.kind, hp.tag, hp.need⟩)
  have HBL := Lib.hid hb
  have HF := Lib.hid hf
  clear hp hb hf
  generalize m.encode = r at *
  go_enter Tryd.func11, Tryd.ntmps11
  go_wp2_with (refine wpList_load_row rfl 31 (.tmp 1) rfl W.heap.size rfl 31 (mcells m vn vq) (0, 0) _ HBL.out Tryd.underlying31 rfl (info31.trans (congrArg some (size_mcells m vn vq).symm)) ?_)
  refine H.out.mono ?_
  rintro _ w1 ⟨rfl, hf⟩
  have HF2 := Lib.hid (HF.out.trans hf)
  clear hf
  go_wp2
  go_ret
  exact ⟨rfl, HF2.out⟩
end

/-- What Frames returns. -/
def framesL : Nat → ByteArray → List ByteArray → List ByteArray × ByteArray × Int
  | 0, s, acc => (acc, s, 0)
  | k + 1, s, acc =>
    if s.size < 4 then (acc, s, 0) else if 8192 < lenOf s then ([], ⟨#[]⟩, 3) else if lenOf s < 7 then ([], ⟨#[]⟩, 14) else if (s.size : Int) < lenOf s then (acc, s, 0) else
      framesL k (s.extract (lenOf s).toNat s.size) (acc ++ [s.extract 0 (lenOf s).toNat])
def frames (s : ByteArray) : List ByteArray × ByteArray × Int := framesL (s.size + 1) s []

def FrPost (r : List ByteArray × ByteArray × Int) (W : World) (e : Ending) (w' : World) : Prop :=
  ∃ v, e = .returned (.tuple #[v, .string r.2.1, .int .i64 r.2.2]) ∧ w'.ownsRow W.heap.size 9 1 v r.1.length (scells r.1) ∧ Fr none_ W w'

theorem frpost {R : List ByteArray × ByteArray × Int} {W w' : World} {acc : List ByteArray} {t : ByteArray} {c : Int} {v : Value} (hR : R = (acc, t, c)) (ho : w'.ownsRow W.heap.size 9 1 v acc.length (scells acc)) (hf : Fr none_ W w') :
    FrPost R W (.returned (.tuple #[v, .string t, .int .i64 c])) w' := by subst hR; exact ⟨v, rfl, ho, hf⟩
theorem framesL_more : ∀ (k : Nat) (s : ByteArray) (acc : List ByteArray), s.size < k → ∀ j, k ≤ j → framesL j s acc = framesL k s acc
  | 0, s, acc, h, j, hj => by omega
  | k + 1, s, acc, h, j, hj => by
    obtain ⟨i, rfl⟩ : ∃ i, j = i + 1 := ⟨j - 1, by omega⟩
    unfold framesL
    split
    · rfl
    split
    · rfl
    split
    · rfl
    split
    · rfl
    · exact framesL_more k _ _ (by rw [ByteArray.size_extract]; omega) i (by omega)

set_option maxRecDepth 20000 in
set_option maxHeartbeats 4000000 in
theorem frames_any (s : ByteArray) (W : World) (hm : s.size ≤ 100000000) : Calls Tryd.prog 17 #[.string s] W (FrPost (frames s) W) := by
  obtain ⟨i0, hi0, hz0, hz1, hz2⟩ := info_parts info9
  have HL : Hid (∀ s : ByteArray, s.size ≤ 100000000 → ∀ w, Calls Tryd.prog 19 #[.string s] w (fun e w' => e = .returned (.int .i64 (lenOf s)) ∧ Fr none_ w w')) := Lib.hid (fun s hs w => length_any s w (by unfold maxLen; omega))
  obtain ⟨R, hR⟩ : ∃ R, R = frames s := ⟨_, rfl⟩
  rw [← hR]
  have HR : Hid (framesL (s.size + 1) s [] = R) := Lib.hid hR.symm
  clear hR
  go_enter Tryd.func17, Tryd.ntmps17
  go_wp2
  go_loopg [0, 5, 6] s.size (fun gk sv v _ wr => ∃ (t : ByteArray) (acc : List ByteArray) (v5 : Value), sv = .string t ∧ v = v5 ∧ t.size = gk ∧ framesL (gk + 1) t acc = R ∧ wr.ownsRow W.heap.size 9 1 v5 acc.length (scells acc) ∧ Fr none_ W wr ∧ acc.length + t.size ≤ s.size)
  case atStart => exact ⟨s, [], _, rfl, rfl, rfl, HR.out, World.ownsRow_nil _ _ _ _, Fr.refl _ _, by simp⟩
  case round =>
    obtain ⟨t, acc, v5, rfl, rfl, hgk, hfl, hown, hfr, hacc⟩ := hrel
    have HO := Lib.hid hown
    have HFr := Lib.hid hfr
    have HFl := Lib.hid hfl
    have hts : t.size ≤ 100000000 := by omega
    have HT := Lib.hid (HL.out t hts wr)
    have Hgk := Lib.hid hgk
    clear hown hfr hfl hgk
    by_cases h4 : t.size < 4
    · have HRe : Hid (R = (acc, t, 0)) := Lib.hid (by rw [← HFl.out]; unfold framesL; rw [if_pos h4])
      go_wp2
      go_ret3
      exact frpost HRe.out HO.out HFr.out
    · have h4' : (4 : Int) ≤ (t.size : Int) := by omega
      by_cases hlim : 8192 < lenOf t
      · have HRe : Hid (R = ([], ⟨#[]⟩, 3)) := Lib.hid (by rw [← HFl.out]; unfold framesL; rw [if_neg h4, if_pos hlim])
        generalize lenOf t = n at *
        clear h4
        go_wp2_with fail
        refine HT.out.mono ?_
        rintro _ w1 ⟨rfl, hf⟩
        have HF1 := Lib.hid (HFr.out.trans hf)
        clear hf
        go_wp2
        go_ret3
        exact frpost HRe.out (World.ownsRow_nil _ _ _ _) HF1.out
      · by_cases hsh : lenOf t < 7
        · have HRe : Hid (R = ([], ⟨#[]⟩, 14)) := Lib.hid (by rw [← HFl.out]; unfold framesL; rw [if_neg h4, if_neg hlim, if_pos hsh])
          generalize lenOf t = n at *
          clear h4
          go_wp2_with fail
          refine HT.out.mono ?_
          rintro _ w1 ⟨rfl, hf⟩
          have HF1 := Lib.hid (HFr.out.trans hf)
          clear hf
          go_wp2
          go_ret3
          exact frpost HRe.out (World.ownsRow_nil _ _ _ _) HF1.out
        · by_cases hlong : (t.size : Int) < lenOf t
          · have HRe : Hid (R = (acc, t, 0)) := Lib.hid (by rw [← HFl.out]; unfold framesL; rw [if_neg h4, if_neg hlim, if_neg hsh, if_pos hlong])
            generalize lenOf t = n at *
            clear h4
            go_wp2_with fail
            refine HT.out.mono ?_
            rintro _ w1 ⟨rfl, hf⟩
            have HO1 := Lib.hid (ownsRow_fr HO.out hf (fun _ _ x => x))
            have HF1 := Lib.hid (HFr.out.trans hf)
            clear hf
            go_wp2
            go_ret3
            exact frpost HRe.out HO1.out HF1.out
          · have hstep : framesL (t.size - (lenOf t).toNat + 1) (t.extract (lenOf t).toNat t.size) (acc ++ [t.extract 0 (lenOf t).toNat]) = R := by
              rw [← HFl.out]
              conv => rhs; unfold framesL; rw [if_neg h4, if_neg hlim, if_neg hsh, if_neg hlong]
              rw [Hgk.out]
              exact (framesL_more _ _ _ (by rw [ByteArray.size_extract]; omega) _ (by have := Hgk.out; omega)).symm
            have Hst := Lib.hid hstep
            have H63 : Hid (acc.length + 1 ≤ maxLen) := Lib.hid (by unfold maxLen; omega)
            have Hby : Hid ((acc.length + 1) * 16 ≤ 140737488355328) := Lib.hid (by omega)
            clear hstep h4
            generalize lenOf t = n at *
            have hn0 : 0 ≤ n := by omega
            have hnt : n ≤ (t.size : Int) := by omega
            go_wp2_with fail
            refine HT.out.mono ?_
            rintro _ w1 ⟨rfl, hf⟩
            have HO1 := Lib.hid (ownsRow_fr HO.out hf (fun _ _ x => x))
            have HF1 := Lib.hid (HFr.out.trans hf)
            have Hba : Hid (W.heap.size ≤ w1.heap.size) := Lib.hid HF1.out.1
            clear hf
            go_wp2
            go_region_law (first
              | (refine step_append_own rfl (.tmp 25) (.tmp 29) 23 rfl W.heap.size 9 i0 (.string ⟨#[]⟩) 1 16 Tryd.underlying23 hi0 hz0 hz1 hz2 rfl (by decide) _ acc.length (scells acc) rfl (HO1.out.alloc _) ⟨w1.heap.size, 0, none⟩ 1 1 [.string (t.extract 0 n.toNat)] rfl rfl (cell_one_new _ _ _) (one_str _) H63.out Hby.out (by have := Hba.out; simp; omega) (fun v' w' h1 h2 h3 => ?_)))
            all_goals
              have HO2 := Lib.hid h1
              have HF2 : Hid (Fr none_ W w') := Lib.hid ((HF1.out.alloc (.cells #[.string (t.extract 0 n.toNat)] 9)).trans_ ⟨h2.size, fun b hb hs => h2.block b hb hs, h2.os, h2.output⟩ (fun c hc hl => by have := own_ge HO1.out (Eq.symm hc); omega))
              clear h1 h2 h3
              rw [scells_snoc] at HO2
              go_wp2
              go_roundg (t.size - n.toNat)
              case measure => have := Hgk.out; omega
              case rel => exact ⟨t.extract n.toNat t.size, acc ++ [t.extract 0 n.toNat], v', rfl, rfl, by rw [ByteArray.size_extract]; omega, Hst.out, by simpa using HO2.out, HF2.out, by rw [ByteArray.size_extract]; simp; omega⟩
end Go.Proofs.YtggkebngkkddhaaDoor
