/- The walk through fields at MsgError; fields, whatever the kind. -/
import Derived.Test.YtggkebngkkddhaaDoorD3
namespace Go.Proofs.YtggkebngkkddhaaDoor
open Go.RowKit
section
variable {V : Vis} {B : V.Big} {F S : Nat → Prop} {w wk : World} {b : Nat} {st : V.σ} {m : MV} {vn vq : Value}

/-- The code is visited in a cell of its own. -/
theorem code_step (hV : V.Good) (h : MS V F S w b st m vn vq wk) (hfit : V.fit st 8) :
    Calls Tryd.prog V.fnum #[V.v, .pointer (some ⟨wk.heap.size, 0, none⟩), .int .i64 2] (wk.alloc (.cells #[.int .i64 m.code] 3))
      (fun e w' => e = .returned (.tuple #[]) ∧ w'.cell? ⟨wk.heap.size, 0, none⟩ = some (.int .i64 (V.num st m.code 2).1) ∧ (∃ x, w'.cell? ⟨b, 26, none⟩ = some x) ∧ w'.frozen? ⟨b, 26, none⟩ = false ∧
        MS V F S w b (V.num st m.code 2).2 { m with code := (V.num st m.code 2).1 } vn vq (w'.setCell ⟨b, 26, none⟩ (.int .i64 (V.num st m.code 2).1))) := by
  obtain ⟨F', hi, hF, a1, a2⟩ := h.ex
  have hFl : ∀ c, F' c → c < wk.heap.size := fun c hc => hV.lt _ _ _ c hi hc
  have hfr0 : Fr none_ wk (wk.alloc (.cells #[.int .i64 m.code] 3)) := (Fr.refl _ wk).alloc _
  have hi0 := hV.keep _ _ _ _ _ hi hfr0 (fun _ _ x => x)
  have hnc : ¬ F' wk.heap.size := fun x => Nat.lt_irrefl _ (hFl _ x)
  have hcb := Blk.new wk 3 #[.int .i64 m.code]
  have hb' : ¬ F' b := fun x => (hF _ x).elim h.nb (fun e => by have := h.lt; omega)
  have hlt := h.blk.lt
  refine (hV.hnum st wk.heap.size 0 m.code 2 (by omega) hfit F' _ hi0 hnc (hcb.cell 0) (hcb.frozen 0)).mono ?_
  rintro e w' ⟨rfl, F2, hi2, hF2, hfr2, hs2⟩
  have hx := hfr2.blk (hcb.set_ 0 (.int .i64 (V.num st m.code 2).1)) hnc
  have hcell := hx.cell 0
  have hbb : Blk w' b 31 (mcells m vn vq) := hfr2.blk ((h.blk.alloc _).far (p := ⟨wk.heap.size, 0, none⟩) (by show b ≠ wk.heap.size; omega) _) hb'
  have hfr3 : Fr (fun c => F' c ∨ c = wk.heap.size) wk w' := ((hfr0.mono (fun _ x => x.elim)).set (p := ⟨wk.heap.size, 0, none⟩) (Or.inr rfl) _).trans (hfr2.mono (fun c x => .inl x))
  have hfr4 : Fr (fun c => F' c ∨ c = b) wk w' := (Fr.refl _ wk).trans_ hfr3 (fun c hc hl => hc.elim .inl (fun e => by omega))
  have hf5 : Fr (fun c => c = b) w' (w'.setCell ⟨b, 26, none⟩ (.int .i64 (V.num st m.code 2).1)) := (Fr.refl (fun c => c = b) w').set (p := ⟨b, 26, none⟩) (show b = b from rfl) _
  have hF2b : ∀ c, F2 c → ¬ c = b := fun c hc e => by
    subst e
    rcases hF2 _ hc with x | x
    · exact hb' x
    · simp at x; omega
  refine ⟨rfl, by simpa using hcell, ⟨_, hbb.cell 26⟩, hbb.frozen 26, h.after hF a1 a2 (hV.keep _ _ _ _ _ hi2 hf5 hF2b) (fun c hc => (hF2 c hc).imp id (fun x => by simp at x; omega)) (hfr4.trans (hf5.mono (fun c x => .inr x))) ?_ rfl rfl⟩
  exact hbb.set_ 26 _

set_option maxRecDepth 100000 in
set_option maxHeartbeats 4000000 in
theorem fields_107 (hp : FPre V B F S w b st m vn vq wk) (hk : m.kind = 107) : Calls Tryd.prog 23 #[.iface V.T V.v, .pointer (some ⟨b, 0, none⟩)] wk (MPost V F S w b (V.fields B st m)) := by
  have c0 : wk.cell? ⟨b, 0, none⟩ = some (.int .i64 107) := by rw [← hk]; exact hp.h.blk.cell 0
  have hfl : V.fields B st m = V.visits B [.c] st m := by unfold Vis.fields; rw [hk]; rfl
  have HF := Lib.hid hfl
  rw [hfl]
  have mn0 := hp.hV.mnum.n
  have mm0 := hp.hV.mnum.m
  have mc0 := hp.hV.mnum.c
  have hfit := hp.fit
  unfold MV.need at hfit
  have c1 : wk.cell? ⟨b, 26, none⟩ = some (.int .i64 m.code) := hp.h.blk.cell 26
  have hlt := hp.h.blk.lt
  have H0 := Lib.hid (code_step hp.hV hp.h (hp.hV.fit_le _ _ _ hfit (by omega)))
  clear hp hfit hfl hk
  go_enter Tryd.func23, Tryd.ntmps23
  go_wp2_with fail
  refine H0.out.mono ?_
  rintro _ w1 ⟨rfl, d1, ⟨x, d2⟩, d3, h1⟩
  have H1 := Lib.hid h1
  clear h1 H0
  go_wp2
  go_end0
  exact ⟨rfl, _, _, H1.out⟩

theorem fieldsOf_cases (k : Int) (h : (fieldsOf k).isSome = true) : k = 100 ∨ k = 101 ∨ k = 102 ∨ k = 103 ∨ k = 104 ∨ k = 105 ∨ k = 107 ∨ k = 108 ∨ k = 109 ∨ k = 110 ∨ k = 111 ∨ k = 112 ∨ k = 113 ∨ k = 114 ∨ k = 115 ∨ k = 116 ∨ k = 117 ∨ k = 118 ∨ k = 119 ∨ k = 120 ∨ k = 121 ∨ k = 122 ∨ k = 123 ∨ k = 124 ∨ k = 125 ∨ k = 126 ∨ k = 127 := by
  apply Decidable.byContradiction
  intro hn
  simp only [not_or] at hn
  simp [fieldsOf, hn] at h

/-- fields, whatever the kind. -/
theorem fields_any (hp : FPre V B F S w b st m vn vq wk) (hk : (fieldsOf m.kind).isSome = true) : Calls Tryd.prog 23 #[.iface V.T V.v, .pointer (some ⟨b, 0, none⟩)] wk (MPost V F S w b (V.fields B st m)) := by
  rcases fieldsOf_cases _ hk with h | h | h | h | h | h | h | h | h | h | h | h | h | h | h | h | h | h | h | h | h | h | h | h | h | h | h
  · exact fields_100 hp h
  · exact fields_101 hp h
  · exact fields_102 hp h
  · exact fields_103 hp h
  · exact fields_104 hp h
  · exact fields_105 hp h
  · exact fields_107 hp h
  · exact fields_108 hp h
  · exact fields_109 hp h
  · exact fields_110 hp h
  · exact fields_111 hp h
  · exact fields_112 hp h
  · exact fields_113 hp h
  · exact fields_114 hp h
  · exact fields_115 hp h
  · exact fields_116 hp h
  · exact fields_117 hp h
  · exact fields_118 hp h
  · exact fields_119 hp h
  · exact fields_120 hp h
  · exact fields_121 hp h
  · exact fields_122 hp h
  · exact fields_123 hp h
  · exact fields_124 hp h
  · exact fields_125 hp h
  · exact fields_126 hp h
  · exact fields_127 hp h
end
end Go.Proofs.YtggkebngkkddhaaDoor
