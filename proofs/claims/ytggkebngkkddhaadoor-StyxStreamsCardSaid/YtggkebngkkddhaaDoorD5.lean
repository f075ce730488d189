/- The three visitors, with lists and a Dir. -/
import Derived.Test.YtggkebngkkddhaaDoorD4
namespace Go.Proofs.YtggkebngkkddhaaDoor
open Go.RowKit

theorem IS.count_lt {st : IS} (h : st.Ok) : st.count.1 < 65536 := by
  unfold IS.count IS.num rdNum
  by_cases he : st.e ≠ 0
  · simp only [if_pos he]; omega
  · by_cases hn : 2 ≤ (st.s.size : Int) - st.a
    · simp only [if_neg he, if_pos hn]
      have := (numAt_lt st.s st.a 2 h.a0 (by omega) hn).2
      simpa using this
    · simp only [if_neg he, if_neg hn]; omega

attribute [local irreducible] OS.sized OS.mode OS.count OS.least OS.num OS.little
attribute [local irreducible] IS.sized IS.mode IS.count IS.least IS.num IS.finish IS.raw

attribute [local irreducible] OS.dir

theorem apart_nil (S : Nat → Prop) : Apart (.slice none 0 0) S := fun a n c e => by cases e
theorem strs_nil (w : World) : StrsAt w (.slice none 0 0) [] := ⟨none, 0, rfl, fun i s hi => by cases hi⟩
theorem qids_nil (w : World) : QidsAt w (.slice none 0 0) [] := ⟨none, 0, rfl, fun i s hi => by cases hi⟩

def BOut (g : Nat) : (VOut g).Big where
  fnames := 112
  fqids := 114
  fdir := 109
  names st l := (l, OS.names st l)
  qids st l := (l, OS.qids st l)
  dir st d := (d, OS.dir st d)
  preN _ _ := True
  preQ _ _ := True
def BIn (g r : Nat) : (VIn g r).Big where
  fnames := 94
  fqids := 95
  fdir := 92
  names st _ := IS.names st
  qids st _ := IS.qids st
  dir st d := IS.dir st d
  preN v l := v = .slice none 0 0 ∧ l = []
  preQ v l := v = .slice none 0 0 ∧ l = []
def BBl : VBl.Big where
  fnames := 124
  fqids := 127
  fdir := 121
  names _ _ := ([], ())
  qids _ _ := ([], ())
  dir _ _ := (DV0, ())
  preN _ _ := True
  preQ _ _ := True

/-- From a step in VS-form that leaves what p holds. -/
theorem lpost_of_vs {V : Vis} {F : Nat → Prop} {w w' : World} {p : Addr} {vs : Value} {st' : V.σ} {R : World → Value → Prop} {e : Ending} (hF : ∀ c, F c → c < w.heap.size) (hv : e = .returned (.tuple #[]) ∧ VS V F w st' (w.setCell p vs) w')
    (hA : Apart vs F) (hL : ∀ a n c, vs = .slice (some a) n c → 0 < n → a.block < w.heap.size) (hR : Fr F (w.setCell p vs) w' → R w' vs) : LPost V F w p vs st' R e w' := by
  obtain ⟨rfl, F', hi, hF', hfr, hs⟩ := hv
  refine ⟨rfl, vs, F', hi, hF', hfr, hR hfr, fun a n c e hn x => ?_, fun S _ h => h⟩
  rcases hF' _ x with y | y
  · exact hA a n c e hn y
  · have := hL a n c e hn; omega

theorem BOut_good (g : Nat) : (VOut g).BigGood (BOut g) where
  mnames := meth_out_names g
  mqids := meth_out_qids g
  mdir := meth_out_dir g
  hnames st b o F w vs l := by
    rintro ⟨sv, ho, hF⟩ hb hx hz hs hA _ hfit
    have h1 : st.l.length + (sizes l + 20) ≤ 1000000 := hfit
    have hFe : ∀ c, (c = g ∨ some c = sv.ownBlock) → F c := fun c hc => (hF c).2 hc
    refine (oNames_any g sv st w ⟨b, o, none⟩ vs l ho hx hs (fun x => hb (hFe _ x)) (hA.mono hFe) (by omega)).mono fun e w' h => ?_
    refine lpost_of_vs (fun c hc => ho.lt_own ((hF c).1 hc)) (out_step hF hx h) hA (fun a n c e hn => hs.lt e hn) (fun hfr => ?_)
    exact hs.fr (hfr.unsame hx) hA
  hqids st b o F w vs l := by
    rintro ⟨sv, ho, hF⟩ hb hx hz hs hA _ hr hfit
    have h1 : st.l.length + (13 * l.length + 100) ≤ 1000000 := hfit
    have hFe : ∀ c, OF g sv c → F c := fun c hc => (hF c).2 hc
    refine (oQids_any g sv st w ⟨b, o, none⟩ vs l ho hx hs hr (fun x => hb (hFe _ x)) (hA.mono hFe) (by omega)).mono ?_
    rintro e w' ⟨rfl, F', hi, hF', hfr, hsz⟩
    have hfr2 : Fr F (w.setCell ⟨b, o, none⟩ vs) w' := (hfr.mono hFe).same hx
    refine lpost_of_vs (fun c hc => ho.lt_own ((hF c).1 hc)) ⟨rfl, F', hi, fun c hc => (hF' c hc).imp (hFe c) id, hfr2, by simp [World.setCell]⟩ hA (fun a n c e hn => hs.lt e hn) (fun hfr => ?_)
    exact hs.fr (hfr.unsame hx) hA
  hdir st b o F w d := by
    rintro ⟨sv, ho, hF⟩ hb hd hz hr hfit
    have h1 : st.l.length + (d.room + 400) ≤ 1000000 := hfit
    have h5 : st.l.length + d.room + 400 ≤ 1000000 := by rw [Nat.add_assoc]; exact h1
    refine (oDir_walk g sv st w b o d ho (cell_lt hd.mode) hd hz hr h5).mono ?_
    rintro e w' h
    have h2 := out_step hF hd.mode h
    obtain ⟨he, F', hi, hF', hfr, hsz⟩ := h2
    have h3 : Fr F (setD w b o d) w' := (hfr.unsame hd.mode).sameD hd
    have h4 : (setD w b o d).heap.size = w.heap.size := size_setD w b o d
    exact ⟨he, F', hi, hF', h3, h4⟩

theorem strs_of_row {w : World} {base : Nat} {v : Value} {l : List ByteArray} (h : w.ownsRow base 9 1 v l.length (scells l)) : StrsAt w v l := by
  rcases h.2 with ⟨rfl, h0⟩ | ⟨g', cap, cur, rfl, hb, hh, hc1, hc2, hc3, hc4⟩
  · exact ⟨none, 0, by rw [h0], fun i s hi => by have := (List.getElem?_eq_some_iff.1 hi).1; omega⟩
  · refine ⟨some ⟨g', 0, none⟩, cap, rfl, fun i s hi => ⟨g', 0, rfl, ?_⟩⟩
    have hi2 := (List.getElem?_eq_some_iff.1 hi).1
    rw [Nat.zero_add]
    have hB : Blk w g' 9 cur := hh
    rw [hB.cell]
    have h1 : (scells l)[i]? = some (.string s) := by simp [scells, hi]
    rw [← hc4, List.getElem?_take_of_lt (by omega)] at h1
    simpa using h1
theorem qids_of_row {w : World} {base : Nat} {v : Value} {l : List QV} (h : w.ownsRow base 26 3 v l.length (qcells l)) : QidsAt w v l := by
  rcases h.2 with ⟨rfl, h0⟩ | ⟨g', cap, cur, rfl, hb, hh, hc1, hc2, hc3, hc4⟩
  · exact ⟨none, 0, by rw [h0], fun i s hi => by have := (List.getElem?_eq_some_iff.1 hi).1; omega⟩
  · refine ⟨some ⟨g', 0, none⟩, cap, rfl, fun i q hi => ⟨g', 0, rfl, ?_, ?_⟩⟩
    · have hi2 := (List.getElem?_eq_some_iff.1 hi).1
      rw [Nat.zero_add]
      have hB : Blk w g' 26 cur := hh
      have hq : ∀ (l : List QV) (i : Nat) (q : QV), l[i]? = some q → (qcells l)[i * 3]? = some (.int .i64 q.k) ∧ (qcells l)[i * 3 + 1]? = some (.int .i64 q.v) ∧ (qcells l)[i * 3 + 2]? = some (.int .i64 q.p) := by
        intro l
        induction l with
        | nil => intro i q h; simp at h
        | cons x l ih =>
          intro i q h
          cases i with
          | zero => simp at h; subst h; simp [qcells]
          | succ i =>
            have := ih i q (by simpa using h)
            rw [Nat.add_mul, Nat.one_mul]
            simpa [qcells] using this
      obtain ⟨q1, q2, q3⟩ := hq l i q hi
      rw [← hc4] at q1 q2 q3
      rw [List.getElem?_take_of_lt (by omega)] at q1 q2 q3
      refine ⟨?_, ?_, ?_⟩
      · rw [hB.cell]; simpa using q1
      · rw [hB.cell]; simpa using q2
      · rw [hB.cell]; simpa using q3
    · exact (show Blk w g' 26 cur from hh).noFrz.at _ _

theorem own_apart {w : World} {base e size n : Nat} {v : Value} {xs : List Value} {S : Nat → Prop} (h : w.ownsRow base e size v n xs) (hS : ∀ c, S c → c < base) : Apart v S := by
  rintro a k c rfl hk x
  have := own_ge h (r := a.block) rfl
  have := hS _ x
  omega

theorem BIn_good (g r : Nat) : (VIn g r).BigGood (BIn g r) where
  mnames := meth_in_names g
  mqids := meth_in_qids g
  mdir := meth_in_dir g
  hnames st b o F w vs l := by
    rintro ⟨hi, hok, hF⟩ hb hx hz hs hA ⟨rfl, rfl⟩ _
    have hbg : b ≠ g := fun e => hb ((hF b).2 (.inl e))
    have hbr : b ≠ r := fun e => hb ((hF b).2 (.inr e))
    refine (iNames_any g r st w b o hi hok hx hz hbg hbr (IS.count_lt hok)).mono ?_
    rintro e w' ⟨rfl, vs, h⟩
    have hFl : ∀ c, F c → c < w.heap.size := fun c hc => by rcases (hF c).1 hc with rfl | rfl; exact hi.b.lt; exact hi.r.lt
    exact ⟨rfl, vs, F, ⟨h.i, h.ok, hF⟩, fun _ x => .inl x, h.fr.mono (fun c hc => (hF c).2 hc), strs_of_row h.own, own_apart h.own hFl, fun S hS _ => own_apart h.own hS⟩
  hqids st b o F w vs l := by
    rintro ⟨hi, hok, hF⟩ hb hx hz hs hA ⟨rfl, rfl⟩ _ _
    have hbg : b ≠ g := fun e => hb ((hF b).2 (.inl e))
    have hbr : b ≠ r := fun e => hb ((hF b).2 (.inr e))
    refine (iQids_any g r st w b o hi hok hx hz hbg hbr (IS.count_lt hok)).mono ?_
    rintro e w' ⟨rfl, vs, h⟩
    have hFl : ∀ c, F c → c < w.heap.size := fun c hc => by rcases (hF c).1 hc with rfl | rfl; exact hi.b.lt; exact hi.r.lt
    exact ⟨rfl, vs, F, ⟨h.i, h.ok, hF⟩, fun _ x => .inl x, h.fr.mono (fun c hc => (hF c).2 hc), qids_of_row h.own, own_apart h.own hFl, fun S hS _ => own_apart h.own hS⟩
  hdir st b o F w d := by
    rintro ⟨hi, hok, hF⟩ hb hd hz hr _
    have hbg : b ≠ g := fun e => hb ((hF b).2 (.inl e))
    have hbr : b ≠ r := fun e => hb ((hF b).2 (.inr e))
    refine (iDir_walk g r st w b o d hi hok hbg hbr (cell_lt hd.mode) hd hz hr).mono ?_
    rintro e w' ⟨he, h2, hfr⟩
    have hok2 := IS.sized_ok hok (k := 2) (by omega)
    exact ⟨he, F, ⟨h2, ⟨hok2.a0, hok2.a1, hok2.m⟩, hF⟩, fun _ x => .inl x, hfr.mono (fun c hc => (hF c).2 hc), size_setD _ _ _ _⟩

theorem BBl_good : VBl.BigGood BBl where
  mnames := meth_bl_names
  mqids := meth_bl_qids
  mdir := meth_bl_dir
  hnames st b o F w vs l := by
    intro hi hb hx hz hs hA _ _
    refine (bl_names b o vs F w hi hb hx hz).mono ?_
    rintro e w' ⟨rfl, F', hi', hF', hfr, hsz⟩
    exact ⟨rfl, .slice none 0 0, F', hi', hF', hfr, strs_nil w', apart_nil _, fun S _ _ => apart_nil S⟩
  hqids st b o F w vs l := by
    intro hi hb hx hz hs hA _ _ _
    refine (bl_qids b o vs F w hi hb hx hz).mono ?_
    rintro e w' ⟨rfl, F', hi', hF', hfr, hsz⟩
    exact ⟨rfl, .slice none 0 0, F', hi', hF', hfr, qids_nil w', apart_nil _, fun S _ _ => apart_nil S⟩
  hdir st b o F w d := by
    intro hi hb hd hz _ _
    exact bl_dir b o d F w hi hb hd hz

theorem VOut_same (g : Nat) : (VOut g).Same := ⟨fun _ _ _ => rfl, fun _ _ => rfl⟩
end Go.Proofs.YtggkebngkkddhaaDoor
