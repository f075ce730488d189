/- What the row's reading gives the walk: the words, lists of strings, qids, messages, cuts. (Printed by gen_g1.py.) -/
import Derived.Test.YtggkebngkkddhaaDoorF7
import Derived.Test.YtggkebngkkddhaaDoorRows
import Derived.ProofKit
import Derived.LaidMore
import Derived.OpenShut
import Derived.Stop.Joined
import Derived.SizedLaws
import Derived.SliceStrings
import Derived.Maps.StringElems
import Derived.Deep.Slices
namespace Go.Proofs.YtggkebngkkddhaaDoor
open Go.ChangeShapes Go.WideShapes Go.ChangeAt Go.RowKit

theorem wf64 {k : Int} (h : i64r k) : (Lit.int .i64 k).wf = true := by
  have h2 : -9223372036854775808 ≤ k ∧ k ≤ 9223372036854775807 := h
  simpa [Lit.wf, IntKind.min, IntKind.max, IntKind.signed, IntKind.bits] using h2
theorem gWords : Tryd.prog.globalNamed "acheron/styx.words" = some 0 := by kernel_rfl
theorem tWords : (Tryd.prog.globals[0]?).map (·.type) = some 126 := by kernel_rfl
theorem zero9 (w : World) : (zeroValue 9).run Tryd.prog w = .ok (.string ⟨#[]⟩) w := by kernel_rfl
theorem atKey_words (k : Int) : (Rows.laid_acheron_styx_words (H := Unit)).atKey (.int .i64 k) (.lit (.string [])) = .lit (.string (wordB k).data.toList) := by
  unfold Rows.laid_acheron_styx_words DataW.atKey wordB
  simp only [List.find?_cons, List.find?_nil, Lit.sameKey]
  by_cases h100 : k = 100
  · subst h100; rfl
  by_cases h102 : k = 102
  · subst h102; rfl
  by_cases h104 : k = 104
  · subst h104; rfl
  by_cases h108 : k = 108
  · subst h108; rfl
  by_cases h110 : k = 110
  · subst h110; rfl
  by_cases h112 : k = 112
  · subst h112; rfl
  by_cases h114 : k = 114
  · subst h114; rfl
  by_cases h116 : k = 116
  · subst h116; rfl
  by_cases h118 : k = 118
  · subst h118; rfl
  by_cases h120 : k = 120
  · subst h120; rfl
  by_cases h122 : k = 122
  · subst h122; rfl
  by_cases h124 : k = 124
  · subst h124; rfl
  by_cases h126 : k = 126
  · subst h126; rfl
  simp [Ne.symm h100, h100, Ne.symm h102, h102, Ne.symm h104, h104, Ne.symm h108, h108, Ne.symm h110, h110, Ne.symm h112, h112, Ne.symm h114, h114, Ne.symm h116, h116, Ne.symm h118, h118, Ne.symm h120, h120, Ne.symm h122, h122, Ne.symm h124, h124, Ne.symm h126, h126]
theorem words_of_laid {W : World} (h : laidMetH Tryd.prog [("acheron/styx.words", Rows.laid_acheron_styx_words)] W) : Words W := by
  rw [MakeChecks.laidMetH_plain _ _ _ (by kernel_rfl)] at h
  obtain ⟨ps, ⟨g0, t0, cs0, f0, p0, q0, hg0, ht0, hv0, hd0, _⟩, _, _⟩ := h
  obtain rfl := Option.some.inj (gWords.symm.trans hg0)
  obtain rfl := Option.some.inj (tWords.symm.trans ht0)
  rcases WideElems.open_map Tryd.underlying126 hd0 with ⟨_, hx⟩ | ⟨bm, es, clock, n, rfl, hcs, hb, _, F, hx⟩
  · simp [Rows.laid_acheron_styx_words] at hx
  simp only [Prod.mk.injEq] at hx
  have hcell : W.cell? ⟨0, 0, none⟩ = some (.map (some bm)) := by
    have := World.var?_cell gWords hv0 0
    rw [Array.eq_one_of_toList hcs] at this
    simpa using this
  refine ⟨bm, hcell, (Array.getElem?_eq_some_iff.1 hb).1, fun w' hw' k hk => ?_⟩
  have hkey : keyOf Tryd.prog 3 (.int .i64 k) = some (.int .i64 k) := Maps.keyOf_int_mk Tryd.underlying3 (wf64 hk)
  have hak := atKey_words k
  rcases Maps.fit_look false (Maps.int_keyed Tryd.underlying3) Tryd.underlying126 (zero9 w') (hw'.trans hb) F hkey with ⟨hrun, _, hat⟩ | ⟨e0, y, _, _, hrun, hRv, hat, _⟩
  · have h1 := hat (.lit (.string []))
    rw [← hx.1, hak] at h1
    have h2 : (wordB k).data.toList = [] := by simpa using h1
    have h3 : wordB k = ⟨#[]⟩ := by
      generalize wordB k = z at h2
      obtain ⟨d⟩ := z
      simp at h2
      subst h2
      rfl
    rw [h3]
    exact hrun
  · obtain ⟨s, hv, rfl, _⟩ := WideElems.elemAt_string Tryd.underlying9 hRv
    have h1 := hat (.lit (.string []))
    rw [← hx.1, hak] at h1
    have h2 : (wordB k).data.toList = s.data.toList := by simpa using h1
    have h3 : wordB k = s := by
      generalize wordB k = z at h2
      obtain ⟨d⟩ := z
      obtain ⟨d'⟩ := s
      simp at h2
      subst h2
      rfl
    rw [h3, ← hv]
    exact hrun

section
variable {H : Type} {enc : TypeId × Value → H} {W : World} {base : Nat} {sp : Nat → Bool} {held : Bool}
/-- No string and no slice of the reading is beyond the form's own reach. -/
def Fits {H : Type} (t : TypeId) (d : DataW H) : Prop := ∀ n ∈ d.weights Tryd.prog t, n ≤ reachBytes
theorem Fits.agg {t : TypeId} {fs : Array Field} {ps : List (DataW H)} (hu : Tryd.prog.underlying t = some (.struct fs)) (h : Fits t (.agg ps)) {i : Nat} {u : TypeId} {d : DataW H} (hf : (fs.toList.map (·.type))[i]? = some u) (hd : ps[i]? = some d) : Fits u d := fun n hn =>
  h n (by simp only [DataW.weights, hu]; exact DataW.weights_mem_each hf hd n hn)
theorem weights_all {P : Program} {e : TypeId} {d : DataW H} : ∀ {l : List (DataW H)}, d ∈ l → ∀ n ∈ d.weights P e, n ∈ DataW.weightsAll P e l
  | a :: l, h, n, hn => by
    rw [DataW.weightsAll]
    rcases List.mem_cons.1 h with rfl | h
    · exact List.mem_append_left _ hn
    · exact List.mem_append_right _ (weights_all h n hn)
theorem Fits.elem {t e : TypeId} {es rs : List (DataW H)} (hu : Tryd.prog.underlying t = some (.slice e)) (h : Fits t (.slice es rs)) {d : DataW H} (hd : d ∈ es) : Fits e d := fun n hn =>
  h n (by simp only [DataW.weights, hu]; exact List.mem_cons_of_mem _ (List.mem_append_left _ (weights_all hd n hn)))
theorem Fits.str {t : TypeId} {s : ByteArray} (h : Fits (H := H) t (.lit (.string s.data.toList))) : s.size ≤ 1000000000000000 := by
  have h1 := h s.data.toList.length (by simp [DataW.weights])
  have h2 : s.data.toList.length = s.size := by simp
  unfold reachBytes at h1
  omega
theorem spot_of {w : World} {a : Addr} {x : Value} (h : w.cell? a = some x) : a.spot = none := by
  unfold World.cell? at h
  split at h
  · split at h
    · cases h
    · rename_i h2; simpa using h2
  · cases h
theorem add_of {a : Addr} (h : a.spot = none) (n : Nat) : a.add n = ⟨a.block, a.off + n, none⟩ := by
  unfold Addr.add
  split
  · rename_i h2; subst h2; obtain ⟨b, o, s⟩ := a; simp at h; subst h; rfl
  · rfl
theorem cells_get {w : World} {b o k : Nat} {cs : List Value} (h : w.cells? base ⟨b, o, none⟩ k = some cs) : cs.length = k ∧ ∀ j x, cs[j]? = some x → w.cell? ⟨b, o + j, none⟩ = some x := by
  obtain ⟨_, h2, h3⟩ := World.cells?_some h
  refine ⟨h2, fun j x hx => ?_⟩
  have hj := (List.getElem?_eq_some_iff.1 hx).1
  have := h3 j (by omega)
  rw [add_of rfl] at this
  rw [this, hx]
/-- A slice of the reading, element by element. -/
theorem open_list {t e k : Nat} {α : Type} [Inhabited α] (hu : Tryd.prog.underlying t = some (.slice e)) (hc : Tryd.prog.cellsOf e = k) (hk : 0 < k) (Q : Nat → Nat → α → Prop)
    {fuel : Nat} {cs : List Value} {x : DataW H × List MemPlace} (h : DataW.trod enc Tryd.prog W base sp held fuel t cs = some x) (hfit : Fits t x.1) (hnf : W.noneFrozen x.2)
    (each : ∀ n cs' y b o, W.cells? base ⟨b, o, none⟩ k = some cs' → DataW.trod enc Tryd.prog W base sp held n e cs' = some y → Fits e y.1 → W.noneFrozen y.2 → NoFrzAt W b o k → ∃ z : α, Q b o z) :
    ∃ (oa : Option Addr) (l : List α) (cap : Nat), cs = [.slice oa l.length cap] ∧ ∀ i z, l[i]? = some z → ∃ b o, oa = some ⟨b, o, none⟩ ∧ Q b (o + i * k) z := by
  rcases DataW.trod_slice hu h with ⟨rfl, rfl⟩ | ⟨a, len, cap, elems, rest, n, rfl, rfl, rfl, hb, hl, hm, hlen, hel, _, _⟩
  · exact ⟨none, [], 0, rfl, fun i z hz => by simp at hz⟩
  rw [hc] at hel hnf
  have hspot : 0 < len → a.spot = none := fun h0 => by
    have h1 := hel 0 h0
    rw [List.getElem?_eq_getElem (by omega)] at h1
    obtain ⟨cs', h2, _⟩ := Option.bind_eq_some_iff.1 h1
    rw [Nat.zero_mul] at h2
    obtain ⟨_, h3, h4⟩ := World.cells?_some h2
    have h5 := h4 0 hk
    rw [List.getElem?_eq_getElem (by omega)] at h5
    have h6 := spot_of h5
    simpa [Addr.add] using h6
  have hall : ∀ i, i < len → ∃ z : α, Q a.block (a.off + i * k) z := fun i hi => by
    have hs := hspot (by omega)
    have h1 := hel i hi
    rw [List.getElem?_eq_getElem (by omega)] at h1
    obtain ⟨cs', h2, h3⟩ := Option.bind_eq_some_iff.1 h1
    rw [add_of hs] at h2
    have hmem : elems[i] ∈ elems := List.getElem_mem (by omega)
    refine each n cs' _ a.block (a.off + i * k) h2 h3 (hfit.elem hu (List.mem_map.2 ⟨_, hmem, rfl⟩)) (fun b o hp => hnf b o (List.mem_append_right _ (List.mem_flatMap.2 ⟨_, List.mem_append_left _ hmem, hp⟩))) (fun j hj => ?_)
    refine hnf a.block (a.off + i * k + j) (List.mem_append_left _ (MemPlace.mem_row.2 ⟨i * k + j, ?_, by rw [Nat.add_assoc]⟩))
    have : (i + 1) * k ≤ (elems.length + rest.length) * k := Nat.mul_le_mul_right k (by omega)
    rw [Nat.add_mul] at this
    omega
  obtain ⟨z, hz⟩ := Go.Deep.choose_lt (p := fun i z => Q a.block (a.off + i * k) z) hall
  refine ⟨some a, (List.range len).map z, cap, by simp, fun i y hy => ?_⟩
  have hi : i < len := by have := (List.getElem?_eq_some_iff.1 hy).1; simpa using this
  rw [List.getElem?_map, List.getElem?_range hi] at hy
  cases hy
  refine ⟨a.block, a.off, ?_, hz i hi⟩
  have := hspot (by omega)
  obtain ⟨b, o, s⟩ := a
  simp at this
  subst this
  rfl
theorem i64_of {n : Int} (h : (Lit.int .i64 n).wf = true) : i64r n := by
  simp [Lit.wf, IntKind.min, IntKind.max, IntKind.signed, IntKind.bits] at h
  exact h
theorem c3 : Tryd.prog.cellsOf 3 = 1 := by kernel_rfl
theorem c2 : Tryd.prog.cellsOf 2 = 1 := by kernel_rfl
theorem c29 : Tryd.prog.cellsOf 29 = 1 := by kernel_rfl
theorem c9 : Tryd.prog.cellsOf 9 = 1 := by kernel_rfl
theorem c23 : Tryd.prog.cellsOf 23 = 1 := by kernel_rfl
theorem c24 : Tryd.prog.cellsOf 24 = 1 := by kernel_rfl
theorem c26 : Tryd.prog.cellsOf 26 = 3 := by kernel_rfl
theorem c28 : Tryd.prog.cellsOf 28 = 10 := by kernel_rfl
theorem c31 : Tryd.prog.cellsOf 31 = 27 := by kernel_rfl
theorem c43 : Tryd.prog.cellsOf 43 = 1 := by kernel_rfl
theorem len3 {α : Type _} (l : List α) (h : l.length = 3) : ∃ x0 x1 x2, l = [x0, x1, x2] := by
  obtain _ | ⟨x0, l⟩ := l
  · simp at h
  obtain _ | ⟨x1, l⟩ := l
  · simp at h
  obtain _ | ⟨x2, l⟩ := l
  · simp at h
  obtain _ | ⟨y, l⟩ := l
  · exact ⟨x0, x1, x2, rfl⟩
  · simp at h
theorem len8 {α : Type _} (l : List α) (h : l.length = 8) : ∃ x0 x1 x2 x3 x4 x5 x6 x7, l = [x0, x1, x2, x3, x4, x5, x6, x7] := by
  obtain _ | ⟨x0, l⟩ := l
  · simp at h
  obtain _ | ⟨x1, l⟩ := l
  · simp at h
  obtain _ | ⟨x2, l⟩ := l
  · simp at h
  obtain _ | ⟨x3, l⟩ := l
  · simp at h
  obtain _ | ⟨x4, l⟩ := l
  · simp at h
  obtain _ | ⟨x5, l⟩ := l
  · simp at h
  obtain _ | ⟨x6, l⟩ := l
  · simp at h
  obtain _ | ⟨x7, l⟩ := l
  · simp at h
  obtain _ | ⟨y, l⟩ := l
  · exact ⟨x0, x1, x2, x3, x4, x5, x6, x7, rfl⟩
  · simp at h
theorem len10 {α : Type _} (l : List α) (h : l.length = 10) : ∃ x0 x1 x2 x3 x4 x5 x6 x7 x8 x9, l = [x0, x1, x2, x3, x4, x5, x6, x7, x8, x9] := by
  obtain _ | ⟨x0, l⟩ := l
  · simp at h
  obtain _ | ⟨x1, l⟩ := l
  · simp at h
  obtain _ | ⟨x2, l⟩ := l
  · simp at h
  obtain _ | ⟨x3, l⟩ := l
  · simp at h
  obtain _ | ⟨x4, l⟩ := l
  · simp at h
  obtain _ | ⟨x5, l⟩ := l
  · simp at h
  obtain _ | ⟨x6, l⟩ := l
  · simp at h
  obtain _ | ⟨x7, l⟩ := l
  · simp at h
  obtain _ | ⟨x8, l⟩ := l
  · simp at h
  obtain _ | ⟨x9, l⟩ := l
  · simp at h
  obtain _ | ⟨y, l⟩ := l
  · exact ⟨x0, x1, x2, x3, x4, x5, x6, x7, x8, x9, rfl⟩
  · simp at h
theorem len18 {α : Type _} (l : List α) (h : l.length = 18) : ∃ x0 x1 x2 x3 x4 x5 x6 x7 x8 x9 x10 x11 x12 x13 x14 x15 x16 x17, l = [x0, x1, x2, x3, x4, x5, x6, x7, x8, x9, x10, x11, x12, x13, x14, x15, x16, x17] := by
  obtain _ | ⟨x0, l⟩ := l
  · simp at h
  obtain _ | ⟨x1, l⟩ := l
  · simp at h
  obtain _ | ⟨x2, l⟩ := l
  · simp at h
  obtain _ | ⟨x3, l⟩ := l
  · simp at h
  obtain _ | ⟨x4, l⟩ := l
  · simp at h
  obtain _ | ⟨x5, l⟩ := l
  · simp at h
  obtain _ | ⟨x6, l⟩ := l
  · simp at h
  obtain _ | ⟨x7, l⟩ := l
  · simp at h
  obtain _ | ⟨x8, l⟩ := l
  · simp at h
  obtain _ | ⟨x9, l⟩ := l
  · simp at h
  obtain _ | ⟨x10, l⟩ := l
  · simp at h
  obtain _ | ⟨x11, l⟩ := l
  · simp at h
  obtain _ | ⟨x12, l⟩ := l
  · simp at h
  obtain _ | ⟨x13, l⟩ := l
  · simp at h
  obtain _ | ⟨x14, l⟩ := l
  · simp at h
  obtain _ | ⟨x15, l⟩ := l
  · simp at h
  obtain _ | ⟨x16, l⟩ := l
  · simp at h
  obtain _ | ⟨x17, l⟩ := l
  · simp at h
  obtain _ | ⟨y, l⟩ := l
  · exact ⟨x0, x1, x2, x3, x4, x5, x6, x7, x8, x9, x10, x11, x12, x13, x14, x15, x16, x17, rfl⟩
  · simp at h
theorem len27 {α : Type _} (l : List α) (h : l.length = 27) : ∃ x0 x1 x2 x3 x4 x5 x6 x7 x8 x9 x10 x11 x12 x13 x14 x15 x16 x17 x18 x19 x20 x21 x22 x23 x24 x25 x26, l = [x0, x1, x2, x3, x4, x5, x6, x7, x8, x9, x10, x11, x12, x13, x14, x15, x16, x17, x18, x19, x20, x21, x22, x23, x24, x25, x26] := by
  obtain _ | ⟨x0, l⟩ := l
  · simp at h
  obtain _ | ⟨x1, l⟩ := l
  · simp at h
  obtain _ | ⟨x2, l⟩ := l
  · simp at h
  obtain _ | ⟨x3, l⟩ := l
  · simp at h
  obtain _ | ⟨x4, l⟩ := l
  · simp at h
  obtain _ | ⟨x5, l⟩ := l
  · simp at h
  obtain _ | ⟨x6, l⟩ := l
  · simp at h
  obtain _ | ⟨x7, l⟩ := l
  · simp at h
  obtain _ | ⟨x8, l⟩ := l
  · simp at h
  obtain _ | ⟨x9, l⟩ := l
  · simp at h
  obtain _ | ⟨x10, l⟩ := l
  · simp at h
  obtain _ | ⟨x11, l⟩ := l
  · simp at h
  obtain _ | ⟨x12, l⟩ := l
  · simp at h
  obtain _ | ⟨x13, l⟩ := l
  · simp at h
  obtain _ | ⟨x14, l⟩ := l
  · simp at h
  obtain _ | ⟨x15, l⟩ := l
  · simp at h
  obtain _ | ⟨x16, l⟩ := l
  · simp at h
  obtain _ | ⟨x17, l⟩ := l
  · simp at h
  obtain _ | ⟨x18, l⟩ := l
  · simp at h
  obtain _ | ⟨x19, l⟩ := l
  · simp at h
  obtain _ | ⟨x20, l⟩ := l
  · simp at h
  obtain _ | ⟨x21, l⟩ := l
  · simp at h
  obtain _ | ⟨x22, l⟩ := l
  · simp at h
  obtain _ | ⟨x23, l⟩ := l
  · simp at h
  obtain _ | ⟨x24, l⟩ := l
  · simp at h
  obtain _ | ⟨x25, l⟩ := l
  · simp at h
  obtain _ | ⟨x26, l⟩ := l
  · simp at h
  obtain _ | ⟨y, l⟩ := l
  · exact ⟨x0, x1, x2, x3, x4, x5, x6, x7, x8, x9, x10, x11, x12, x13, x14, x15, x16, x17, x18, x19, x20, x21, x22, x23, x24, x25, x26, rfl⟩
  · simp at h

instance : Inhabited QV := ⟨⟨0, 0, 0⟩⟩
instance : Inhabited ME := ⟨⟨MV0, nils, nils⟩⟩
instance : Inhabited ByteArray := ⟨⟨#[]⟩⟩
theorem open_str {fuel : Nat} {cs : List Value} {x : DataW H × List MemPlace} (h : DataW.trod enc Tryd.prog W base sp held fuel 9 cs = some x) (hf : Fits 9 x.1) : ∃ s : ByteArray, cs = [.string s] ∧ s.size ≤ 1000000000000000 := by
  obtain ⟨s, rfl, rfl, _⟩ := DataW.trod_string Tryd.underlying9 h
  exact ⟨s, rfl, hf.str⟩
theorem open_i3 {fuel : Nat} {cs : List Value} {x : DataW H × List MemPlace} (h : DataW.trod enc Tryd.prog W base sp held fuel 3 cs = some x) : ∃ n, cs = [.int .i64 n] ∧ i64r n := by
  obtain ⟨n, rfl, rfl, hw⟩ := DataW.trod_int Tryd.underlying3 h
  exact ⟨n, rfl, i64_of hw⟩
theorem open_i2 {fuel : Nat} {cs : List Value} {x : DataW H × List MemPlace} (h : DataW.trod enc Tryd.prog W base sp held fuel 2 cs = some x) : ∃ n, cs = [.int .i64 n] ∧ i64r n := by
  obtain ⟨n, rfl, rfl, hw⟩ := DataW.trod_int Tryd.underlying2 h
  exact ⟨n, rfl, i64_of hw⟩
theorem open_i29 {fuel : Nat} {cs : List Value} {x : DataW H × List MemPlace} (h : DataW.trod enc Tryd.prog W base sp held fuel 29 cs = some x) : ∃ n, cs = [.int .i64 n] ∧ i64r n := by
  obtain ⟨n, rfl, rfl, hw⟩ := DataW.trod_int Tryd.underlying29 h
  exact ⟨n, rfl, i64_of hw⟩
theorem open_strs {fuel : Nat} {cs : List Value} {x : DataW H × List MemPlace} (h : DataW.trod enc Tryd.prog W base sp held fuel 23 cs = some x) (hf : Fits 23 x.1) (hz : W.noneFrozen x.2) :
    ∃ v l, cs = [v] ∧ StrsAt W v l ∧ ∀ s ∈ l, s.size ≤ 1000000000000000 := by
  obtain ⟨oa, l, cap, h1, h2⟩ := open_list Tryd.underlying23 c9 (by decide) (fun b o (s : ByteArray) => W.cell? ⟨b, o, none⟩ = some (.string s) ∧ s.size ≤ 1000000000000000) h hf hz (fun n cs' y b o hc ht hy _ _ => by
    obtain ⟨s, rfl, hs⟩ := open_str ht hy
    exact ⟨s, (cells_get hc).2 0 _ rfl, hs⟩)
  refine ⟨_, l, h1, ⟨oa, cap, rfl, fun i s hs => ?_⟩, fun s hs => ?_⟩
  · obtain ⟨b, o, h3, h4, _⟩ := h2 i s hs
    exact ⟨b, o, h3, by rw [Nat.mul_one] at h4; exact h4⟩
  · obtain ⟨i, hi⟩ := List.getElem?_of_mem hs
    obtain ⟨b, o, h3, _, h4⟩ := h2 i s hi
    exact h4
theorem open_q {fuel : Nat} {cs : List Value} {x : DataW H × List MemPlace} (h : DataW.trod enc Tryd.prog W base sp held fuel 26 cs = some x) : ∃ q : QV, cs = [.int .i64 q.k, .int .i64 q.v, .int .i64 q.p] ∧ i64r q.p := by
  obtain ⟨xs, n, rfl, rfl, hlen, hn, hp⟩ := DataW.trod_struct Tryd.underlying26 h
  rw [c26] at hlen
  replace hn : xs.length = 3 := hn
  obtain ⟨c0_, c1_, c2_, rfl⟩ := len3 cs hlen
  obtain ⟨y0, y1, y2, rfl⟩ := len3 xs hn
  clear hlen hn
  have p0 : DataW.trod enc Tryd.prog W base sp held n 3 ((([c0_, c1_, c2_] : List Value).drop 0).take (Tryd.prog.cellsOf 3)) = some y0 := hp 0 _ rfl
  rw [c3] at p0
  replace p0 : DataW.trod enc Tryd.prog W base sp held n 3 [c0_] = some y0 := p0
  have p1 : DataW.trod enc Tryd.prog W base sp held n 3 ((([c0_, c1_, c2_] : List Value).drop 1).take (Tryd.prog.cellsOf 3)) = some y1 := hp 1 _ rfl
  rw [c3] at p1
  replace p1 : DataW.trod enc Tryd.prog W base sp held n 3 [c1_] = some y1 := p1
  have p2 : DataW.trod enc Tryd.prog W base sp held n 2 ((([c0_, c1_, c2_] : List Value).drop 2).take (Tryd.prog.cellsOf 2)) = some y2 := hp 2 _ rfl
  rw [c2] at p2
  replace p2 : DataW.trod enc Tryd.prog W base sp held n 2 [c2_] = some y2 := p2
  obtain ⟨k, e0, r0⟩ := open_i3 p0
  obtain ⟨v, e1, r1⟩ := open_i3 p1
  obtain ⟨p, e2, r2⟩ := open_i2 p2
  clear hp p0 p1 p2
  cases e0
  cases e1
  cases e2
  exact ⟨⟨k, v, p⟩, rfl, r2⟩
theorem open_qids {fuel : Nat} {cs : List Value} {x : DataW H × List MemPlace} (h : DataW.trod enc Tryd.prog W base sp held fuel 24 cs = some x) (hf : Fits 24 x.1) (hz : W.noneFrozen x.2) :
    ∃ v l, cs = [v] ∧ QidsAt W v l ∧ ∀ q ∈ l, i64r q.p := by
  obtain ⟨oa, l, cap, h1, h2⟩ := open_list Tryd.underlying24 c26 (by decide) (fun b o (q : QV) => QAt W b o q ∧ NoFrzAt W b o 3 ∧ i64r q.p) h hf hz (fun n cs' y b o hc ht _ _ hnf => by
    obtain ⟨q, rfl, hq⟩ := open_q ht
    exact ⟨q, ⟨(cells_get hc).2 0 _ rfl, (cells_get hc).2 1 _ rfl, (cells_get hc).2 2 _ rfl⟩, hnf, hq⟩)
  refine ⟨_, l, h1, ⟨oa, cap, rfl, fun i s hs => ?_⟩, fun s hs => ?_⟩
  · obtain ⟨b, o, h3, h4, h5, _⟩ := h2 i s hs
    exact ⟨b, o, h3, h4, h5⟩
  · obtain ⟨i, hi⟩ := List.getElem?_of_mem hs
    obtain ⟨b, o, h3, _, _, h4⟩ := h2 i s hi
    exact h4
theorem open_dir {fuel : Nat} {cs : List Value} {x : DataW H × List MemPlace} (h : DataW.trod enc Tryd.prog W base sp held fuel 28 cs = some x) (hf : Fits 28 x.1) :
    ∃ d : DV, cs = (dcells d).toList ∧ d.R ∧ d.name.size ≤ 1000000000000000 ∧ d.owner.size ≤ 1000000000000000 ∧ d.group.size ≤ 1000000000000000 ∧ d.last.size ≤ 1000000000000000 := by
  obtain ⟨xs, n, rfl, rfl, hlen, hn, hp⟩ := DataW.trod_struct Tryd.underlying28 h
  rw [c28] at hlen
  replace hn : xs.length = 8 := hn
  obtain ⟨c0_, c1_, c2_, c3_, c4_, c5_, c6_, c7_, c8_, c9_, rfl⟩ := len10 cs hlen
  obtain ⟨y0, y1, y2, y3, y4, y5, y6, y7, rfl⟩ := len8 xs hn
  clear hlen hn
  have p0 : DataW.trod enc Tryd.prog W base sp held n 26 ((([c0_, c1_, c2_, c3_, c4_, c5_, c6_, c7_, c8_, c9_] : List Value).drop 0).take (Tryd.prog.cellsOf 26)) = some y0 := hp 0 _ rfl
  rw [c26] at p0
  replace p0 : DataW.trod enc Tryd.prog W base sp held n 26 [c0_, c1_, c2_] = some y0 := p0
  have p1 : DataW.trod enc Tryd.prog W base sp held n 3 ((([c0_, c1_, c2_, c3_, c4_, c5_, c6_, c7_, c8_, c9_] : List Value).drop 3).take (Tryd.prog.cellsOf 3)) = some y1 := hp 1 _ rfl
  rw [c3] at p1
  replace p1 : DataW.trod enc Tryd.prog W base sp held n 3 [c3_] = some y1 := p1
  have p2 : DataW.trod enc Tryd.prog W base sp held n 2 ((([c0_, c1_, c2_, c3_, c4_, c5_, c6_, c7_, c8_, c9_] : List Value).drop 4).take (Tryd.prog.cellsOf 2)) = some y2 := hp 2 _ rfl
  rw [c2] at p2
  replace p2 : DataW.trod enc Tryd.prog W base sp held n 2 [c4_] = some y2 := p2
  have p3 : DataW.trod enc Tryd.prog W base sp held n 2 ((([c0_, c1_, c2_, c3_, c4_, c5_, c6_, c7_, c8_, c9_] : List Value).drop 5).take (Tryd.prog.cellsOf 2)) = some y3 := hp 3 _ rfl
  rw [c2] at p3
  replace p3 : DataW.trod enc Tryd.prog W base sp held n 2 [c5_] = some y3 := p3
  have p4 : DataW.trod enc Tryd.prog W base sp held n 9 ((([c0_, c1_, c2_, c3_, c4_, c5_, c6_, c7_, c8_, c9_] : List Value).drop 6).take (Tryd.prog.cellsOf 9)) = some y4 := hp 4 _ rfl
  rw [c9] at p4
  replace p4 : DataW.trod enc Tryd.prog W base sp held n 9 [c6_] = some y4 := p4
  have p5 : DataW.trod enc Tryd.prog W base sp held n 9 ((([c0_, c1_, c2_, c3_, c4_, c5_, c6_, c7_, c8_, c9_] : List Value).drop 7).take (Tryd.prog.cellsOf 9)) = some y5 := hp 5 _ rfl
  rw [c9] at p5
  replace p5 : DataW.trod enc Tryd.prog W base sp held n 9 [c7_] = some y5 := p5
  have p6 : DataW.trod enc Tryd.prog W base sp held n 9 ((([c0_, c1_, c2_, c3_, c4_, c5_, c6_, c7_, c8_, c9_] : List Value).drop 8).take (Tryd.prog.cellsOf 9)) = some y6 := hp 6 _ rfl
  rw [c9] at p6
  replace p6 : DataW.trod enc Tryd.prog W base sp held n 9 [c8_] = some y6 := p6
  have p7 : DataW.trod enc Tryd.prog W base sp held n 9 ((([c0_, c1_, c2_, c3_, c4_, c5_, c6_, c7_, c8_, c9_] : List Value).drop 9).take (Tryd.prog.cellsOf 9)) = some y7 := hp 7 _ rfl
  rw [c9] at p7
  replace p7 : DataW.trod enc Tryd.prog W base sp held n 9 [c9_] = some y7 := p7
  obtain ⟨q, e0, r0⟩ := open_q p0
  obtain ⟨mode, e1, r1⟩ := open_i3 p1
  obtain ⟨time, e2, r2⟩ := open_i2 p2
  obtain ⟨len, e3, r3⟩ := open_i2 p3
  obtain ⟨name, e4, r4⟩ := open_str p4 (hf.agg Tryd.underlying28 (i := 4) rfl rfl)
  obtain ⟨owner, e5, r5⟩ := open_str p5 (hf.agg Tryd.underlying28 (i := 5) rfl rfl)
  obtain ⟨group, e6, r6⟩ := open_str p6 (hf.agg Tryd.underlying28 (i := 6) rfl rfl)
  obtain ⟨last, e7, r7⟩ := open_str p7 (hf.agg Tryd.underlying28 (i := 7) rfl rfl)
  clear hp p0 p1 p2 p3 p4 p5 p6 p7
  cases e0
  cases e1
  cases e2
  cases e3
  cases e4
  cases e5
  cases e6
  cases e7
  exact ⟨⟨q, mode, time, len, name, owner, group, last⟩, rfl, ⟨r0, r2, r3⟩, r4, r5, r6, r7⟩
theorem open_msg {fuel : Nat} {cs : List Value} {x : DataW H × List MemPlace} (h : DataW.trod enc Tryd.prog W base sp held fuel 31 cs = some x) (hf : Fits 31 x.1) (hz : W.noneFrozen x.2) :
    ∃ e : ME, cs = e.cells.toList ∧ Held W e ∧ e.m.R ∧ e.m.W ∧ i64r e.m.kind ∧ i64r e.m.tag ∧ e.m.Sz := by
  obtain ⟨xs, n, rfl, rfl, hlen, hn, hp⟩ := DataW.trod_struct Tryd.underlying31 h
  rw [c31] at hlen
  replace hn : xs.length = 18 := hn
  obtain ⟨c0_, c1_, c2_, c3_, c4_, c5_, c6_, c7_, c8_, c9_, c10_, c11_, c12_, c13_, c14_, c15_, c16_, c17_, c18_, c19_, c20_, c21_, c22_, c23_, c24_, c25_, c26_, rfl⟩ := len27 cs hlen
  obtain ⟨y0, y1, y2, y3, y4, y5, y6, y7, y8, y9, y10, y11, y12, y13, y14, y15, y16, y17, rfl⟩ := len18 xs hn
  clear hlen hn
  have p0 : DataW.trod enc Tryd.prog W base sp held n 3 ((([c0_, c1_, c2_, c3_, c4_, c5_, c6_, c7_, c8_, c9_, c10_, c11_, c12_, c13_, c14_, c15_, c16_, c17_, c18_, c19_, c20_, c21_, c22_, c23_, c24_, c25_, c26_] : List Value).drop 0).take (Tryd.prog.cellsOf 3)) = some y0 := hp 0 _ rfl
  rw [c3] at p0
  replace p0 : DataW.trod enc Tryd.prog W base sp held n 3 [c0_] = some y0 := p0
  have p1 : DataW.trod enc Tryd.prog W base sp held n 3 ((([c0_, c1_, c2_, c3_, c4_, c5_, c6_, c7_, c8_, c9_, c10_, c11_, c12_, c13_, c14_, c15_, c16_, c17_, c18_, c19_, c20_, c21_, c22_, c23_, c24_, c25_, c26_] : List Value).drop 1).take (Tryd.prog.cellsOf 3)) = some y1 := hp 1 _ rfl
  rw [c3] at p1
  replace p1 : DataW.trod enc Tryd.prog W base sp held n 3 [c1_] = some y1 := p1
  have p2 : DataW.trod enc Tryd.prog W base sp held n 3 ((([c0_, c1_, c2_, c3_, c4_, c5_, c6_, c7_, c8_, c9_, c10_, c11_, c12_, c13_, c14_, c15_, c16_, c17_, c18_, c19_, c20_, c21_, c22_, c23_, c24_, c25_, c26_] : List Value).drop 2).take (Tryd.prog.cellsOf 3)) = some y2 := hp 2 _ rfl
  rw [c3] at p2
  replace p2 : DataW.trod enc Tryd.prog W base sp held n 3 [c2_] = some y2 := p2
  have p3 : DataW.trod enc Tryd.prog W base sp held n 3 ((([c0_, c1_, c2_, c3_, c4_, c5_, c6_, c7_, c8_, c9_, c10_, c11_, c12_, c13_, c14_, c15_, c16_, c17_, c18_, c19_, c20_, c21_, c22_, c23_, c24_, c25_, c26_] : List Value).drop 3).take (Tryd.prog.cellsOf 3)) = some y3 := hp 3 _ rfl
  rw [c3] at p3
  replace p3 : DataW.trod enc Tryd.prog W base sp held n 3 [c3_] = some y3 := p3
  have p4 : DataW.trod enc Tryd.prog W base sp held n 3 ((([c0_, c1_, c2_, c3_, c4_, c5_, c6_, c7_, c8_, c9_, c10_, c11_, c12_, c13_, c14_, c15_, c16_, c17_, c18_, c19_, c20_, c21_, c22_, c23_, c24_, c25_, c26_] : List Value).drop 4).take (Tryd.prog.cellsOf 3)) = some y4 := hp 4 _ rfl
  rw [c3] at p4
  replace p4 : DataW.trod enc Tryd.prog W base sp held n 3 [c4_] = some y4 := p4
  have p5 : DataW.trod enc Tryd.prog W base sp held n 3 ((([c0_, c1_, c2_, c3_, c4_, c5_, c6_, c7_, c8_, c9_, c10_, c11_, c12_, c13_, c14_, c15_, c16_, c17_, c18_, c19_, c20_, c21_, c22_, c23_, c24_, c25_, c26_] : List Value).drop 5).take (Tryd.prog.cellsOf 3)) = some y5 := hp 5 _ rfl
  rw [c3] at p5
  replace p5 : DataW.trod enc Tryd.prog W base sp held n 3 [c5_] = some y5 := p5
  have p6 : DataW.trod enc Tryd.prog W base sp held n 2 ((([c0_, c1_, c2_, c3_, c4_, c5_, c6_, c7_, c8_, c9_, c10_, c11_, c12_, c13_, c14_, c15_, c16_, c17_, c18_, c19_, c20_, c21_, c22_, c23_, c24_, c25_, c26_] : List Value).drop 6).take (Tryd.prog.cellsOf 2)) = some y6 := hp 6 _ rfl
  rw [c2] at p6
  replace p6 : DataW.trod enc Tryd.prog W base sp held n 2 [c6_] = some y6 := p6
  have p7 : DataW.trod enc Tryd.prog W base sp held n 3 ((([c0_, c1_, c2_, c3_, c4_, c5_, c6_, c7_, c8_, c9_, c10_, c11_, c12_, c13_, c14_, c15_, c16_, c17_, c18_, c19_, c20_, c21_, c22_, c23_, c24_, c25_, c26_] : List Value).drop 7).take (Tryd.prog.cellsOf 3)) = some y7 := hp 7 _ rfl
  rw [c3] at p7
  replace p7 : DataW.trod enc Tryd.prog W base sp held n 3 [c7_] = some y7 := p7
  have p8 : DataW.trod enc Tryd.prog W base sp held n 3 ((([c0_, c1_, c2_, c3_, c4_, c5_, c6_, c7_, c8_, c9_, c10_, c11_, c12_, c13_, c14_, c15_, c16_, c17_, c18_, c19_, c20_, c21_, c22_, c23_, c24_, c25_, c26_] : List Value).drop 8).take (Tryd.prog.cellsOf 3)) = some y8 := hp 8 _ rfl
  rw [c3] at p8
  replace p8 : DataW.trod enc Tryd.prog W base sp held n 3 [c8_] = some y8 := p8
  have p9 : DataW.trod enc Tryd.prog W base sp held n 9 ((([c0_, c1_, c2_, c3_, c4_, c5_, c6_, c7_, c8_, c9_, c10_, c11_, c12_, c13_, c14_, c15_, c16_, c17_, c18_, c19_, c20_, c21_, c22_, c23_, c24_, c25_, c26_] : List Value).drop 9).take (Tryd.prog.cellsOf 9)) = some y9 := hp 9 _ rfl
  rw [c9] at p9
  replace p9 : DataW.trod enc Tryd.prog W base sp held n 9 [c9_] = some y9 := p9
  have p10 : DataW.trod enc Tryd.prog W base sp held n 9 ((([c0_, c1_, c2_, c3_, c4_, c5_, c6_, c7_, c8_, c9_, c10_, c11_, c12_, c13_, c14_, c15_, c16_, c17_, c18_, c19_, c20_, c21_, c22_, c23_, c24_, c25_, c26_] : List Value).drop 10).take (Tryd.prog.cellsOf 9)) = some y10 := hp 10 _ rfl
  rw [c9] at p10
  replace p10 : DataW.trod enc Tryd.prog W base sp held n 9 [c10_] = some y10 := p10
  have p11 : DataW.trod enc Tryd.prog W base sp held n 9 ((([c0_, c1_, c2_, c3_, c4_, c5_, c6_, c7_, c8_, c9_, c10_, c11_, c12_, c13_, c14_, c15_, c16_, c17_, c18_, c19_, c20_, c21_, c22_, c23_, c24_, c25_, c26_] : List Value).drop 11).take (Tryd.prog.cellsOf 9)) = some y11 := hp 11 _ rfl
  rw [c9] at p11
  replace p11 : DataW.trod enc Tryd.prog W base sp held n 9 [c11_] = some y11 := p11
  have p12 : DataW.trod enc Tryd.prog W base sp held n 9 ((([c0_, c1_, c2_, c3_, c4_, c5_, c6_, c7_, c8_, c9_, c10_, c11_, c12_, c13_, c14_, c15_, c16_, c17_, c18_, c19_, c20_, c21_, c22_, c23_, c24_, c25_, c26_] : List Value).drop 12).take (Tryd.prog.cellsOf 9)) = some y12 := hp 12 _ rfl
  rw [c9] at p12
  replace p12 : DataW.trod enc Tryd.prog W base sp held n 9 [c12_] = some y12 := p12
  have p13 : DataW.trod enc Tryd.prog W base sp held n 23 ((([c0_, c1_, c2_, c3_, c4_, c5_, c6_, c7_, c8_, c9_, c10_, c11_, c12_, c13_, c14_, c15_, c16_, c17_, c18_, c19_, c20_, c21_, c22_, c23_, c24_, c25_, c26_] : List Value).drop 13).take (Tryd.prog.cellsOf 23)) = some y13 := hp 13 _ rfl
  rw [c23] at p13
  replace p13 : DataW.trod enc Tryd.prog W base sp held n 23 [c13_] = some y13 := p13
  have p14 : DataW.trod enc Tryd.prog W base sp held n 24 ((([c0_, c1_, c2_, c3_, c4_, c5_, c6_, c7_, c8_, c9_, c10_, c11_, c12_, c13_, c14_, c15_, c16_, c17_, c18_, c19_, c20_, c21_, c22_, c23_, c24_, c25_, c26_] : List Value).drop 14).take (Tryd.prog.cellsOf 24)) = some y14 := hp 14 _ rfl
  rw [c24] at p14
  replace p14 : DataW.trod enc Tryd.prog W base sp held n 24 [c14_] = some y14 := p14
  have p15 : DataW.trod enc Tryd.prog W base sp held n 9 ((([c0_, c1_, c2_, c3_, c4_, c5_, c6_, c7_, c8_, c9_, c10_, c11_, c12_, c13_, c14_, c15_, c16_, c17_, c18_, c19_, c20_, c21_, c22_, c23_, c24_, c25_, c26_] : List Value).drop 15).take (Tryd.prog.cellsOf 9)) = some y15 := hp 15 _ rfl
  rw [c9] at p15
  replace p15 : DataW.trod enc Tryd.prog W base sp held n 9 [c15_] = some y15 := p15
  have p16 : DataW.trod enc Tryd.prog W base sp held n 28 ((([c0_, c1_, c2_, c3_, c4_, c5_, c6_, c7_, c8_, c9_, c10_, c11_, c12_, c13_, c14_, c15_, c16_, c17_, c18_, c19_, c20_, c21_, c22_, c23_, c24_, c25_, c26_] : List Value).drop 16).take (Tryd.prog.cellsOf 28)) = some y16 := hp 16 _ rfl
  rw [c28] at p16
  replace p16 : DataW.trod enc Tryd.prog W base sp held n 28 [c16_, c17_, c18_, c19_, c20_, c21_, c22_, c23_, c24_, c25_] = some y16 := p16
  have p17 : DataW.trod enc Tryd.prog W base sp held n 29 ((([c0_, c1_, c2_, c3_, c4_, c5_, c6_, c7_, c8_, c9_, c10_, c11_, c12_, c13_, c14_, c15_, c16_, c17_, c18_, c19_, c20_, c21_, c22_, c23_, c24_, c25_, c26_] : List Value).drop 26).take (Tryd.prog.cellsOf 29)) = some y17 := hp 17 _ rfl
  rw [c29] at p17
  replace p17 : DataW.trod enc Tryd.prog W base sp held n 29 [c26_] = some y17 := p17
  obtain ⟨kind, e0, r0⟩ := open_i3 p0
  obtain ⟨tag, e1, r1⟩ := open_i3 p1
  obtain ⟨fid, e2, r2⟩ := open_i3 p2
  obtain ⟨other, e3, r3⟩ := open_i3 p3
  obtain ⟨old, e4, r4⟩ := open_i3 p4
  obtain ⟨size, e5, r5⟩ := open_i3 p5
  obtain ⟨offset, e6, r6⟩ := open_i2 p6
  obtain ⟨mode, e7, r7⟩ := open_i3 p7
  obtain ⟨perm, e8, r8⟩ := open_i3 p8
  obtain ⟨version, e9, r9⟩ := open_str p9 (hf.agg Tryd.underlying31 (i := 9) rfl rfl)
  obtain ⟨user, e10, r10⟩ := open_str p10 (hf.agg Tryd.underlying31 (i := 10) rfl rfl)
  obtain ⟨tree, e11, r11⟩ := open_str p11 (hf.agg Tryd.underlying31 (i := 11) rfl rfl)
  obtain ⟨name, e12, r12⟩ := open_str p12 (hf.agg Tryd.underlying31 (i := 12) rfl rfl)
  obtain ⟨vnames, names, e13, a13, r13⟩ := open_strs p13 (hf.agg Tryd.underlying31 (i := 13) rfl rfl) (fun b o hp' => hz b o (List.mem_flatMap.2 ⟨y13, by simp, hp'⟩))
  obtain ⟨vqids, qids, e14, a14, r14⟩ := open_qids p14 (hf.agg Tryd.underlying31 (i := 14) rfl rfl) (fun b o hp' => hz b o (List.mem_flatMap.2 ⟨y14, by simp, hp'⟩))
  obtain ⟨data, e15, r15⟩ := open_str p15 (hf.agg Tryd.underlying31 (i := 15) rfl rfl)
  obtain ⟨dir, e16, r16, rn, ro, rg, rl⟩ := open_dir p16 (hf.agg Tryd.underlying31 (i := 16) rfl rfl)
  obtain ⟨code, e17, r17⟩ := open_i29 p17
  clear hp p0 p1 p2 p3 p4 p5 p6 p7 p8 p9 p10 p11 p12 p13 p14 p15 p16 p17
  cases e0
  cases e1
  cases e2
  cases e3
  cases e4
  cases e5
  cases e6
  cases e7
  cases e8
  cases e9
  cases e10
  cases e11
  cases e12
  cases e13
  cases e14
  cases e15
  cases e16
  cases e17
  exact ⟨⟨⟨kind, tag, fid, other, old, size, offset, mode, perm, version, user, tree, name, names, qids, data, dir, code⟩, c13_, c14_⟩, rfl, ⟨a13, a14⟩, ⟨r6, r16, r14⟩, ⟨r2, r3, r4, r5, r7, r8, r17⟩, r0, r1, ⟨r9, r10, r11, r12, r15, rn, ro, rg, rl, r13⟩⟩
theorem open_msgs {fuel : Nat} {cs : List Value} {x : DataW H × List MemPlace} (h : DataW.trod enc Tryd.prog W base sp held fuel 41 cs = some x) (hf : Fits 41 x.1) (hz : W.noneFrozen x.2) :
    ∃ v l, cs = [v] ∧ MsgsAt W v l ∧ Okay l := by
  obtain ⟨oa, l, cap, h1, h2⟩ := open_list Tryd.underlying41 c31 (by decide) (fun b o (e : ME) => MAt W b o e ∧ Held W e ∧ e.m.R ∧ e.m.W ∧ i64r e.m.kind ∧ i64r e.m.tag ∧ e.m.Sz) h hf hz (fun n cs' y b o hc ht hy hny _ => by
    obtain ⟨e, rfl, he⟩ := open_msg ht hy hny
    exact ⟨e, fun j x hx => (cells_get hc).2 j x (by simpa using hx), he⟩)
  refine ⟨_, l, h1, ⟨oa, cap, rfl, fun i s hs => ?_⟩, fun s hs => ?_⟩
  · obtain ⟨b, o, h3, h4, h5, _⟩ := h2 i s hs
    exact ⟨b, o, h3, h4, h5⟩
  · obtain ⟨i, hi⟩ := List.getElem?_of_mem hs
    obtain ⟨b, o, h3, _, _, h4⟩ := h2 i s hi
    exact h4
theorem open_cuts {fuel : Nat} {cs : List Value} {x : DataW H × List MemPlace} (h : DataW.trod enc Tryd.prog W base sp held fuel 42 cs = some x) (hf : Fits 42 x.1) (hz : W.noneFrozen x.2) :
    ∃ v l, cs = [v] ∧ CutsAt W v l := by
  obtain ⟨oa, l, cap, h1, h2⟩ := open_list Tryd.underlying42 c43 (by decide) (fun b o (n : Int) => W.cell? ⟨b, o, none⟩ = some (.int .u16 n) ∧ 0 ≤ n ∧ n < 65536) h hf hz (fun n cs' y b o hc ht _ _ _ => by
    obtain ⟨n, rfl, rfl, hw⟩ := DataW.trod_int Tryd.underlying43 ht
    simp [Lit.wf, IntKind.min, IntKind.max, IntKind.signed, IntKind.bits] at hw
    exact ⟨n, (cells_get hc).2 0 _ rfl, hw.1, by omega⟩)
  refine ⟨_, l, h1, ⟨oa, cap, rfl, fun i s hs => ?_⟩⟩
  obtain ⟨b, o, h3, h4⟩ := h2 i s hs
  exact ⟨b, o, h3, by rw [Nat.mul_one] at h4; exact h4⟩
end
end Go.Proofs.YtggkebngkkddhaaDoor
