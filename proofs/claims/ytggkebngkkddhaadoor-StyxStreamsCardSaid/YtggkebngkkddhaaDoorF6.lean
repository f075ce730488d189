/- Rows of messages of the call's own; what StyxStreams keeps and gets: the plain law. -/
import Derived.Test.YtggkebngkkddhaaDoorF5
import Derived.Test.YtggkebngkkddhaaDoorP4
import Derived.Maps.AppendAt
namespace Go.Proofs.YtggkebngkkddhaaDoor
open Go.RowKit

def ecells (l : List ME) : List Value := l.flatMap (fun e => e.cells.toList)
/-- A slice of the call's own that holds these messages. -/
structure Row (base : Nat) (w : World) (v : Value) (l : List ME) : Prop where
  own : w.ownsRow base 31 27 v l.length (ecells l)
  held : ∀ e ∈ l, Held w e ∧ Apart e.n (fun b => v.ownBlock = some b) ∧ Apart e.q (fun b => v.ownBlock = some b)
theorem Row.nil (base : Nat) (w : World) : Row base w (.slice none 0 0) [] := ⟨World.ownsRow_nil _ _ _ _, fun e h => by cases h⟩
theorem Row.fr0 {base : Nat} {w w' : World} {v : Value} {l : List ME} (h : Row base w v l) (hf : Fr none_ w w') : Row base w' v l :=
  ⟨ownsRow_fr h.own hf (fun _ _ x => x), fun e he => ⟨(h.held e he).1.fr0 hf, (h.held e he).2⟩⟩
theorem StrsAt.apart {w : World} {v : Value} {l : List ByteArray} (h : StrsAt w v l) : Apart v (fun b => w.heap.size ≤ b) := by
  obtain ⟨oa, cap, rfl, h⟩ := h
  intro a n c e hn hb
  cases e
  have hg := List.getElem?_eq_getElem (l := l) (i := 0) hn
  obtain ⟨b, o, e, hc⟩ := h 0 _ hg
  cases e
  have h2 := cell_lt hc
  exact absurd hb (Nat.not_le.2 h2)
theorem QidsAt.apart {w : World} {v : Value} {l : List QV} (h : QidsAt w v l) : Apart v (fun b => w.heap.size ≤ b) := by
  obtain ⟨oa, cap, rfl, h⟩ := h
  intro a n c e hn hb
  cases e
  have hg := List.getElem?_eq_getElem (l := l) (i := 0) hn
  obtain ⟨b, o, e, hc, _⟩ := h 0 _ hg
  cases e
  have h2 := cell_lt hc.1
  exact absurd hb (Nat.not_le.2 h2)
theorem grown_fr {w w' : World} {r : Option Nat} (h : w.grownBy w' r) : Fr (fun b => r = some b) w w' := ⟨h.size, fun b hb hs => h.block b hb (fun e => hs e.symm), h.os, h.output⟩
theorem Held.fr {S : Nat → Prop} {w w' : World} {e : ME} (h : Held w e) (hf : Fr S w w') (h1 : Apart e.n S) (h2 : Apart e.q S) : Held w' e := ⟨h.1.fr hf h1, h.2.fr hf h2⟩
theorem apart_or {v : Value} {r r' : Option Nat} {n : Nat} (h : Apart v (fun b => r = some b)) (h2 : Apart v (fun b => n ≤ b)) (hr : r' = r ∨ r' = some n) : Apart v (fun b => r' = some b) := by
  intro a k c e hk hb
  rcases hr with rfl | rfl
  · exact h a k c e hk hb
  · exact h2 a k c e hk (by cases hb; exact Nat.le_refl _)
theorem Row.snoc {base : Nat} {w w' : World} {v v' : Value} {l : List ME} {e : ME} (h : Row base w v l) (he : Held w e) (hn : Apart e.n (fun b => v.ownBlock = some b)) (hq : Apart e.q (fun b => v.ownBlock = some b))
    (h1 : w'.ownsRow base 31 27 v' (l.length + 1) (ecells l ++ e.cells.toList)) (h2 : w.grownBy w' v.ownBlock) (h3 : v'.ownBlock = v.ownBlock ∨ v'.ownBlock = some w.heap.size) : Row base w' v' (l ++ [e]) := by
  refine ⟨?_, fun x hx => ?_⟩
  · rw [List.length_append]
    unfold ecells at *
    rw [List.flatMap_append]
    simpa using h1
  · have hx' : Held w x ∧ Apart x.n (fun b => v.ownBlock = some b) ∧ Apart x.q (fun b => v.ownBlock = some b) := by
      rcases List.mem_append.1 hx with hx | hx
      · exact h.held x hx
      · obtain rfl := List.mem_singleton.1 hx
        exact ⟨he, hn, hq⟩
    exact ⟨hx'.1.fr (grown_fr h2) hx'.2.1 hx'.2.2, apart_or hx'.2.1 hx'.1.1.apart h3, apart_or hx'.2.2 hx'.1.2.apart h3⟩
theorem ecells_get (l : List ME) (i : Nat) (e : ME) (h : l[i]? = some e) (j : Nat) (x : Value) (hx : e.cells[j]? = some x) : (ecells l)[i * 27 + j]? = some x := by
  have hj : j < 27 := by
    have := (Array.getElem?_eq_some_iff.1 hx).1
    rwa [ME.size] at this
  induction l generalizing i with
  | nil => simp at h
  | cons a l ih =>
    have ha : a.cells.toList.length = 27 := rfl
    unfold ecells at *
    rw [List.flatMap_cons]
    cases i with
    | zero =>
      simp only [List.getElem?_cons_zero, Option.some.injEq] at h
      subst h
      rw [Nat.zero_mul, Nat.zero_add, List.getElem?_append_left (by rw [ha]; exact hj)]
      simpa using hx
    | succ i =>
      simp only [List.getElem?_cons_succ] at h
      have h2 := ih i h
      rw [List.getElem?_append_right (by rw [ha]; omega), ha, show (i + 1) * 27 + j - 27 = i * 27 + j by omega]
      exact h2
theorem Row.msgs {base : Nat} {w : World} {v : Value} {l : List ME} (h : Row base w v l) : MsgsAt w v l := by
  rcases h.own.2 with ⟨hv, hl⟩ | ⟨g, cap, cur, hv, hb, hg, hnc, hcm, hcs, htake⟩
  · rw [List.length_eq_zero_iff.1 hl]
    exact ⟨none, 0, hv, fun i e h => by simp at h⟩
  · refine ⟨some ⟨g, 0, none⟩, cap, hv, fun i e hi => ⟨g, 0, rfl, fun j x hx => ?_, (h.held e (List.mem_of_getElem? hi)).1⟩⟩
    have := h.own.cells (g := g) (by rw [hv]; rfl) (i * 27 + j) x (ecells_get l i e hi j x hx)
    rwa [show ((⟨g, 0, none⟩ : Addr).add (i * 27 + j)) = ⟨g, 0 + i * 27 + j, none⟩ by simp [Addr.add]; intro h1 h2; simp [h1, h2]] at this

/-- What StyxStreams keeps. -/
def keepB (e : ME) : Bool := decide (e.m.encode.2 = 0) && decide (e.m.encode.1.size ≤ 2000)
def enc1 (m : MV) : ByteArray := m.encode.1
theorem kept_snoc (l : List ME) (j : Nat) (e : ME) (h : l[j]? = some e) : (l.take (j + 1)).filter keepB = (l.take j).filter keepB ++ (if keepB e then [e] else []) := by
  obtain ⟨hj, he⟩ := List.getElem?_eq_some_iff.1 h
  rw [List.take_succ_eq_append_getElem hj, he, List.filter_append]
  by_cases hk : keepB e = true <;> simp [hk]

/-- Where the second loop stands: so many messages are read, the rest of the stream is 'rest ++ s'. -/
def Cut (ms : List MV) (k : Nat) (rest s : ByteArray) : Prop := bs rest ++ bs s = ((ms.map enc1).drop k).flatMap bs
structure Goods (ms : List MV) : Prop where
  enc : ∀ m ∈ ms, m.R ∧ m.encode.2 = 0 ∧ m.encode.1.size ≤ 2000
theorem Goods.dec {ms : List MV} (h : Goods ms) : ∀ m ∈ ms, decode (enc1 m) = (m, 0) ∧ EncOk (enc1 m) := fun m hm => by
  obtain ⟨h1, h2, _⟩ := h.enc m hm
  exact decode_encode m _ h1 (by rw [enc1]; exact Prod.ext rfl h2)
theorem flat_len (l : List ByteArray) (h : ∀ s ∈ l, s.size ≤ 2000) : (l.flatMap bs).length ≤ 2000 * l.length := by
  induction l with
  | nil => simp
  | cons a l ih =>
    have h1 := ih (fun s hs => h s (List.mem_cons_of_mem _ hs))
    have h2 := h a List.mem_cons_self
    rw [List.flatMap_cons, List.length_append, bs_length, List.length_cons]
    omega
theorem Cut.size {ms : List MV} (hg : Goods ms) {k : Nat} {rest s : ByteArray} (h : Cut ms k rest s) : rest.size + s.size ≤ 2000 * ms.length := by
  have h1 := congrArg List.length h
  rw [List.length_append, bs_length, bs_length] at h1
  have h2 := flat_len ((ms.map enc1).drop k) (fun s hs => by
    obtain ⟨m, hm, rfl⟩ := List.mem_map.1 (List.mem_of_mem_drop hs)
    exact (hg.enc m hm).2.2)
  simp at h2 h1
  omega
/-- One round of the second loop. -/
theorem Cut.step {ms : List MV} (hg : Goods ms) {k : Nat} {rest s : ByteArray} (h : Cut ms k rest s) (n : Nat) (hn : n ≤ s.size) :
    ∃ (c : Nat) (left : ByteArray), frames (rest ++ s.extract 0 n) = (((ms.drop k).take c).map enc1, left, 0) ∧ Cut ms (k + c) left (s.extract n s.size) ∧ (n = s.size → (ms.drop k).take c = ms.drop k ∧ left = ⟨#[]⟩) := by
  have hb : bs (rest ++ s.extract 0 n) ++ bs (s.extract n s.size) = ((ms.drop k).map enc1).flatMap bs := by
    have e : bs (s.extract 0 n) ++ bs (s.extract n s.size) = bs s := by
      rw [bs_extract, bs_extract, ← bs_length]
      simp
    rw [bs_append, List.append_assoc, e, List.map_drop, ← h]
  obtain ⟨c, left, h1, h2, h3⟩ := frames_cut ((ms.drop k).map enc1) (fun e he => by
    obtain ⟨m, hm, rfl⟩ := List.mem_map.1 he
    exact (hg.dec m (List.mem_of_mem_drop hm)).2) _ _ hb
  refine ⟨c, left, by rw [h1, List.map_take], ?_, fun hn => ?_⟩
  · unfold Cut
    rw [h2, ← List.map_drop, List.drop_drop, List.map_drop]
  · obtain ⟨a, b⟩ := h3 (by subst hn; rw [bs_extract]; simp)
    refine ⟨?_, b⟩
    rw [← List.map_drop] at a
    have := List.map_eq_nil_iff.1 a
    have h5 := List.take_append_drop c (ms.drop k)
    rw [this] at h5
    simpa using h5
theorem Cut.step' {ms : List MV} (hg : Goods ms) {k : Nat} {rest s : ByteArray} (h : Cut ms k rest s) (n : Nat) (hn : n ≤ s.size) :
    ∃ (M : List MV) (left : ByteArray), frames (rest ++ s.extract 0 n) = (M.map enc1, left, 0) ∧ M = (ms.drop k).take M.length ∧ Cut ms (k + M.length) left (s.extract n s.size) ∧ (n = s.size → M = ms.drop k ∧ left = ⟨#[]⟩) := by
  obtain ⟨c, left, h1, h2, h3⟩ := h.step hg n hn
  have e : (ms.drop k).take c = (ms.drop k).take ((ms.drop k).take c).length := by
    rw [List.length_take]
    by_cases hc : c ≤ (ms.drop k).length
    · rw [Nat.min_eq_left hc]
    · rw [Nat.min_eq_right (by omega), List.take_of_length_le (by omega), List.take_of_length_le (Nat.le_refl _)]
  refine ⟨(ms.drop k).take c, left, h1, e, ?_, h3⟩
  unfold Cut at *
  rw [h2]
  congr 1
  rw [List.length_take]
  by_cases hc : c ≤ (ms.drop k).length
  · rw [Nat.min_eq_left hc]
  · rw [Nat.min_eq_right (by omega), List.length_drop, List.drop_of_length_le (by simp at hc ⊢; omega), List.drop_of_length_le (by simp at hc ⊢; omega)]
theorem Row.lt {base : Nat} {w : World} {v : Value} {l : List ME} (h : Row base w v l) {r : Nat} (hr : v.ownBlock = some r) : r < w.heap.size := by
  rcases h.own.2 with ⟨hv, hl⟩ | ⟨g, cap, cur, hv, hb, hg, hnc, hcm, hcs, htake⟩
  · rw [hv] at hr; simp [Value.ownBlock] at hr
  · rw [hv] at hr
    simp [Value.ownBlock] at hr
    subst hr
    exact (Array.getElem?_eq_some_iff.1 hg).1
theorem strs_row {base : Nat} {w : World} {v : Value} {l : List ByteArray} (h : w.ownsRow base 9 1 v l.length (scells l)) : StrsAt w v l ∧ Apart v (fun b => b < base) := by
  rcases h.2 with ⟨hv, hl⟩ | ⟨g, cap, cur, hv, hb, hg, hnc, hcm, hcs, htake⟩
  · refine ⟨?_, ?_⟩
    · rw [List.length_eq_zero_iff.1 hl]
      exact ⟨none, 0, hv, fun i e h => by simp at h⟩
    · intro a n c e; rw [hv] at e; cases e
  · refine ⟨⟨some ⟨g, 0, none⟩, cap, hv, fun i s hi => ⟨g, 0, rfl, ?_⟩⟩, ?_⟩
    · have := h.cells (g := g) (by rw [hv]; rfl) i (.string s) (by unfold scells; rw [List.getElem?_map, hi]; rfl)
      rwa [show ((⟨g, 0, none⟩ : Addr).add i) = ⟨g, 0 + i, none⟩ by simp [Addr.add]; intro h1; simp [h1]] at this
    · intro a n c e hn hx
      rw [hv] at e; cases e
      exact absurd hx (Nat.not_lt.2 hb)

/-- Where the second loop stands. -/
structure L2 (ms : List MV) (nc : Nat) (w2 wr : World) (gv : Value) (rest s : ByteArray) (G : List ME) (k : Nat) : Prop where
  row : Row w2.heap.size wr gv G
  got : G.map (·.m) = ms.take G.length
  cut : Cut ms G.length rest s
  fr : Fr none_ w2 wr
  last : nc < k → G.length = ms.length ∧ rest = ⟨#[]⟩
/-- Where the loop inside stands. -/
structure L3 (w2 wr : World) (gv vf : Value) (M : List MV) (G D : List ME) (j : Nat) : Prop where
  row : Row w2.heap.size wr gv (G ++ D)
  got : D.map (·.m) = M.take j
  strs : StrsAt wr vf (M.map enc1)
  away : Apart vf (fun b => gv.ownBlock = some b)
  fr : Fr none_ w2 wr
theorem L2.inner {ms M : List MV} {nc : Nat} {w2 wr w3 : World} {gv vf : Value} {rest s : ByteArray} {G : List ME} {k : Nat} (h : L2 ms nc w2 wr gv rest s G k) (hf : Fr none_ wr w3) (hv : w3.ownsRow wr.heap.size 9 1 vf (M.map enc1).length (scells (M.map enc1))) :
    L3 w2 w3 gv vf M G [] 0 := by
  obtain ⟨h1, h2⟩ := strs_row hv
  refine ⟨by rw [List.append_nil]; exact h.row.fr0 hf, rfl, h1, fun a n c e hn hb => h2 a n c e hn (h.row.lt hb), h.fr.trans hf⟩
theorem L3.next {w2 wr w4 w5 : World} {gv gv' vf : Value} {M : List MV} {G D : List ME} {j : Nat} {e : ME} (h : L3 w2 wr gv vf M G D j) (he : M[j]? = some e.m) (hf : Fr none_ wr w4) (hh : Held w4 e) (hn : Apart e.n (fun c => c < wr.heap.size)) (hq : Apart e.q (fun c => c < wr.heap.size))
    (h1 : w5.ownsRow w2.heap.size 31 27 gv' ((G ++ D).length + 1) (ecells (G ++ D) ++ e.cells.toList)) (h2 : w4.grownBy w5 gv.ownBlock) (h3 : gv'.ownBlock = gv.ownBlock ∨ gv'.ownBlock = some w4.heap.size) : L3 w2 w5 gv' vf M G (D ++ [e]) (j + 1) := by
  refine ⟨?_, ?_, (h.strs.fr hf (fun _ _ _ _ _ x => x)).fr (grown_fr h2) h.away, apart_or h.away (h.strs.fr hf (fun _ _ _ _ _ x => x)).apart h3, (h.fr.trans hf).trans_ (grown_fr h2) (fun c hc hl => by have := own_ge h.row.own hc; omega)⟩
  · rw [← List.append_assoc]
    exact (h.row.fr0 hf).snoc hh (fun a n c e hk hb => hn a n c e hk (h.row.lt hb)) (fun a n c e hk hb => hq a n c e hk (h.row.lt hb)) h1 h2 h3
  · obtain ⟨hj, he⟩ := List.getElem?_eq_some_iff.1 he
    rw [List.map_append, h.got, List.take_succ_eq_append_getElem hj, he]
    rfl
theorem L3.done {ms M : List MV} {nc n : Nat} {w2 wr w3 : World} {gv gv' vf : Value} {rest s left : ByteArray} {G D : List ME} {k : Nat} (h : L2 ms nc w2 w3 gv rest s G k) (h3 : L3 w2 wr gv' vf M G D M.length)
    (hM : M = (ms.drop G.length).take M.length) (hc : Cut ms (G.length + M.length) left (s.extract n s.size)) (hl : nc ≤ k → M = ms.drop G.length ∧ left = ⟨#[]⟩) :
    L2 ms nc w2 wr gv' left (s.extract n s.size) (G ++ D) (k + 1) := by
  have hD : D.length = M.length := by
    have := congrArg List.length h3.got
    simpa using this
  have hg : D.map (·.m) = M := by rw [h3.got, List.take_of_length_le (Nat.le_refl _)]
  refine ⟨h3.row, ?_, by rw [List.length_append, hD]; exact hc, h3.fr, fun hk => ?_⟩
  · rw [List.map_append, h.got, hg, List.length_append, hD, List.take_add, ← hM]
  · obtain ⟨a, b⟩ := hl (by omega)
    refine ⟨?_, b⟩
    have h1 := congrArg List.length a
    have h2 := congrArg List.length h.got
    simp at h1 h2
    rw [List.length_append, hD]
    omega
end Go.Proofs.YtggkebngkkddhaaDoor
