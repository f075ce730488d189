/- Plain law: what Encode writes, Decode reads: the reading. -/
import Derived.Test.YtggkebngkkddhaaDoorP2
namespace Go.Proofs.YtggkebngkkddhaaDoor
open Go.RowKit

/-- An input that is at l, and nothing is wrong. -/
structure At (i : IS) (l : List UInt8) : Prop where
  e : i.e = 0
  bad : i.bad = false
  over : i.over = false
  cut : i.cut = false
  a0 : 0 ≤ i.a
  a1 : i.a ≤ i.s.size
  rest : (bs i.s).drop i.a.toNat = l
def Reads {α : Type} (f : IS → α × IS) (v : α) (l : List UInt8) : Prop := ∀ i r, At i (l ++ r) → (f i).1 = v ∧ At (f i).2 r

theorem At.len {i : IS} {l : List UInt8} (h : At i l) : (l.length : Int) = i.s.size - i.a := by
  have h1 := congrArg List.length h.rest
  rw [List.length_drop, bs_length] at h1
  have := h.a0
  have := h.a1
  omega
theorem At.take {i : IS} {l r : List UInt8} (h : At i (l ++ r)) : bs (i.s.extract i.a.toNat (i.a + l.length).toNat) = l := by
  have := h.a0
  rw [bs_extract, List.drop_take, h.rest]
  have e : (i.a + l.length).toNat - i.a.toNat = l.length := by omega
  rw [e, List.take_left']
  rfl
theorem At.step {i : IS} {l r : List UInt8} (h : At i (l ++ r)) (j : IS) (h1 : j.s = i.s) (h2 : j.a = i.a + l.length) (h3 : j.e = 0) (h4 : j.bad = false) (h5 : j.over = false) (h6 : j.cut = false) : At j r := by
  have hl := h.len
  rw [List.length_append] at hl
  have := h.a0
  refine ⟨h3, h4, h5, h6, by rw [h2]; omega, by rw [h1, h2]; omega, ?_⟩
  rw [h1, h2]
  have e : (i.a + l.length).toNat = i.a.toNat + l.length := by omega
  rw [e, ← List.drop_drop, h.rest, List.drop_left']
  rfl
theorem reads_num (n : Int) (k : Nat) (h : fitsB n k = true) : Reads (fun i => i.num k) n (leB n k) := by
  intro i r hA
  have hl := hA.len
  rw [List.length_append, leB_length] at hl
  have hk : (k : Int) ≤ i.s.size - i.a := by omega
  have ht := hA.take
  rw [leB_length] at ht
  have hv : numAt i.s i.a k = n := by
    unfold numAt
    show ((leVal (bs (i.s.extract i.a.toNat (i.a + (k : Int)).toNat)) : Nat) : Int) = n
    rw [ht]
    exact leVal_fits n k h
  have he : rdNum i.s i.a i.e k = (n, 0, i.a + k, 0) := by
    unfold rdNum
    rw [hA.e]
    simp only [ne_eq, not_true_eq_false, if_false, if_pos hk, hv]
  have hd : i.num k = ((rdNum i.s i.a i.e k).1, { i with a := (rdNum i.s i.a i.e k).2.2.1, e := (rdNum i.s i.a i.e k).2.2.2, cut := i.cut || (rdNum i.s i.a i.e k).2.1 != 0 }) := rfl
  rw [he] at hd
  show (i.num k).1 = n ∧ At (i.num k).2 r
  rw [hd]
  exact ⟨rfl, hA.step _ rfl (by rw [leB_length]) rfl hA.bad hA.over (by show (i.cut || (0 : Int) != 0) = false; rw [hA.cut]; rfl)⟩

theorem reads_raw (s : ByteArray) : Reads (fun i => i.raw s.size) s (bs s) := by
  intro i r hA
  have hl := hA.len
  rw [List.length_append, bs_length] at hl
  have hk : (s.size : Int) ≤ i.s.size - i.a := by omega
  have ht := hA.take
  rw [bs_length] at ht
  have hv := bs_inj ht
  have he : rdRaw i.s i.a i.e s.size = (s, 0, i.a + s.size, 0) := by
    unfold rdRaw
    rw [hA.e]
    simp only [ne_eq, not_true_eq_false, if_false, if_pos hk, hv]
  have hd : i.raw s.size = ((rdRaw i.s i.a i.e s.size).1, { i with a := (rdRaw i.s i.a i.e s.size).2.2.1, e := (rdRaw i.s i.a i.e s.size).2.2.2, cut := i.cut || (rdRaw i.s i.a i.e s.size).2.1 != 0 }) := rfl
  rw [he] at hd
  show (i.raw s.size).1 = s ∧ At (i.raw s.size).2 r
  rw [hd]
  exact ⟨rfl, hA.step _ rfl (by rw [bs_length]) rfl hA.bad hA.over (by show (i.cut || (0 : Int) != 0) = false; rw [hA.cut]; rfl)⟩
theorem reads_sized (s : ByteArray) (k : Nat) (h : fitsB s.size k = true) : Reads (fun i => i.sized k) s (encT s k) := by
  intro i r hA
  unfold encT at hA
  rw [List.append_assoc] at hA
  obtain ⟨h1, h2⟩ := reads_num s.size k h i _ hA
  have h1 : (i.num k).1 = s.size := h1
  show ((i.num k).2.raw (i.num k).1).1 = s ∧ At ((i.num k).2.raw (i.num k).1).2 r
  rw [h1]
  exact reads_raw s _ r h2
theorem wrap_long (n : Int) (h0 : -1 ≤ n) (h1 : n ≤ 9223372036854775807) : wrap64 (leVal (leB n 8)) = n := by
  rcases Int.lt_or_le n 0 with hn | hn
  · obtain rfl : n = -1 := by omega
    have : leVal (leB (-1) 8) = 18446744073709551615 := by decide
    rw [this]
    unfold wrap64
    omega
  · obtain ⟨N, rfl⟩ := Int.eq_ofNat_of_zero_le hn
    rw [leVal_leB, Nat.mod_eq_of_lt (by omega)]
    unfold wrap64
    omega
theorem reads_least (n m : Int) (hm : -1 ≤ m) (h : m ≤ n) (h1 : n ≤ 9223372036854775807) : Reads (fun i => i.least m) n (leB n 8) := by
  intro i r hA
  have hl := hA.len
  rw [List.length_append, leB_length] at hl
  have hk : (8 : Int) ≤ i.s.size - i.a := by omega
  have ht := hA.take
  rw [leB_length] at ht
  have hv : wrap64 (numAt i.s i.a 8) = n := by
    have e : numAt i.s i.a 8 = (leVal (leB n 8) : Nat) := by
      unfold numAt
      show ((leVal (bs (i.s.extract i.a.toNat (i.a + (8 : Int)).toNat)) : Nat) : Int) = _
      have ht2 : bs (i.s.extract i.a.toNat (i.a + (8 : Int)).toNat) = leB n 8 := ht
      rw [ht2]
    rw [e]
    exact wrap_long n (by omega) h1
  have he : rdLong i.s i.a i.e = (n, 0, i.a + 8, 0) := by
    unfold rdLong
    rw [hA.e]
    simp only [ne_eq, not_true_eq_false, if_false, if_pos hk, hv]
  have hd : i.least m = ((rdLong i.s i.a i.e).1, { i with a := (rdLong i.s i.a i.e).2.2.1, e := (rdLong i.s i.a i.e).2.2.2, bad := i.bad || decide ((rdLong i.s i.a i.e).1 < m), cut := i.cut || (rdLong i.s i.a i.e).2.1 != 0 }) := rfl
  rw [he] at hd
  show (i.least m).1 = n ∧ At (i.least m).2 r
  rw [hd]
  exact ⟨rfl, hA.step _ rfl (by rw [leB_length]; rfl) rfl (by show (i.bad || decide (n < m)) = false; rw [hA.bad, decide_eq_false (by omega)]; rfl) hA.over (by show (i.cut || (0 : Int) != 0) = false; rw [hA.cut]; rfl)⟩
theorem reads_mode (n : Int) (h : -1 ≤ n ∧ n < 4294967295) : Reads IS.mode n (leB (modeN n) 4) := by
  intro i r hA
  have hf : fitsB (modeN n) 4 = true := decide_eq_true (by unfold modeN; split <;> omega)
  obtain ⟨h1, h2⟩ := reads_num (modeN n) 4 hf i r hA
  have h1 : (i.num 4).1 = modeN n := h1
  show (if (i.num 4).1 = 4294967295 then -1 else (i.num 4).1) = n ∧ At (i.num 4).2 r
  refine ⟨?_, h2⟩
  rw [h1]
  unfold modeN
  by_cases hn : n = -1
  · rw [if_pos hn, if_pos rfl, hn]
  · rw [if_neg hn, if_neg (by omega)]

theorem Reads.at {α : Type} {f : IS → α × IS} {v : α} {l : List UInt8} (h : Reads f v l) {i : IS} {r : List UInt8} (hA : At i (l ++ r)) : (f i).1 = v ∧ At (f i).2 r := h i r hA
theorem reads_qid (q : QV) (h : okQ q) (hr : q.p ≤ 9223372036854775807) : Reads IS.qid q (encQ q) := by
  intro i r hA
  unfold encQ at hA
  simp only [List.append_assoc] at hA
  obtain ⟨a1, a2⟩ := reads_num q.k 1 h.1.1 i _ hA
  obtain ⟨b1, b2⟩ := reads_num q.v 4 h.1.2 _ _ a2
  obtain ⟨c1, c2⟩ := reads_least q.p 0 (by omega) h.2 hr _ _ b2
  refine ⟨?_, c2⟩
  show (QV.mk (i.num 1).1 ((i.num 1).2.num 4).1 (((i.num 1).2.num 4).2.least 0).1) = q
  have a1 : (i.num 1).1 = q.k := a1
  have b1 : ((i.num 1).2.num 4).1 = q.v := b1
  have c1 : (((i.num 1).2.num 4).2.least 0).1 = q.p := c1
  rw [a1, b1, c1]
structure DV.Lo (d : DV) : Prop where
  p : d.q.p ≤ 9223372036854775807
  time : d.time ≤ 9223372036854775807
  len : d.len ≤ 9223372036854775807
theorem reads_body (d d0 : DV) (h : okBody d) (hr : d.Lo) : Reads (fun i => i.body d0) d (encBody d) := by
  intro i r hA
  unfold encBody at hA
  simp only [List.append_assoc] at hA
  obtain ⟨⟨⟨⟨⟨⟨⟨hq, hm⟩, ht⟩, hl⟩, h1⟩, h2⟩, h3⟩, h4⟩ := h
  obtain ⟨a1, a2⟩ := reads_qid d.q hq hr.p i _ hA
  obtain ⟨b1, b2⟩ := reads_mode d.mode hm _ _ a2
  obtain ⟨c1, c2⟩ := reads_least d.time (-1) (by omega) ht hr.time _ _ b2
  obtain ⟨e1, e2⟩ := reads_least d.len (-1) (by omega) hl hr.len _ _ c2
  obtain ⟨f1, f2⟩ := reads_sized d.name 2 h1 _ _ e2
  obtain ⟨g1, g2⟩ := reads_sized d.owner 2 h2 _ _ f2
  obtain ⟨k1, k2⟩ := reads_sized d.group 2 h3 _ _ g2
  obtain ⟨l1, l2⟩ := reads_sized d.last 2 h4 _ _ k2
  refine ⟨?_, l2⟩
  show DV.mk _ _ _ _ _ _ _ _ = d
  rcases d with ⟨q, mode, time, len, n1, n2, n3, n4⟩
  simp only at a1 b1 c1 e1 f1 g1 k1 l1
  exact congr (congr (congr (congr (congr (congr (congr (congrArg DV.mk a1) b1) c1) e1) f1) g1) k1) l1

theorem At.finish {i : IS} (h : At i []) : i.finish.bad = false ∧ i.finish.cut = false ∧ i.finish.over = false := by
  have hl := h.len
  simp only [List.length_nil] at hl
  have hlt : ¬ i.a < i.s.size := by omega
  unfold IS.finish
  refine ⟨h.bad, ?_, h.over⟩
  show ((if i.e ≠ 0 then true else decide (i.a < i.s.size)) || i.cut) = false
  rw [h.e, h.cut]
  simp only [ne_eq, not_true_eq_false, if_false, Bool.or_false]
  exact decide_eq_false hlt
theorem at_new (s : ByteArray) : At (IS.mk s 0 0 false false false) (bs s) := ⟨rfl, rfl, rfl, rfl, by show (0 : Int) ≤ 0; omega, by show (0 : Int) ≤ _; omega, by show (bs s).drop 0 = bs s; rfl⟩
theorem dirR_parts (i : IS) (d : DV) : i.dir d = (((IS.mk (i.sized 2).1 0 0 false false false).body d).1, { (i.sized 2).2 with
    bad := (i.sized 2).2.bad || ((IS.mk (i.sized 2).1 0 0 false false false).body d).2.finish.bad, cut := (i.sized 2).2.cut || ((IS.mk (i.sized 2).1 0 0 false false false).body d).2.finish.cut,
    over := (i.sized 2).2.over || ((IS.mk (i.sized 2).1 0 0 false false false).body d).2.finish.over || decide (1022 < (i.sized 2).1.size) }) := rfl
theorem reads_dir (d d0 : DV) (h : okBody d) (hr : d.Lo) (hf : fitsB (encBody d).length 2 = true) (hl : (encBody d).length ≤ 1022) : Reads (fun i => i.dir d0) d (encT ⟨(encBody d).toArray⟩ 2) := by
  intro i r hA
  have hsz : (⟨(encBody d).toArray⟩ : ByteArray).size = (encBody d).length := by show (encBody d).toArray.size = _; exact List.size_toArray
  obtain ⟨h1, h2⟩ := reads_sized ⟨(encBody d).toArray⟩ 2 (by rw [hsz]; exact hf) i r hA
  have h1 : (i.sized 2).1 = ⟨(encBody d).toArray⟩ := h1
  have h2 : At (i.sized 2).2 r := h2
  have hN := at_new ⟨(encBody d).toArray⟩
  rw [bs_mk] at hN
  have hN : At (IS.mk ⟨(encBody d).toArray⟩ 0 0 false false false) (encBody d ++ []) := by rw [List.append_nil]; exact hN
  obtain ⟨g1, g2⟩ := reads_body d d0 h hr _ _ hN
  obtain ⟨f1, f2, f3⟩ := At.finish g2
  show (i.dir d0).1 = d ∧ At (i.dir d0).2 r
  rw [dirR_parts, h1]
  generalize (i.sized 2).2 = j at h2 ⊢
  have g1 : ((IS.mk ⟨(encBody d).toArray⟩ 0 0 false false false).body d0).1 = d := g1
  have f1 : ((IS.mk ⟨(encBody d).toArray⟩ 0 0 false false false).body d0).2.finish.bad = false := f1
  have f2 : ((IS.mk ⟨(encBody d).toArray⟩ 0 0 false false false).body d0).2.finish.cut = false := f2
  have f3 : ((IS.mk ⟨(encBody d).toArray⟩ 0 0 false false false).body d0).2.finish.over = false := f3
  rw [g1, f1, f2, f3, hsz]
  refine ⟨rfl, ⟨h2.e, ?_, ?_, ?_, h2.a0, h2.a1, h2.rest⟩⟩
  · show (j.bad || false) = false; rw [h2.bad]; rfl
  · show (j.over || false || decide (1022 < (encBody d).length)) = false; rw [h2.over, decide_eq_false (by omega)]; rfl
  · show (j.cut || false) = false; rw [h2.cut]; rfl
theorem reads_count (n : Nat) (h : n ≤ 16) : Reads IS.count (n : Int) (leB n 2) := by
  intro i r hA
  obtain ⟨h1, h2⟩ := reads_num (n : Int) 2 (decide_eq_true (by omega)) i r hA
  have h1 : (i.num 2).1 = n := h1
  have h2 : At (i.num 2).2 r := h2
  show (i.num 2).1 = n ∧ At { (i.num 2).2 with over := (i.num 2).2.over || decide (16 < (i.num 2).1) } r
  rw [h1]
  refine ⟨rfl, ⟨h2.e, h2.bad, ?_, h2.cut, h2.a0, h2.a1, h2.rest⟩⟩
  show ((i.num 2).2.over || decide ((16 : Int) < n)) = false
  rw [h2.over, decide_eq_false (by omega)]
  rfl
theorem reads_namesL : ∀ (l : List ByteArray), (∀ s ∈ l, fitsB s.size 2 = true) → ∀ (acc : List ByteArray) (i : IS) (r : List UInt8), At i (l.flatMap (fun s => encT s 2) ++ r) → (IS.namesL l.length i acc).1 = acc ++ l ∧ At (IS.namesL l.length i acc).2 r
  | [], _, acc, i, r, hA => by simp only [List.length_nil, IS.namesL, List.append_nil]; exact ⟨trivial, by simpa using hA⟩
  | s :: l, h, acc, i, r, hA => by
    rw [List.flatMap_cons, List.append_assoc] at hA
    obtain ⟨h1, h2⟩ := reads_sized s 2 (h s List.mem_cons_self) i _ hA
    have h1 : (i.sized 2).1 = s := h1
    have ih := reads_namesL l (fun x hx => h x (List.mem_cons_of_mem _ hx)) (acc ++ [s]) _ r h2
    simp only [List.length_cons, IS.namesL]
    rw [if_neg (by rw [hA.cut]; decide), h1]
    have h3 : (IS.namesL l.length (i.sized 2).2 (acc ++ [s])).1 = acc ++ [s] ++ l ∧ At (IS.namesL l.length (i.sized 2).2 (acc ++ [s])).2 r := ih
    rw [h3.1]
    exact ⟨by simp, h3.2⟩
theorem reads_names (l : List ByteArray) (hn : l.length ≤ 16) (h : ∀ s ∈ l, fitsB s.size 2 = true) : Reads IS.names l (encN l) := by
  intro i r hA
  unfold encN at hA
  rw [List.append_assoc] at hA
  obtain ⟨h1, h2⟩ := reads_count l.length hn i _ hA
  have h3 := reads_namesL l h [] _ r h2
  unfold IS.names
  rw [h1, show ((l.length : Int)).toNat = l.length from by omega]
  exact ⟨by rw [h3.1]; rfl, h3.2⟩
theorem reads_qidsL : ∀ (l : List QV), (∀ q ∈ l, okQ q ∧ q.p ≤ 9223372036854775807) → ∀ (acc : List QV) (i : IS) (r : List UInt8), At i (l.flatMap encQ ++ r) → (IS.qidsL l.length i acc).1 = acc ++ l ∧ At (IS.qidsL l.length i acc).2 r
  | [], _, acc, i, r, hA => by simp only [List.length_nil, IS.qidsL, List.append_nil]; exact ⟨trivial, by simpa using hA⟩
  | s :: l, h, acc, i, r, hA => by
    rw [List.flatMap_cons, List.append_assoc] at hA
    obtain ⟨h1, h2⟩ := reads_qid s (h s List.mem_cons_self).1 (h s List.mem_cons_self).2 i _ hA
    have ih := reads_qidsL l (fun x hx => h x (List.mem_cons_of_mem _ hx)) (acc ++ [s]) _ r h2
    simp only [List.length_cons, IS.qidsL]
    rw [if_neg (by rw [hA.cut]; decide), h1, ih.1]
    exact ⟨by simp, ih.2⟩
theorem reads_qids (l : List QV) (hn : l.length ≤ 16) (h : ∀ q ∈ l, okQ q ∧ q.p ≤ 9223372036854775807) : Reads IS.qids l (encQs l) := by
  intro i r hA
  unfold encQs at hA
  rw [List.append_assoc] at hA
  obtain ⟨h1, h2⟩ := reads_count l.length hn i _ hA
  have h3 := reads_qidsL l h [] _ r h2
  unfold IS.qids
  rw [h1, show ((l.length : Int)).toNat = l.length from by omega]
  exact ⟨by rw [h3.1]; rfl, h3.2⟩
end Go.Proofs.YtggkebngkkddhaaDoor
