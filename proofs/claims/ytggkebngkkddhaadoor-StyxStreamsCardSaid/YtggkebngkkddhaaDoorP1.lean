/- Plain laws: bytes of numbers, frames of a stream. -/
import Derived.Test.YtggkebngkkddhaaDoorF3
namespace Go.Proofs.YtggkebngkkddhaaDoor

theorem leVal_leB (N : Nat) : ∀ k : Nat, leVal (leB (N : Int) k) = N % 2 ^ (8 * k)
  | 0 => by simp [leB, leVal, Nat.mod_one]
  | k + 1 => by
    have ih := leVal_leB N k
    have e0 : ((N : Int) / 2 ^ (8 * k) % 256).toNat = N / 2 ^ (8 * k) % 256 := by
      have : ((N : Int) / 2 ^ (8 * k) % 256) = ((N / 2 ^ (8 * k) % 256 : Nat) : Int) := by rw [Int.natCast_emod, Int.natCast_ediv, Int.natCast_pow]; rfl
      rw [this]; rfl
    unfold leB
    rw [leVal_append, leB_length, ih, e0]
    have hb : N / 2 ^ (8 * k) % 256 < 256 := by omega
    have e : leVal [UInt8.ofNat (N / 2 ^ (8 * k) % 256)] = N / 2 ^ (8 * k) % 256 := by
      simp only [leVal, Nat.mul_zero, Nat.add_zero]
      exact UInt8.toNat_ofNat_of_lt' hb
    rw [e, show 2 ^ (8 * (k + 1)) = 2 ^ (8 * k) * 256 by rw [Nat.mul_add, Nat.pow_add], Nat.mod_mul]
theorem leVal_fits (n : Int) (k : Nat) (h : fitsB n k = true) : (leVal (leB n k) : Int) = n := by
  have h1 := fits_yes h
  obtain ⟨N, rfl⟩ := Int.eq_ofNat_of_zero_le h1.1
  have h2 : N < 2 ^ (8 * k) := by exact_mod_cast h1.2
  rw [leVal_leB, Nat.mod_eq_of_lt h2]

/-- The bytes of a string. -/
def bs (s : ByteArray) : List UInt8 := s.data.toList
theorem bs_length (s : ByteArray) : (bs s).length = s.size := by simp [bs]
theorem bs_mk (l : List UInt8) : bs ⟨l.toArray⟩ = l := by simp [bs]
theorem bs_inj {s t : ByteArray} (h : bs s = bs t) : s = t := by
  cases s; cases t
  congr
  exact Array.toList_inj.1 h
theorem bs_append (s t : ByteArray) : bs (s ++ t) = bs s ++ bs t := by simp [bs, ByteArray.data_append]
theorem bs_extract (s : ByteArray) (i j : Nat) : bs (s.extract i j) = ((bs s).take j).drop i := by
  show (s.extract i j).data.toList = _
  rw [ByteArray.data_extract, Array.toList_extract, List.drop_take]
  rfl

def lenL (l : List UInt8) : Int := if 4 ≤ l.length then (leVal (l.take 4) : Int) else 0
theorem lenOf_eq (s : ByteArray) : lenOf s = lenL (bs s) := by
  unfold lenOf rdNum lenL
  rw [bs_length]
  by_cases h : 4 ≤ s.size
  · have h' : (4 : Int) ≤ (s.size : Int) - 0 := by omega
    rw [if_pos h]
    simp only [ne_eq, not_true_eq_false, if_false, h', if_true]
    unfold numAt
    have := bs_extract s 0 4
    simp only [List.drop_zero] at this
    show ((leVal (bs (s.extract 0 4)) : Nat) : Int) = _
    rw [this]
  · have h' : ¬ (4 : Int) ≤ (s.size : Int) - 0 := by omega
    rw [if_neg h]
    simp only [ne_eq, not_true_eq_false, if_false, h']

/-- An encoding: its first four bytes say how long it is. -/
structure EncOk (e : ByteArray) : Prop where
  lo : 7 ≤ e.size
  hi : e.size ≤ 8192
  len : lenL (bs e) = e.size

theorem frames_prefix : ∀ (es : List ByteArray), (∀ e ∈ es, EncOk e) → ∀ (fuel : Nat) (y : ByteArray) (z : List UInt8) (acc : List ByteArray), y.size < fuel → bs y ++ z = es.flatMap bs →
    ∃ k left, framesL fuel y acc = (acc ++ es.take k, left, 0) ∧ bs left ++ z = (es.drop k).flatMap bs ∧ (z = [] → es.drop k = [] ∧ left = ⟨#[]⟩)
  | [], _, fuel, y, z, acc, hf, h => by
    have hy : bs y = [] ∧ z = [] := by simpa using h
    have h0 : y = ⟨#[]⟩ := bs_inj (by rw [hy.1]; rfl)
    subst h0
    obtain ⟨f, rfl⟩ : ∃ f, fuel = f + 1 := ⟨fuel - 1, by omega⟩
    refine ⟨0, ⟨#[]⟩, ?_, by simpa using h, fun _ => ⟨rfl, rfl⟩⟩
    unfold framesL
    rw [if_pos (show (⟨#[]⟩ : ByteArray).size < 4 by decide)]
    simp
  | e :: es, hes, fuel, y, z, acc, hf, h => by
    obtain ⟨f, rfl⟩ : ∃ f, fuel = f + 1 := ⟨fuel - 1, by omega⟩
    have he := hes e List.mem_cons_self
    have hes' : ∀ x ∈ es, EncOk x := fun x hx => hes x (List.mem_cons_of_mem _ hx)
    rw [List.flatMap_cons] at h
    have hlen := congrArg List.length h
    simp only [List.length_append, bs_length] at hlen
    have stop : y.size < e.size → ∃ k left, (acc, y, (0 : Int)) = (acc ++ (e :: es).take k, left, 0) ∧ bs left ++ z = ((e :: es).drop k).flatMap bs ∧ (z = [] → (e :: es).drop k = [] ∧ left = ⟨#[]⟩) := fun hlt =>
      ⟨0, y, by simp, by rw [List.drop_zero, List.flatMap_cons]; exact h, fun hz => by rw [hz] at hlen; simp at hlen; omega⟩
    unfold framesL
    by_cases h4 : y.size < 4
    · rw [if_pos h4]
      exact stop (by have := he.lo; omega)
    · rw [if_neg h4]
      have hl : lenOf y = e.size := by
        rw [lenOf_eq, ← he.len]
        unfold lenL
        rw [if_pos (by rw [bs_length]; omega), if_pos (by rw [bs_length]; have := he.lo; omega)]
        have h1 : (bs y ++ z).take 4 = (bs y).take 4 := by rw [List.take_append_of_le_length (by rw [bs_length]; omega)]
        have h2 : (bs e ++ es.flatMap bs).take 4 = (bs e).take 4 := by rw [List.take_append_of_le_length (by rw [bs_length]; have := he.lo; omega)]
        rw [← h1, h, h2]
      have h5 := he.lo
      have h6 := he.hi
      rw [hl, if_neg (by omega), if_neg (by omega)]
      by_cases hlt : (y.size : Int) < e.size
      · rw [if_pos hlt]
        exact stop (by omega)
      · rw [if_neg hlt]
        have hn : (e.size : Int).toNat = e.size := by omega
        rw [hn]
        have hfst : y.extract 0 e.size = e := by
          apply bs_inj
          rw [bs_extract, List.drop_zero]
          have h1 : (bs y ++ z).take e.size = (bs y).take e.size := by rw [List.take_append_of_le_length (by rw [bs_length]; omega)]
          rw [← h1, h, List.take_append_of_le_length (by rw [bs_length]; exact Nat.le_refl _), List.take_of_length_le (by rw [bs_length]; exact Nat.le_refl _)]
        have hrest : bs (y.extract e.size y.size) ++ z = es.flatMap bs := by
          rw [bs_extract, List.take_of_length_le (by rw [bs_length]; exact Nat.le_refl _)]
          have h1 : (bs y ++ z).drop e.size = (bs y).drop e.size ++ z := by rw [List.drop_append_of_le_length (by rw [bs_length]; omega)]
          rw [← h1, h, List.drop_append_of_le_length (by rw [bs_length]; exact Nat.le_refl _), List.drop_of_length_le (by rw [bs_length]; exact Nat.le_refl _)]
          rfl
        rw [hfst]
        obtain ⟨k, left, hk, hk2, hk3⟩ := frames_prefix es hes' f (y.extract e.size y.size) z (acc ++ [e]) (by rw [ByteArray.size_extract]; omega) hrest
        exact ⟨k + 1, left, by rw [hk]; simp, by simpa using hk2, fun hz => by simpa using hk3 hz⟩
theorem frames_cut (es : List ByteArray) (hes : ∀ e ∈ es, EncOk e) (y : ByteArray) (z : List UInt8) (h : bs y ++ z = es.flatMap bs) :
    ∃ k left, frames y = (es.take k, left, 0) ∧ bs left ++ z = (es.drop k).flatMap bs ∧ (z = [] → es.drop k = [] ∧ left = ⟨#[]⟩) := by
  obtain ⟨k, left, h1, h2, h3⟩ := frames_prefix es hes (y.size + 1) y z [] (by omega) h
  exact ⟨k, left, by unfold frames; rw [h1]; simp, h2, h3⟩
end Go.Proofs.YtggkebngkkddhaaDoor
