/- A region that draws its order, whose first operations only read or call quietly, and whose other operations wait for all of them: the first ones are walked once, in the order of the text; of the others every order is left. -/
import Derived.StillTail
import Derived.StillTailTactics
import Derived.RegionTactic
namespace Go.Proofs.YtggkebngkkddhaaDoor
open Go

def dstOf (ops : Array Oper) (i : Nat) : Option Tmp := (ops[i]?).bind (·.dst)
def waits (md : Region.Mode) (o : Oper) (i : Nat) : Bool := o.after.any fun e => Region.binds md e && e.on == i
theorem waits_spec {md : Region.Mode} {o : Oper} {i : Nat} (h : waits md o i = true) : ∃ e ∈ o.after, Region.binds md e = true ∧ e.on = i := by
  obtain ⟨e, he, hb⟩ := Array.any_eq_true'.1 h
  simp only [Bool.and_eq_true, beq_iff_eq] at hb
  exact ⟨e, he, hb.1, hb.2⟩

def headOpB (md : Region.Mode) (ops : Array Oper) (n i : Nat) (o : Oper) : Bool :=
  o.dst.isSome && o.after.all (fun e => !Region.binds md e || decide (e.on < i)) &&
  (List.range n).all fun j => (j == i || dstOf ops j != o.dst) && match dstOf ops j with
    | some d => !(o.looksAt ops).contains d || waits md o j
    | none => true
def headB (md : Region.Mode) (ops : Array Oper) (n : Nat) : Bool :=
  Region.noSelect ops && decide (n ≤ ops.size) &&
  ((List.range n).all fun i => match ops[i]? with
    | some o => headOpB md ops n i o
    | none => false) &&
  (List.range ops.size).all fun t => decide (t < n) || (List.range n).all fun i => match ops[t]? with
    | some o => waits md o i
    | none => false

structure HeadOp (md : Region.Mode) (ops : Array Oper) (n i : Nat) (o : Oper) (d : Tmp) : Prop where
  dst : o.dst = some d
  low : ∀ e ∈ o.after, Region.binds md e = true → e.on < i
  ne : ∀ j, j < n → j ≠ i → dstOf ops j ≠ some d
  dep : ∀ j t, j < n → dstOf ops j = some t → t ∈ o.looksAt ops → waits md o j = true
theorem headOp_spec {md : Region.Mode} {ops : Array Oper} {n i : Nat} {o : Oper} (h : headOpB md ops n i o = true) : ∃ d, HeadOp md ops n i o d := by
  simp only [headOpB, Bool.and_eq_true] at h
  obtain ⟨⟨h1, h2⟩, h3⟩ := h
  obtain ⟨d, hd⟩ := Option.isSome_iff_exists.1 h1
  refine ⟨d, hd, fun e he hb => ?_, fun j hj hji => ?_, fun j t hj ht hm => ?_⟩
  · have := Array.all_eq_true'.1 h2 e he
    simpa [hb] using this
  · have := List.all_eq_true.1 h3 j (List.mem_range.2 hj)
    simp only [Bool.and_eq_true, Bool.or_eq_true, beq_iff_eq, bne_iff_ne] at this
    rcases this.1 with e | e
    · exact absurd e hji
    · rw [hd] at e; exact e
  · have := List.all_eq_true.1 h3 j (List.mem_range.2 hj)
    simp only [Bool.and_eq_true, ht] at this
    have h4 := this.2
    simp only [Bool.or_eq_true, Bool.not_eq_true'] at h4
    rcases h4 with e | e
    · have hc : (o.looksAt ops).contains t = true := by simpa using hm
      rw [hc] at e; cases e
    · exact e
structure Head (md : Region.Mode) (ops : Array Oper) (n : Nat) : Prop where
  sel : Region.noSelect ops = true
  le : n ≤ ops.size
  op : ∀ i, i < n → ∃ o d, ops[i]? = some o ∧ HeadOp md ops n i o d
  tail : ∀ t o, n ≤ t → ops[t]? = some o → ∀ i, i < n → waits md o i = true
theorem head_spec {md : Region.Mode} {ops : Array Oper} {n : Nat} (h : headB md ops n = true) : Head md ops n := by
  simp only [headB, Bool.and_eq_true, decide_eq_true_eq] at h
  obtain ⟨⟨⟨h1, h2⟩, h3⟩, h4⟩ := h
  refine ⟨h1, h2, fun i hi => ?_, fun t o ht ho i hi => ?_⟩
  · have := List.all_eq_true.1 h3 i (List.mem_range.2 hi)
    cases ho : ops[i]? with
    | none => rw [ho] at this; cases this
    | some o =>
      rw [ho] at this
      obtain ⟨d, hd⟩ := headOp_spec this
      exact ⟨o, d, rfl, hd⟩
  · have htl : t < ops.size := (Array.getElem?_eq_some_iff.1 ho).1
    have := List.all_eq_true.1 h4 t (List.mem_range.2 htl)
    simp only [Bool.or_eq_true, decide_eq_true_eq] at this
    rcases this with e | e
    · omega
    · have := List.all_eq_true.1 e i (List.mem_range.2 hi)
      rw [ho] at this
      exact this

/-- The slots hold what the listed operations yield, and else what they held at the start. -/
structure Mix (ops : Array Oper) (n : Nat) (a0 : Act) (vals : Nat → Value) (listed : Nat → Prop) (a : Act) : Prop where
  defers : a.defers = a0.defers
  size : a.tmps.size = a0.tmps.size
  yes : ∀ i d, i < n → listed i → dstOf ops i = some d → a.tmps[d]? = if d < a0.tmps.size then some (vals i) else none
  no : ∀ t, (∀ i, i < n → listed i → dstOf ops i ≠ some t) → a.tmps[t]? = a0.tmps[t]?

theorem Mix.put {md : Region.Mode} {ops : Array Oper} {n i : Nat} {o : Oper} {d : Tmp} {a0 a : Act} {vals : Nat → Value} {listed : Nat → Prop} (hd : HeadOp md ops n i o d) (ho : ops[i]? = some o) (hi : i < n)
    (h : Mix ops n a0 vals listed a) : Mix ops n a0 vals (fun j => listed j ∨ j = i) (a.put o.dst (vals i)) := by
  have hdi : dstOf ops i = some d := by simp [dstOf, ho, hd.dst]
  rw [hd.dst]
  refine ⟨h.defers, by simp [Act.put, h.size], fun j e hj hl hje => ?_, fun t ht => ?_⟩
  · by_cases hji : j = i
    · subst hji
      have : e = d := by rw [hdi] at hje; injection hje with hje; exact hje.symm
      subst this
      simp only [Act.put, Array.getElem?_setIfInBounds, h.size]
      simp
    · have hne : e ≠ d := fun x => hd.ne j hj hji (by rw [hje, x])
      simp only [Act.put]
      rw [Array.getElem?_setIfInBounds_ne (Ne.symm hne)]
      exact h.yes j e hj (hl.resolve_right hji) hje
  · have hne : t ≠ d := fun x => ht i hi (.inr rfl) (by rw [hdi, x])
    simp only [Act.put]
    rw [Array.getElem?_setIfInBounds_ne (Ne.symm hne)]
    exact h.no t fun j hj hl => ht j hj (.inl hl)
theorem Mix.same {ops : Array Oper} {n : Nat} {a0 a b : Act} {vals : Nat → Value} {listed : Nat → Prop} (h : Mix ops n a0 vals listed a) (h' : Mix ops n a0 vals listed b) : a = b := by
  have ht : a.tmps = b.tmps := by
    apply Array.ext_getElem?
    intro t
    by_cases hx : ∃ i, i < n ∧ listed i ∧ dstOf ops i = some t
    · obtain ⟨i, hi, hl, hd⟩ := hx
      rw [h.yes i t hi hl hd, h'.yes i t hi hl hd]
    · have : ∀ i, i < n → listed i → dstOf ops i ≠ some t := fun i hi hl hd => hx ⟨i, hi, hl, hd⟩
      rw [h.no t this, h'.no t this]
  cases a; cases b
  simp only at ht
  have hd := h.defers.trans h'.defers.symm
  simp only at hd
  subst ht hd
  rfl
/-- Where all that an operation looks at is listed or no head's, it sees the same slot. -/
theorem Mix.slot {md : Region.Mode} {ops : Array Oper} {n i : Nat} {o : Oper} {d : Tmp} {a0 a b : Act} {vals : Nat → Value} {L M : Nat → Prop} (hd : HeadOp md ops n i o d)
    (h : Mix ops n a0 vals L a) (h' : Mix ops n a0 vals M b) (hL : ∀ j, j < n → waits md o j = true → L j ∧ M j) {t : Tmp} (ht : t ∈ o.looksAt ops) : a.tmps[t]? = b.tmps[t]? := by
  by_cases hx : ∃ j, j < n ∧ dstOf ops j = some t
  · obtain ⟨j, hj, hjt⟩ := hx
    have hw := hL j hj (hd.dep j t hj hjt ht)
    rw [h.yes j t hj hw.1 hjt, h'.yes j t hj hw.2 hjt]
  · rw [h.no t fun j hj _ hjt => hx ⟨j, hj, hjt⟩, h'.no t fun j hj _ hjt => hx ⟨j, hj, hjt⟩]

section
variable {P : Program} {md : Region.Mode} {ops : Array Oper} {w : World}
theorem yields_moved {n i : Nat} {o : Oper} {d : Tmp} {a0 a b : Act} {vals : Nat → Value} {L M : Nat → Prop} {v : Value} (hd : HeadOp md ops n i o d) (hsel : ∀ cs b, o.op ≠ .select cs b)
    (h : Mix ops n a0 vals L a) (h' : Mix ops n a0 vals M b) (hL : ∀ j, j < n → waits md o j = true → L j ∧ M j) (hy : YieldsAt P ops w o v a) : YieldsAt P ops w o v b := by
  refine hy.of_same (execOp_congr o hsel fun x hx => ?_) ?_
  · cases x with
    | tmp t =>
      have := h.slot hd h' hL (t := t) (List.mem_append_left _ (List.mem_filterMap.2 ⟨.tmp t, by simpa using hx, rfl⟩))
      simp only [Act.eval, Array.getD_eq_getD_getElem?, this]
    | _ => rfl
  · unfold Region.wanted
    cases hg : o.guard with
    | none => rfl
    | some gw =>
      obtain ⟨g, want⟩ := gw
      have hy : yielded ops b.tmps g = yielded ops a.tmps g := by
        unfold yielded
        cases ht : (ops[g]?).bind (·.dst) with
        | none => rfl
        | some t =>
          have := h.slot hd h' hL (t := t) (by simp [Oper.looksAt, hg, ht])
          simp only [Option.bind_some, this]
      simp only [hy]

/-- What the head comes to, operation by operation, in the order of the text. -/
theorem still_acts {Lq : Act → Prop} : ∀ (l : List Oper) (k : Nat) (a : Act), (∀ j, j < l.length → l[j]? = ops[k + j]?) → wpStill P ops w Lq l a →
    ∃ (acts : Nat → Act) (vals : Nat → Value), acts k = a ∧ (∀ j, k ≤ j → j < k + l.length → ∃ o, ops[j]? = some o ∧ YieldsAt P ops w o (vals j) (acts j) ∧ acts (j + 1) = (acts j).put o.dst (vals j)) ∧ Lq (acts (k + l.length))
  | [], k, a, _, h => ⟨fun _ => a, fun _ => undef, rfl, fun j h1 h2 => by simp at h2; omega, h⟩
  | o :: l, k, a, hl, h => by
    have h0 : ops[k]? = some o := by simpa using (hl 0 (by simp)).symm
    have hst : stOp P ops w k (wpStill P ops w Lq l) a := by unfold stOp; simp only [h0]; exact h
    obtain ⟨v, hy, hK⟩ := yieldsAt_of_stOp h0 hst
    obtain ⟨acts, vals, h1, h2, h3⟩ := still_acts l (k + 1) (a.put o.dst v) (fun j hj => by have := hl (j + 1) (by simp; omega); simpa [Nat.add_assoc, Nat.add_comm 1 j] using this) hK
    refine ⟨fun j => if j = k then a else acts j, fun j => if j = k then v else vals j, by simp, fun j hj1 hj2 => ?_, ?_⟩
    · by_cases hjk : j = k
      · subst hjk
        refine ⟨o, h0, by simpa using hy, ?_⟩
        simp [h1]
      · obtain ⟨o', ho', hy', hp'⟩ := h2 j (by omega) (by simp at hj2; omega)
        refine ⟨o', ho', by simpa [hjk] using hy', ?_⟩
        have : j + 1 ≠ k := by omega
        simp [hjk, this, hp']
    · have : k + (l.length + 1) ≠ k := by omega
      simp only [List.length_cons, this, if_false]
      rw [show k + (l.length + 1) = k + 1 + l.length by omega]
      exact h3

theorem acts_mix {n : Nat} (hH : Head md ops n) {acts : Nat → Act} {vals : Nat → Value} (h : ∀ j, 0 ≤ j → j < 0 + n → ∃ o, ops[j]? = some o ∧ YieldsAt P ops w o (vals j) (acts j) ∧ acts (j + 1) = (acts j).put o.dst (vals j)) :
    ∀ k, k ≤ n → Mix ops n (acts 0) vals (fun j => j < k) (acts k) := by
  intro k
  induction k with
  | zero => exact fun _ => ⟨rfl, rfl, fun i d _ hl => absurd hl (by omega), fun _ _ => rfl⟩
  | succ k ih =>
    intro hk
    obtain ⟨o, ho, _, hp⟩ := h k (by omega) (by omega)
    obtain ⟨o', d, ho', hd⟩ := hH.op k (by omega)
    rw [ho] at ho'
    injection ho' with e
    subst e
    rw [hp]
    have := (ih (by omega)).put hd ho (by omega)
    refine ⟨this.defers, this.size, fun i e hi hl => this.yes i e hi (by omega), fun t ht => this.no t fun i hi hl => ht i hi (by omega)⟩

def headDone (n m : Nat) : Array Bool := ((List.range m).map fun i => decide (i < n)).toArray
theorem headDone_size (n m : Nat) : (headDone n m).size = m := by simp [headDone]

theorem head_walk {n g : Nat} {Q : Exit → Act → World → Prop} (hH : Head md ops n) {acts : Nat → Act} {vals : Nat → Value} (h : ∀ j, 0 ≤ j → j < 0 + n → ∃ o, ops[j]? = some o ∧ YieldsAt P ops w o (vals j) (acts j) ∧ acts (j + 1) = (acts j).put o.dst (vals j))
    (ht : wpAny P md ops Q g (headDone n ops.size) (acts n) w) : ∀ (U : List Nat) (listed : Array Bool) (a : Act), U.Nodup → listed.size = ops.size → (∀ i, i ∈ U ↔ i < n ∧ listed.getD i false = false) → (∀ t, n ≤ t → listed.getD t false = false) →
    Mix ops n (acts 0) vals (fun j => listed.getD j false = true) a → wpAny P md ops Q (U.length + g) listed a w := by
  intro U
  generalize hu : U.length = u
  induction u generalizing U with
  | zero =>
    intro listed a _ hs hU hT hM
    have hU0 : U = [] := List.eq_nil_of_length_eq_zero hu
    subst hU0
    have e1 : listed = headDone n ops.size := by
      apply Array.ext (by rw [hs, headDone_size])
      intro i h1 h2
      have h3 : listed.getD i false = listed[i] := by simp [h1]
      have h4 : (headDone n ops.size)[i] = decide (i < n) := by simp [headDone]
      rw [h4, ← h3]
      by_cases hi : i < n
      · have : ¬ listed.getD i false = false := fun x => by have := (hU i).2 ⟨hi, x⟩; cases this
        simp only [hi, decide_true]
        cases hb : listed.getD i false
        · exact absurd hb this
        · rfl
      · simp only [hi, decide_false]; exact hT i (by omega)
    have hMn := acts_mix hH h n (Nat.le_refl _)
    have e2 : a = acts n := by
      refine hM.same ⟨hMn.defers, hMn.size, fun i d hi hl hd => hMn.yes i d hi hi hd, fun t ht => hMn.no t fun i hi _ => ht i hi ?_⟩
      cases hb : listed.getD i false
      · have := (hU i).2 ⟨hi, hb⟩; cases this
      · rfl
    rw [Nat.zero_add, e1, e2]
    exact ht
  | succ u ih =>
    intro listed a hnd hs hU hT hM
    have hnot : ∀ i, i ∈ Region.ready md ops listed → i ∈ U := by
      intro i hi
      obtain ⟨hun, o, ho, hall⟩ := mem_ready.1 hi
      have hun2 : listed.getD i false = false := by
        have hil : i < listed.size := by rw [hs]; exact (Array.getElem?_eq_some_iff.1 ho).1
        simp [hil] at hun ⊢
        exact hun
      refine (hU i).2 ⟨?_, hun2⟩
      rcases Nat.lt_or_ge i n with hlt | hge
      · exact hlt
      · exfalso
        obtain ⟨i0, hi0⟩ : ∃ i0, i0 ∈ U := by
          cases U with
          | nil => simp at hu
          | cons x _ => exact ⟨x, by simp⟩
        obtain ⟨hlt0, hun0⟩ := (hU i0).1 hi0
        obtain ⟨e, he, hb, hon⟩ := waits_spec (hH.tail i o hge ho i0 hlt0)
        have := hall e he hb
        rw [hon, hun0] at this
        cases this
    rw [show u + 1 + g = (u + g) + 1 by omega]
    refine ⟨fun h0 => ?_, fun i hi => ?_⟩
    · exfalso
      -- the least one that is not listed is ready
      have hex : ∃ i, i ∈ U := by
        cases U with
        | nil => simp at hu
        | cons x _ => exact ⟨x, by simp⟩
      have key : ∀ i, i ∈ U → False := by
        intro i
        induction i using Nat.strongRecOn with
        | _ i ihi =>
          intro hiU
          obtain ⟨hlt, hun⟩ := (hU i).1 hiU
          obtain ⟨o, d, ho, hd⟩ := hH.op i hlt
          have hil : i < listed.size := by rw [hs]; exact (Array.getElem?_eq_some_iff.1 ho).1
          have : i ∈ Region.ready md ops listed := by
            refine mem_ready.2 ⟨by simp [hil] at hun ⊢; exact hun, o, ho, fun e he hb => ?_⟩
            have hle := hd.low e he hb
            cases hb2 : listed.getD e.on false
            · exact (ihi e.on hle ((hU e.on).2 ⟨by omega, hb2⟩)).elim
            · rfl
          rw [h0] at this
          cases this
      obtain ⟨i, hi⟩ := hex
      exact key i hi
    · have hiU := hnot i hi
      obtain ⟨hlt, hun⟩ := (hU i).1 hiU
      obtain ⟨o, d, ho, hd⟩ := hH.op i hlt
      obtain ⟨o', ho', hy, hp⟩ := h i (by omega) (by omega)
      have eo : o' = o := Option.some.inj (ho'.symm.trans ho)
      subst eo
      obtain ⟨_, o2, ho2, hall⟩ := mem_ready.1 hi
      have eo2 : o2 = o' := Option.some.inj (ho2.symm.trans ho)
      subst eo2
      have hMi := acts_mix hH h i (by omega)
      have hy2 : YieldsAt P ops w o2 (vals i) a := yields_moved hd (Region.noSelect_spec hH.sel i o2 · · ho) hMi hM (fun j hj hw => by
        obtain ⟨e, he, hb, hon⟩ := waits_spec hw
        refine ⟨by have := hd.low e he hb; omega, ?_⟩
        have := hall e he hb
        rwa [hon] at this) hy
      have hil : i < listed.size := by rw [hs]; exact (Array.getElem?_eq_some_iff.1 ho).1
      refine wpOp_of_stOp (K := fun a' => wpAny P md ops Q (u + g) (listed.setIfInBounds i true) a' w) (fun _ h => h) (hy2.stOp ho ?_)
      refine ih (U.erase i) (by rw [List.length_erase_of_mem hiU, hu]; rfl) _ _ (hnd.erase i) (by simp [hs]) (fun j => ?_) (fun t htn => ?_) ?_
      · rw [hnd.mem_erase_iff]
        constructor
        · rintro ⟨hne, hj⟩
          obtain ⟨h1, h2⟩ := (hU j).1 hj
          exact ⟨h1, by rw [getD_set_ne false (Ne.symm hne)]; exact h2⟩
        · rintro ⟨h1, h2⟩
          have hne : j ≠ i := fun e => by subst e; simp [hil] at h2
          exact ⟨hne, (hU j).2 ⟨h1, by rwa [getD_set_ne false (Ne.symm hne)] at h2⟩⟩
      · have hne : t ≠ i := by omega
        rw [getD_set_ne false (Ne.symm hne)]; exact hT t htn
      · have := hM.put hd ho hlt
        refine ⟨this.defers, this.size, fun j e hj hl => this.yes j e hj ?_, fun t ht2 => this.no t fun j hj hl => ht2 j hj ?_⟩
        · by_cases hji : j = i
          · exact .inr hji
          · rw [getD_set_ne false (Ne.symm hji)] at hl; exact .inl hl
        · rcases hl with hl | rfl
          · exact getD_set_true hl
          · simp [hil]

theorem wpStill_gen {Q : Act → Prop} {a : Act} {l : List Oper} (h : ∀ L : Act → Prop, (∀ a, Q a → L a) → wpStill P ops w L l a) : wpStill P ops w Q l a := h Q fun _ h => h
theorem wpStill_skip {Q : Act → Prop} {a : Act} {o : Oper} {rest : List Oper} (hw : Region.wanted o (yielded ops a.tmps) = false) (h : wpStill P ops w Q rest (a.put o.dst undef)) : wpStill P ops w Q (o :: rest) a := by
  unfold wpStill
  rw [hw]
  exact h

/-- The head once, in the order of the text; behind it every order of the rest. -/
theorem wp_region_head {id : Nat} {Q : Exit → Act → World → Prop} {a : Act} {l : List Oper} (n : Nat) (hm : P.follows .mixedOrders = true) (hB : headB .any l.toArray n = true)
    (h : wpStill P l.toArray { w with drawn := w.drawn + 1 } (fun a' => wpAny P .any l.toArray Q (l.length - n) (headDone n l.length) a' { w with drawn := w.drawn + 1 }) (l.take n) a) : (Code.region id l.toArray true).wp P Q a w := by
  have hH := head_spec hB
  have hle : n ≤ l.length := by simpa using hH.le
  have htl : (l.take n).length = n := by simp; omega
  obtain ⟨acts, vals, h0, h1, h2⟩ := still_acts (l.take n) 0 a (fun j hj => by
    have hj' : j < n := by rw [htl] at hj; exact hj
    simp [hj']) h
  rw [htl] at h1
  rw [htl, Nat.zero_add] at h2
  refine wp_region_any hm ?_
  have := head_walk (g := l.length - n) hH h1 (by simpa using h2) (List.range n) (Array.replicate l.toArray.size false) a List.nodup_range (by simp) (fun i => by rw [List.mem_range, getD_replicate_false]; simp) (fun t _ => getD_replicate_false _ _)
    (by rw [h0]; exact ⟨rfl, rfl, fun i d _ hl => absurd hl (by rw [getD_replicate_false]; decide), fun _ _ => rfl⟩)
  rw [List.length_range, show n + (l.length - n) = l.length by omega] at this
  simpa using this
end
end Go.Proofs.YtggkebngkkddhaaDoor
