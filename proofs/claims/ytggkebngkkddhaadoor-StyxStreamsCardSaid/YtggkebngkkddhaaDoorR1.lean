/- A region that draws its order, of reads and stores: the stores are a chain; each other operation yields the same in each world in which it may come up. Then every order ends alike, and the region is walked once, in the order of the text. -/
import Derived.Test.YtggkebngkkddhaaDoorR0
namespace Go.Proofs.YtggkebngkkddhaaDoor
open Go

def waitsAt (md : Region.Mode) (ops : Array Oper) (j i : Nat) : Bool := match ops[j]? with
  | some o => waits md o i
  | none => false
/-- How many of the stores may be behind us where operation i comes up. -/
def limOf (md : Region.Mode) (ops : Array Oper) (sts : List Nat) (i : Nat) : Nat := (sts.takeWhile fun s => !waitsAt md ops s i).length

def opB (md : Region.Mode) (ops : Array Oper) (i : Nat) (o : Oper) : Bool :=
  o.after.all (fun e => !Region.binds md e || decide (e.on < i)) &&
  (List.range ops.size).all fun j => (j == i || (dstOf ops j).isNone || dstOf ops j != o.dst) && match dstOf ops j with
    | some d => !(o.looksAt ops).contains d || waits md o j
    | none => true
def chainedB (md : Region.Mode) (ops : Array Oper) : List Nat → Bool
  | s :: t :: r => decide (s < t) && waitsAt md ops t s && chainedB md ops (t :: r)
  | _ => true
def storesB (md : Region.Mode) (ops : Array Oper) (sts : List Nat) : Bool :=
  Region.noSelect ops && chainedB md ops sts && sts.all (fun s => decide (s < ops.size)) &&
  (List.range ops.size).all fun i => (match ops[i]? with
    | some o => opB md ops i o
    | none => false) && ((dstOf ops i).isNone == sts.contains i)

structure OpOk (md : Region.Mode) (ops : Array Oper) (i : Nat) (o : Oper) : Prop where
  low : ∀ e ∈ o.after, Region.binds md e = true → e.on < i
  ne : ∀ j d, j < ops.size → j ≠ i → dstOf ops j = some d → o.dst ≠ some d
  dep : ∀ j t, j < ops.size → dstOf ops j = some t → t ∈ o.looksAt ops → waits md o j = true
structure Stores (md : Region.Mode) (ops : Array Oper) (sts : List Nat) : Prop where
  sel : Region.noSelect ops = true
  chain : ∀ k s t, sts[k]? = some s → sts[k + 1]? = some t → s < t ∧ waitsAt md ops t s = true
  op : ∀ i, i < ops.size → ∃ o, ops[i]? = some o ∧ OpOk md ops i o ∧ (o.dst = none ↔ i ∈ sts)
  lt : ∀ s ∈ sts, s < ops.size

theorem chained_spec {md : Region.Mode} {ops : Array Oper} : ∀ (sts : List Nat), chainedB md ops sts = true → ∀ k s t, sts[k]? = some s → sts[k + 1]? = some t → s < t ∧ waitsAt md ops t s = true
  | [], _, k, s, t, h, _ => by simp at h
  | [x], _, k, s, t, _, h => by simp at h
  | x :: y :: r, hc, k, s, t, h, h' => by
    simp only [chainedB, Bool.and_eq_true, decide_eq_true_eq] at hc
    cases k with
    | zero =>
      simp at h h'
      subst h h'
      exact hc.1
    | succ k => exact chained_spec (y :: r) hc.2 k s t (by simpa using h) (by simpa using h')
theorem stores_spec {md : Region.Mode} {ops : Array Oper} {sts : List Nat} (h : storesB md ops sts = true) : Stores md ops sts := by
  simp only [storesB, Bool.and_eq_true] at h
  obtain ⟨⟨⟨h1, h2⟩, h3⟩, h4⟩ := h
  refine ⟨h1, chained_spec sts h2, fun i hi => ?_, fun s hs => by simpa using List.all_eq_true.1 h3 s hs⟩
  have := List.all_eq_true.1 h4 i (List.mem_range.2 hi)
  simp only [Bool.and_eq_true, beq_iff_eq] at this
  obtain ⟨g1, g2⟩ := this
  cases ho : ops[i]? with
  | none => rw [ho] at g1; cases g1
  | some o =>
    rw [ho] at g1
    simp only [opB, Bool.and_eq_true] at g1
    obtain ⟨a1, a2⟩ := g1
    refine ⟨o, rfl, ⟨fun e he hb => ?_, fun j d hj hji hd => ?_, fun j t hj ht hm => ?_⟩, ?_⟩
    · have := Array.all_eq_true'.1 a1 e he
      simpa [hb] using this
    · have := List.all_eq_true.1 a2 j (List.mem_range.2 hj)
      simp only [Bool.and_eq_true, Bool.or_eq_true, beq_iff_eq, bne_iff_ne, hd] at this
      rcases this.1 with (e | e) | e
      · exact absurd e hji
      · cases e
      · exact fun x => e x.symm
    · have := List.all_eq_true.1 a2 j (List.mem_range.2 hj)
      simp only [Bool.and_eq_true, ht] at this
      have h4 := this.2
      simp only [Bool.or_eq_true, Bool.not_eq_true'] at h4
      rcases h4 with e | e
      · have hc : (o.looksAt ops).contains t = true := by simpa using hm
        rw [hc] at e; cases e
      · exact e
    · have e : dstOf ops i = o.dst := by simp [dstOf, ho]
      rw [e] at g2
      constructor
      · intro hn
        rw [hn] at g2
        have : sts.contains i = true := by rw [← g2]; rfl
        simpa using this
      · intro hm
        have : sts.contains i = true := by simpa using hm
        rw [this] at g2
        simpa using g2

section
variable {P : Program} {md : Region.Mode} {ops : Array Oper}

/-- The operations in the order of the text. -/
def wpSt (P : Program) (md : Region.Mode) (ops : Array Oper) (sts : List Nat) (Ws : Nat → World) (Q : Act → Prop) : List Oper → Nat → Nat → Act → Prop
  | [], _, k, a => sts[k]? = none ∧ Q a
  | o :: rest, j, k, a => (o.dst = none → sts[k]? = some j ∧ Region.wanted o (yielded ops a.tmps) = true ∧ (execOp a.eval o).run P (Ws k) = .ok .skip (Ws (k + 1)) ∧ wpSt P md ops sts Ws Q rest (j + 1) (k + 1) a) ∧
      (o.dst ≠ none → ∃ v, (∀ i, i ≤ limOf md ops sts j → YieldsAt P ops (Ws i) o v a) ∧ wpSt P md ops sts Ws Q rest (j + 1) k (a.put o.dst v))

/-- What the walk in the order of the text shows of operation j. -/
def Ran (P : Program) (md : Region.Mode) (ops : Array Oper) (sts : List Nat) (Ws : Nat → World) (acts : Nat → Act) (vals : Nat → Value) (j : Nat) (o : Oper) : Prop :=
  (o.dst = none → (∀ k, sts[k]? = some j → Region.wanted o (yielded ops (acts j).tmps) = true ∧ (execOp (acts j).eval o).run P (Ws k) = .ok .skip (Ws (k + 1))) ∧ acts (j + 1) = acts j) ∧
  (o.dst ≠ none → (∀ i, i ≤ limOf md ops sts j → YieldsAt P ops (Ws i) o (vals j) (acts j)) ∧ acts (j + 1) = (acts j).put o.dst (vals j))

theorem sts_inj {sts : List Nat} {md : Region.Mode} {ops : Array Oper} (h : ∀ k s t, sts[k]? = some s → sts[k + 1]? = some t → s < t ∧ waitsAt md ops t s = true) : ∀ (d k : Nat) (s t : Nat), sts[k]? = some s → sts[k + d + 1]? = some t → s < t
  | 0, k, s, t, h1, h2 => (h k s t h1 h2).1
  | d + 1, k, s, t, h1, h2 => by
    have hlt : k + d + 1 < sts.length := by
      have := (List.getElem?_eq_some_iff.1 h2).1
      omega
    have hm : sts[k + d + 1]? = some sts[k + d + 1] := List.getElem?_eq_getElem hlt
    have a := sts_inj h d k s _ h1 hm
    have b := (h (k + d + 1) _ t hm (by rw [← h2]; congr 1)).1
    omega
theorem sts_pos {sts : List Nat} (h : ∀ k s t, sts[k]? = some s → sts[k + 1]? = some t → s < t ∧ waitsAt md ops t s = true) {k k' s : Nat} (h1 : sts[k]? = some s) (h2 : sts[k']? = some s) : k = k' := by
  rcases Nat.lt_trichotomy k k' with hl | he | hl
  · have := sts_inj h (k' - k - 1) k s s h1 (by rw [show k + (k' - k - 1) + 1 = k' by omega]; exact h2); omega
  · exact he
  · have := sts_inj h (k - k' - 1) k' s s h2 (by rw [show k' + (k - k' - 1) + 1 = k by omega]; exact h1); omega

theorem wpSt_acts {sts : List Nat} {Ws : Nat → World} {Q : Act → Prop} (hc : ∀ k s t, sts[k]? = some s → sts[k + 1]? = some t → s < t ∧ waitsAt md ops t s = true) : ∀ (l : List Oper) (j k : Nat) (a : Act), (∀ i, i < l.length → l[i]? = ops[j + i]?) → wpSt P md ops sts Ws Q l j k a →
    ∃ (acts : Nat → Act) (vals : Nat → Value), acts j = a ∧ (∀ i, j ≤ i → i < j + l.length → ∃ o, ops[i]? = some o ∧ Ran P md ops sts Ws acts vals i o) ∧ Q (acts (j + l.length))
  | [], j, k, a, _, h => ⟨fun _ => a, fun _ => undef, rfl, fun i h1 h2 => by simp at h2; omega, h.2⟩
  | o :: l, j, k, a, hl, h => by
    have h0 : ops[j]? = some o := by simpa using (hl 0 (by simp)).symm
    have hl' : ∀ i, i < l.length → l[i]? = ops[j + 1 + i]? := fun i hi => by have := hl (i + 1) (by simp; omega); simpa [Nat.add_assoc, Nat.add_comm 1 i] using this
    by_cases hd : o.dst = none
    · obtain ⟨hk, hw, hr, hrest⟩ := h.1 hd
      obtain ⟨acts, vals, h1, h2, h3⟩ := wpSt_acts hc l (j + 1) (k + 1) a hl' hrest
      refine ⟨fun i => if i = j then a else acts i, vals, by simp, fun i hi1 hi2 => ?_, ?_⟩
      · by_cases hij : i = j
        · subst hij
          refine ⟨o, h0, fun _ => ⟨fun k' hk' => ?_, by simp [h1]⟩, fun x => absurd hd x⟩
          obtain rfl := sts_pos hc hk hk'
          simpa using ⟨hw, hr⟩
        · obtain ⟨o', ho', hR⟩ := h2 i (by omega) (by simp at hi2; omega)
          have : i + 1 ≠ j := by omega
          exact ⟨o', ho', by simpa [Ran, hij, this] using hR⟩
      · have : j + (l.length + 1) ≠ j := by omega
        simp only [List.length_cons, this, if_false]
        rw [show j + (l.length + 1) = j + 1 + l.length by omega]
        exact h3
    · obtain ⟨v, hy, hrest⟩ := h.2 hd
      obtain ⟨acts, vals, h1, h2, h3⟩ := wpSt_acts hc l (j + 1) k (a.put o.dst v) hl' hrest
      refine ⟨fun i => if i = j then a else acts i, fun i => if i = j then v else vals i, by simp, fun i hi1 hi2 => ?_, ?_⟩
      · by_cases hij : i = j
        · subst hij
          exact ⟨o, h0, fun x => absurd x hd, fun _ => ⟨by simpa using hy, by simp [h1]⟩⟩
        · obtain ⟨o', ho', hR⟩ := h2 i (by omega) (by simp at hi2; omega)
          have : i + 1 ≠ j := by omega
          exact ⟨o', ho', by simpa [Ran, hij, this] using hR⟩
      · have : j + (l.length + 1) ≠ j := by omega
        simp only [List.length_cons, this, if_false]
        rw [show j + (l.length + 1) = j + 1 + l.length by omega]
        exact h3

theorem Mix.put' {i : Nat} {o : Oper} {d : Tmp} {a0 a : Act} {vals : Nat → Value} {listed : Nat → Prop} (hd : OpOk md ops i o) (hdst : o.dst = some d) (ho : ops[i]? = some o)
    (h : Mix ops ops.size a0 vals listed a) : Mix ops ops.size a0 vals (fun j => listed j ∨ j = i) (a.put o.dst (vals i)) := by
  have hdi : dstOf ops i = some d := by simp [dstOf, ho, hdst]
  have hi : i < ops.size := (Array.getElem?_eq_some_iff.1 ho).1
  rw [hdst]
  refine ⟨h.defers, by simp [Act.put, h.size], fun j e hj hl hje => ?_, fun t ht => ?_⟩
  · by_cases hji : j = i
    · subst hji
      have : e = d := by rw [hdi] at hje; injection hje with hje; exact hje.symm
      subst this
      simp only [Act.put, Array.getElem?_setIfInBounds, h.size]
      simp
    · have hne : e ≠ d := fun x => hd.ne j e hj hji hje (by rw [hdst, x])
      simp only [Act.put]
      rw [Array.getElem?_setIfInBounds_ne (Ne.symm hne)]
      exact h.yes j e hj (hl.resolve_right hji) hje
  · have hne : t ≠ d := fun x => ht i hi (.inr rfl) (by rw [hdi, x])
    simp only [Act.put]
    rw [Array.getElem?_setIfInBounds_ne (Ne.symm hne)]
    exact h.no t fun j hj hl => ht j hj (.inl hl)
theorem Mix.slot' {i : Nat} {o : Oper} {a0 a b : Act} {vals : Nat → Value} {L M : Nat → Prop} (hd : OpOk md ops i o)
    (h : Mix ops ops.size a0 vals L a) (h' : Mix ops ops.size a0 vals M b) (hL : ∀ j, j < ops.size → waits md o j = true → L j ∧ M j) {t : Tmp} (ht : t ∈ o.looksAt ops) : a.tmps[t]? = b.tmps[t]? := by
  by_cases hx : ∃ j, j < ops.size ∧ dstOf ops j = some t
  · obtain ⟨j, hj, hjt⟩ := hx
    have hw := hL j hj (hd.dep j t hj hjt ht)
    rw [h.yes j t hj hw.1 hjt, h'.yes j t hj hw.2 hjt]
  · rw [h.no t fun j hj _ hjt => hx ⟨j, hj, hjt⟩, h'.no t fun j hj _ hjt => hx ⟨j, hj, hjt⟩]
theorem seen_same {i : Nat} {o : Oper} {a0 a b : Act} {vals : Nat → Value} {L M : Nat → Prop} (hd : OpOk md ops i o) (hsel : ∀ cs b, o.op ≠ .select cs b)
    (h : Mix ops ops.size a0 vals L a) (h' : Mix ops ops.size a0 vals M b) (hL : ∀ j, j < ops.size → waits md o j = true → L j ∧ M j) :
    execOp b.eval o = execOp a.eval o ∧ Region.wanted o (yielded ops b.tmps) = Region.wanted o (yielded ops a.tmps) := by
  refine ⟨execOp_congr o hsel fun x hx => ?_, ?_⟩
  · cases x with
    | tmp t =>
      have := h.slot' hd h' hL (t := t) (List.mem_append_left _ (List.mem_filterMap.2 ⟨.tmp t, by simpa using hx, rfl⟩))
      simp only [Act.eval, Array.getD_eq_getD_getElem?, this]
    | _ => rfl
  · unfold Region.wanted
    cases hg : o.guard with
    | none => rfl
    | some gw =>
      obtain ⟨g, want⟩ := gw
      have hy : yielded ops b.tmps g = yielded ops a.tmps g := by
        unfold yielded
        cases ht : (ops[g]?).bind (·.dst) with
        | none => rfl
        | some t =>
          have := h.slot' hd h' hL (t := t) (by simp [Oper.looksAt, hg, ht])
          simp only [Option.bind_some, this]
      simp only [hy]

theorem ran_mix {sts : List Nat} {Ws : Nat → World} {acts : Nat → Act} {vals : Nat → Value} (hS : Stores md ops sts) (h : ∀ i, 0 ≤ i → i < 0 + ops.size → ∃ o, ops[i]? = some o ∧ Ran P md ops sts Ws acts vals i o) :
    ∀ k, k ≤ ops.size → Mix ops ops.size (acts 0) vals (fun j => j < k) (acts k) := by
  intro k
  induction k with
  | zero => exact fun _ => ⟨rfl, rfl, fun i d _ hl => absurd hl (by omega), fun _ _ => rfl⟩
  | succ k ih =>
    intro hk
    obtain ⟨o, ho, hR⟩ := h k (by omega) (by omega)
    obtain ⟨o', ho', hd, _⟩ := hS.op k (by omega)
    obtain rfl : o = o' := Option.some.inj (ho.symm.trans ho')
    have hM := ih (by omega)
    cases hdst : o.dst with
    | none =>
      rw [(hR.1 hdst).2]
      have hno : dstOf ops k = none := by simp [dstOf, ho, hdst]
      refine ⟨hM.defers, hM.size, fun i e hi hl hie => ?_, fun t ht => hM.no t fun i hi hl => ht i hi (by omega)⟩
      by_cases hik : i = k
      · subst hik; rw [hno] at hie; cases hie
      · exact hM.yes i e hi (by omega) hie
    | some d =>
      have hne : o.dst ≠ none := by rw [hdst]; exact fun x => by cases x
      rw [(hR.2 hne).2]
      have := hM.put' hd hdst ho
      refine ⟨this.defers, this.size, fun i e hi hl => this.yes i e hi (by omega), fun t ht => this.no t fun i hi hl => ht i hi (by omega)⟩

theorem ran_all {sts : List Nat} {Ws : Nat → World} {acts : Nat → Act} {vals : Nat → Value} {Q : Exit → Act → World → Prop} (hS : Stores md ops sts) (h : ∀ i, 0 ≤ i → i < 0 + ops.size → ∃ o, ops[i]? = some o ∧ Ran P md ops sts Ws acts vals i o)
    (hQ : Q .normal (acts ops.size) (Ws sts.length)) : ∀ (U : List Nat) (listed : Array Bool) (a : Act) (k : Nat), U.Nodup → listed.size = ops.size → (∀ i, i ∈ U ↔ i < ops.size ∧ listed.getD i false = false) →
    (∀ j o, ops[j]? = some o → listed.getD j false = true → ∀ e ∈ o.after, Region.binds md e = true → listed.getD e.on false = true) →
    (∀ n s, sts[n]? = some s → (listed.getD s false = true ↔ n < k)) → k ≤ sts.length →
    Mix ops ops.size (acts 0) vals (fun j => listed.getD j false = true) a → wpAny P md ops Q U.length listed a (Ws k) := by
  intro U
  generalize hu : U.length = u
  induction u generalizing U with
  | zero =>
    intro listed a k _ hs hU _ hst hk hM
    have hU0 : U = [] := List.eq_nil_of_length_eq_zero hu
    subst hU0
    have hall : ∀ i, i < ops.size → listed.getD i false = true := fun i hi => by
      cases hb : listed.getD i false
      · have := (hU i).2 ⟨hi, hb⟩; cases this
      · rfl
    have hke : k = sts.length := by
      rcases Nat.lt_or_ge k sts.length with hlt | hge
      · have h1 : sts[k]? = some sts[k] := List.getElem?_eq_getElem hlt
        have := (hst k _ h1).1 (hall _ (hS.lt _ (List.getElem_mem hlt)))
        omega
      · omega
    have hMn := ran_mix hS h ops.size (Nat.le_refl _)
    have e2 : a = acts ops.size := hM.same ⟨hMn.defers, hMn.size, fun i d hi hl hd => hMn.yes i d hi hi hd, fun t ht => hMn.no t fun i hi _ => ht i hi (hall i hi)⟩
    refine ⟨?_, by rw [e2, hke]; exact hQ⟩
    refine List.eq_nil_iff_forall_not_mem.2 fun i hi => ?_
    obtain ⟨hun, o, ho, _⟩ := mem_ready.1 hi
    have hil : i < ops.size := (Array.getElem?_eq_some_iff.1 ho).1
    have := hall i hil
    rw [getD_both hun] at this
    cases this
  | succ u ih =>
    intro listed a k hnd hs hU hC hst hk hM
    refine ⟨fun h0 => ?_, fun i hi => ?_⟩
    · exfalso
      have hex : ∃ i, i ∈ U := by
        cases U with
        | nil => simp at hu
        | cons x _ => exact ⟨x, by simp⟩
      have key : ∀ i, i ∈ U → False := by
        intro i
        induction i using Nat.strongRecOn with
        | _ i ihi =>
          intro hiU
          obtain ⟨hlt, hun⟩ := (hU i).1 hiU
          obtain ⟨o, ho, hd, _⟩ := hS.op i hlt
          have hil : i < listed.size := by rw [hs]; exact hlt
          have : i ∈ Region.ready md ops listed := by
            refine mem_ready.2 ⟨getD_in hil hun, o, ho, fun e he hb => ?_⟩
            have hle := hd.low e he hb
            cases hb2 : listed.getD e.on false
            · exact (ihi e.on hle ((hU e.on).2 ⟨by omega, hb2⟩)).elim
            · rfl
          rw [h0] at this
          cases this
      obtain ⟨i, hi⟩ := hex
      exact key i hi
    · obtain ⟨hunT, o, ho, hall⟩ := mem_ready.1 hi
      have hun := getD_both hunT
      have hlt : i < ops.size := (Array.getElem?_eq_some_iff.1 ho).1
      have hil : i < listed.size := by rw [hs]; exact hlt
      have hiU : i ∈ U := (hU i).2 ⟨hlt, hun⟩
      obtain ⟨o1, ho1, hd, hdn⟩ := hS.op i hlt
      obtain rfl : o1 = o := Option.some.inj (ho1.symm.trans ho)
      obtain ⟨o2, ho2, hR⟩ := h i (by omega) (by omega)
      obtain rfl : o2 = o1 := Option.some.inj (ho2.symm.trans ho)
      have hMi := ran_mix hS h i (by omega)
      have hsame := seen_same hd (Region.noSelect_spec hS.sel i o2 · · ho) hMi hM (fun j hj hw => by
        obtain ⟨e, he, hb, hon⟩ := waits_spec hw
        refine ⟨by have := hd.low e he hb; omega, ?_⟩
        have := hall e he hb
        rwa [hon] at this)
      -- what holds of the list behind this operation
      have hU' : ∀ j, j ∈ U.erase i ↔ j < ops.size ∧ (listed.setIfInBounds i true).getD j false = false := fun j => by
        rw [hnd.mem_erase_iff]
        constructor
        · rintro ⟨hne, hj⟩
          obtain ⟨h1, h2⟩ := (hU j).1 hj
          exact ⟨h1, by rw [getD_set_ne false (Ne.symm hne)]; exact h2⟩
        · rintro ⟨h1, h2⟩
          have hne : j ≠ i := fun e => by subst e; simp [hil] at h2
          exact ⟨hne, (hU j).2 ⟨h1, by rwa [getD_set_ne false (Ne.symm hne)] at h2⟩⟩
      have hC' : ∀ j o, ops[j]? = some o → (listed.setIfInBounds i true).getD j false = true → ∀ e ∈ o.after, Region.binds md e = true → (listed.setIfInBounds i true).getD e.on false = true := fun j oj hoj hl e he hb => by
        by_cases hij : j = i
        · subst hij
          obtain rfl : oj = o2 := Option.some.inj (hoj.symm.trans ho)
          exact getD_set_true (hall e he hb)
        · rw [getD_set_ne false (Ne.symm hij)] at hl
          exact getD_set_true (hC j oj hoj hl e he hb)
      have hlen : (U.erase i).length = u := by rw [List.length_erase_of_mem hiU, hu]; rfl
      cases hdst : o2.dst with
      | none =>
        have hmem := hdn.1 hdst
        obtain ⟨n, hn⟩ := List.getElem?_of_mem hmem
        have hnk : ¬ n < k := fun x => by have := (hst n i hn).2 x; rw [hun] at this; cases this
        have hnk2 : n = k := by
          rcases Nat.lt_or_ge k n with hlt2 | hge
          · exfalso
            have hltn : n - 1 < sts.length := by have := (List.getElem?_eq_some_iff.1 hn).1; omega
            have hn1 : sts[n - 1]? = some (sts[n - 1]'hltn) := List.getElem?_eq_getElem hltn
            have hw := (hS.chain (n - 1) _ i hn1 (by rw [show n - 1 + 1 = n by omega]; exact hn)).2
            unfold waitsAt at hw
            rw [ho] at hw
            obtain ⟨e, he, hb, hon⟩ := waits_spec hw
            have hl := hall e he hb
            rw [hon] at hl
            have := (hst (n - 1) _ hn1).1 hl
            omega
          · omega
        subst hnk2
        obtain ⟨hw, hr⟩ := (hR.1 hdst).1 n hn
        unfold wpOp
        simp only [ho]
        rw [hsame.2, hw, if_pos rfl]
        refine .inl ?_
        unfold Oper.wp
        rw [hsame.1, hr, Oper.upon_skip, hdst]
        refine ih (U.erase i) hlen _ _ (n + 1) (hnd.erase i) (by simp [hs]) hU' hC' (fun n' s' hs' => ?_) (by have := (List.getElem?_eq_some_iff.1 hn).1; omega) ?_
        · by_cases hsi : s' = i
          · subst hsi
            obtain rfl := sts_pos hS.chain hs' hn
            simp [hil]
          · rw [getD_set_ne false (Ne.symm hsi), hst n' s' hs']
            constructor
            · omega
            · intro hlt2
              rcases Nat.lt_or_ge n' n with h3 | h3
              · exact h3
              · exfalso
                have : n' = n := by omega
                subst this
                rw [hn] at hs'
                injection hs' with hs'
                exact hsi hs'.symm
        · have hno : dstOf ops i = none := by simp [dstOf, ho, hdst]
          refine ⟨hM.defers, hM.size, fun j e hj hl hje => ?_, fun t ht2 => hM.no t fun j hj hl => ht2 j hj (getD_set_true hl)⟩
          have hji : j ≠ i := fun x => by subst x; rw [hno] at hje; cases hje
          rw [getD_set_ne false (Ne.symm hji)] at hl
          exact hM.yes j e hj hl hje
      | some d =>
        have hne : o2.dst ≠ none := by rw [hdst]; exact fun x => by cases x
        have hkl : k ≤ limOf md ops sts i := by
          -- none of the stores behind us waits for this one
          have hpre : ∀ s ∈ sts.take k, (!waitsAt md ops s i) = true := fun s hs1 => by
            obtain ⟨n, hn⟩ := List.getElem?_of_mem hs1
            rw [List.getElem?_take] at hn
            by_cases hnk : n < k
            · rw [if_pos hnk] at hn
              have hl := (hst n s hn).2 hnk
              obtain ⟨os, hos, _, _⟩ := hS.op s (hS.lt s (List.mem_of_getElem? hn))
              unfold waitsAt
              rw [hos]
              show (!waits md os i) = true
              cases hw : waits md os i
              · rfl
              · obtain ⟨e, he, hb, hon⟩ := waits_spec hw
                have := hC s os hos hl e he hb
                rw [hon, hun] at this
                cases this
            · rw [if_neg hnk] at hn; cases hn
          unfold limOf
          have e1 : sts.takeWhile (fun s => !waitsAt md ops s i) = sts.take k ++ (sts.drop k).takeWhile (fun s => !waitsAt md ops s i) := by
            conv => lhs; rw [← List.take_append_drop k sts]
            exact List.takeWhile_append_of_pos hpre
          rw [e1, List.length_append, List.length_take]
          omega
        have hy := (hR.2 hne).1 k hkl
        have hy2 : YieldsAt P ops (Ws k) o2 (vals i) a := hy.of_same hsame.1 hsame.2
        refine wpOp_of_stOp (K := fun a' => wpAny P md ops Q u (listed.setIfInBounds i true) a' (Ws k)) (fun _ h => h) (hy2.stOp ho ?_)
        have hput := hM.put' hd hdst ho
        refine ih (U.erase i) hlen _ _ k (hnd.erase i) (by simp [hs]) hU' hC' (fun n' s' hs' => ?_) hk ?_
        · have hsi : s' ≠ i := fun x => by
            subst x
            have := hdn.2 (List.mem_of_getElem? hs')
            rw [hdst] at this
            cases this
          rw [getD_set_ne false (Ne.symm hsi)]
          exact hst n' s' hs'
        · refine ⟨hput.defers, hput.size, fun j e hj hl => hput.yes j e hj ?_, fun t ht2 => hput.no t fun j hj hl => ht2 j hj ?_⟩
          · by_cases hji : j = i
            · exact .inr hji
            · rw [getD_set_ne false (Ne.symm hji)] at hl; exact .inl hl
          · rcases hl with hl | rfl
            · exact getD_set_true hl
            · simp [hil]

/-- A region of reads and stores: once, in the order of the text. -/
theorem wp_region_stores {id : Nat} {Q : Exit → Act → World → Prop} {a : Act} {w : World} {l : List Oper} (sts : List Nat) (Ws : Nat → World) (hm : P.follows .mixedOrders = true) (hB : storesB .any l.toArray sts = true) (h0 : Ws 0 = { w with drawn := w.drawn + 1 })
    (h : wpSt P .any l.toArray sts Ws (fun a' => Q .normal a' (Ws sts.length)) l 0 0 a) : (Code.region id l.toArray true).wp P Q a w := by
  have hS := stores_spec hB
  obtain ⟨acts, vals, e0, h1, h2⟩ := wpSt_acts hS.chain l 0 0 a (fun j hj => by simp) h
  refine wp_region_any hm ?_
  have hsz : l.toArray.size = l.length := by simp
  rw [← h0]
  have := ran_all (Q := Q) hS (by rw [hsz]; exact h1) (by rw [hsz]; simpa using h2) (List.range l.toArray.size) (Array.replicate l.toArray.size false) a 0 List.nodup_range (by simp) (fun i => by rw [List.mem_range, getD_replicate_false]; simp)
    (fun j o _ hl => by rw [getD_replicate_false] at hl; cases hl) (fun n s _ => by rw [getD_replicate_false]; simp) (Nat.zero_le _)
    (by rw [e0]; exact ⟨rfl, rfl, fun i d _ hl => absurd hl (by rw [getD_replicate_false]; decide), fun _ _ => rfl⟩)
  rw [List.length_range] at this
  exact this
end
end Go.Proofs.YtggkebngkkddhaaDoor
