/- The steps of a walk through a region of reads and stores. -/
import Derived.Test.YtggkebngkkddhaaDoorR1
namespace Go.Proofs.YtggkebngkkddhaaDoor
open Go
section
variable {P : Program} {md : Region.Mode} {ops : Array Oper} {sts : List Nat} {Ws : Nat → World} {Q : Act → Prop}

theorem put_inj {a : Act} {d : Tmp} {u v : Value} (hd : decide (d < a.tmps.size) = true) (h : a.put (some d) u = a.put (some d) v) : u = v := by
  have hlt : d < a.tmps.size := by simpa using hd
  have h1 : (a.put (some d) u).tmps[d]? = (a.put (some d) v).tmps[d]? := by rw [h]
  simpa [Act.put, hlt] using h1
theorem yieldsAt_of {w : World} {o : Oper} {a : Act} {d : Tmp} {v : Value} (ho : o.dst = some d) (hd : decide (d < a.tmps.size) = true)
    (h : ∀ K : Act → Prop, K (a.put (some d) v) → if Region.wanted o (yielded ops a.tmps) then o.still P a w K else K (a.put o.dst undef)) : YieldsAt P ops w o v a := by
  have h := h (fun a' => a' = a.put (some d) v) rfl
  rw [ho] at h
  by_cases hw : Region.wanted o (yielded ops a.tmps) = true
  · simp only [hw, if_true, Oper.still] at h
    generalize hr : (execOp a.eval o).run P w = r at h
    cases r with
    | ok n w' =>
      cases n <;> simp only [Oper.stillUpon, ho] at h
      case value u => obtain ⟨rfl, h2⟩ := h; rw [← put_inj hd h2]; exact .inl ⟨hw, .inl hr⟩
      case skip => obtain ⟨rfl, h2⟩ := h; exact .inl ⟨hw, .inr (.inl ⟨hr, (put_inj hd h2).symm⟩)⟩
      case enter f args => obtain ⟨rfl, u, hc, h2⟩ := h; rw [← put_inj hd h2]; exact .inl ⟨hw, .inr (.inr ⟨f, args, hr, hc⟩)⟩
    | halt x w' => simp only [Oper.stillUpon] at h
  · simp only [hw] at h
    exact .inr ⟨by simpa using hw, (put_inj hd h).symm⟩

theorem wpSt_put {o : Oper} {rest : List Oper} {j k : Nat} {a : Act} {d : Tmp} {v : Value} (ho : o.dst = some d) (hy : ∀ i, i ≤ limOf md ops sts j → YieldsAt P ops (Ws i) o v a) (h : wpSt P md ops sts Ws Q rest (j + 1) k (a.put (some d) v)) :
    wpSt P md ops sts Ws Q (o :: rest) j k a := ⟨(fun x => by rw [ho] at x; cases x), fun _ => ⟨v, hy, by rw [ho]; exact h⟩⟩
/-- An operation that looks at no cell. -/
theorem wpSt_any {o : Oper} {rest : List Oper} {j k : Nat} {a : Act} {d : Tmp} {v : Value} (ho : o.dst = some d) (hd : decide (d < a.tmps.size) = true)
    (hy : ∀ (w : World) (K : Act → Prop), K (a.put (some d) v) → if Region.wanted o (yielded ops a.tmps) then o.still P a w K else K (a.put o.dst undef)) (h : wpSt P md ops sts Ws Q rest (j + 1) k (a.put (some d) v)) :
    wpSt P md ops sts Ws Q (o :: rest) j k a := wpSt_put ho (fun _ _ => yieldsAt_of ho hd (hy _)) h
/-- An operation whose guard bars it. -/
theorem wpSt_off {o : Oper} {rest : List Oper} {j k : Nat} {a : Act} {d : Tmp} (ho : o.dst = some d) (hw : Region.wanted o (yielded ops a.tmps) = false) (h : wpSt P md ops sts Ws Q rest (j + 1) k (a.put (some d) undef)) :
    wpSt P md ops sts Ws Q (o :: rest) j k a := wpSt_put ho (fun _ _ => .inr ⟨hw, rfl⟩) h
/-- An operation that comes before every store. -/
theorem wpSt_0 {w0 : World} {o : Oper} {rest : List Oper} {j k : Nat} {a : Act} {d : Tmp} {v : Value} (hl : limOf md ops sts j = 0) (h0 : Ws 0 = w0) (ho : o.dst = some d) (hd : decide (d < a.tmps.size) = true)
    (hy : ∀ (K : Act → Prop), K (a.put (some d) v) → if Region.wanted o (yielded ops a.tmps) then o.still P a w0 K else K (a.put o.dst undef)) (h : wpSt P md ops sts Ws Q rest (j + 1) k (a.put (some d) v)) :
    wpSt P md ops sts Ws Q (o :: rest) j k a := wpSt_put ho (fun i hi => by rw [hl] at hi; obtain rfl : i = 0 := by omega
                                                                            rw [h0]; exact yieldsAt_of ho hd hy) h
/-- An operation that may come behind the first store. -/
theorem wpSt_1 {w0 w1 : World} {o : Oper} {rest : List Oper} {j k : Nat} {a : Act} {d : Tmp} {v : Value} (hl : limOf md ops sts j = 1) (h0 : Ws 0 = w0) (h1 : Ws 1 = w1) (ho : o.dst = some d) (hd : decide (d < a.tmps.size) = true)
    (hy : ∀ (K : Act → Prop), K (a.put (some d) v) → if Region.wanted o (yielded ops a.tmps) then o.still P a w0 K else K (a.put o.dst undef))
    (hy1 : ∀ (K : Act → Prop), K (a.put (some d) v) → if Region.wanted o (yielded ops a.tmps) then o.still P a w1 K else K (a.put o.dst undef)) (h : wpSt P md ops sts Ws Q rest (j + 1) k (a.put (some d) v)) :
    wpSt P md ops sts Ws Q (o :: rest) j k a := wpSt_put ho (fun i hi => by
      rw [hl] at hi
      rcases Nat.lt_or_ge i 1 with hlt | hge
      · obtain rfl : i = 0 := by omega
        rw [h0]; exact yieldsAt_of ho hd hy
      · obtain rfl : i = 1 := by omega
        rw [h1]; exact yieldsAt_of ho hd hy1) h
/-- An operation that may come behind the first two stores. -/
theorem wpSt_2 {w0 w1 w2 : World} {o : Oper} {rest : List Oper} {j k : Nat} {a : Act} {d : Tmp} {v : Value} (hl : limOf md ops sts j = 2) (h0 : Ws 0 = w0) (h1 : Ws 1 = w1) (h2 : Ws 2 = w2) (ho : o.dst = some d) (hd : decide (d < a.tmps.size) = true)
    (hy : ∀ (K : Act → Prop), K (a.put (some d) v) → if Region.wanted o (yielded ops a.tmps) then o.still P a w0 K else K (a.put o.dst undef))
    (hy1 : ∀ (K : Act → Prop), K (a.put (some d) v) → if Region.wanted o (yielded ops a.tmps) then o.still P a w1 K else K (a.put o.dst undef))
    (hy2 : ∀ (K : Act → Prop), K (a.put (some d) v) → if Region.wanted o (yielded ops a.tmps) then o.still P a w2 K else K (a.put o.dst undef)) (h : wpSt P md ops sts Ws Q rest (j + 1) k (a.put (some d) v)) :
    wpSt P md ops sts Ws Q (o :: rest) j k a := wpSt_put ho (fun i hi => by
      rw [hl] at hi
      rcases Nat.lt_or_ge i 1 with hlt | hge
      · obtain rfl : i = 0 := by omega
        rw [h0]; exact yieldsAt_of ho hd hy
      · rcases Nat.lt_or_ge i 2 with hlt | hge
        · obtain rfl : i = 1 := by omega
          rw [h1]; exact yieldsAt_of ho hd hy1
        · obtain rfl : i = 2 := by omega
          rw [h2]; exact yieldsAt_of ho hd hy2) h
/-- A store. -/
theorem wpSt_store {w0 w1 : World} {o : Oper} {rest : List Oper} {j k : Nat} {a : Act} (hk : sts[k]? = some j) (h0 : Ws k = w0) (h1 : Ws (k + 1) = w1) (ho : o.dst = none)
    (hw : Region.wanted o (yielded ops a.tmps) = true) (hr : (execOp a.eval o).run P w0 = .ok .skip w1) (h : wpSt P md ops sts Ws Q rest (j + 1) (k + 1) a) :
    wpSt P md ops sts Ws Q (o :: rest) j k a := ⟨fun _ => ⟨hk, hw, by rw [h0, h1]; exact hr, h⟩, fun x => absurd ho x⟩
theorem wpSt_nil {j k : Nat} {a : Act} (hk : sts[k]? = none) (h : Q a) : wpSt P md ops sts Ws Q [] j k a := ⟨hk, h⟩
end
end Go.Proofs.YtggkebngkkddhaaDoor
