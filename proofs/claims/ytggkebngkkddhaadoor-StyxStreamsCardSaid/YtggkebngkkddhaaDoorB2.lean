/- The three visitors: what each method does. -/
import Derived.Test.YtggkebngkkddhaaDoorB1
import Derived.Test.YtggkebngkkddhaaDoorA6
import Derived.Test.YtggkebngkkddhaaDoorA8
namespace Go.Proofs.YtggkebngkkddhaaDoor
open Go.RowKit

theorem Fr.same {S : Nat → Prop} {w w' : World} (h : Fr S w w') {p : Addr} {x : Value} (hx : w.cell? p = some x) : Fr S (w.setCell p x) w' := by
  refine ⟨by simpa [World.setCell] using h.1, fun b hb hs => ?_, h.3⟩
  rw [h.2 b (by simpa [World.setCell] using hb) hs, heap_setCell_eq]
  by_cases hpb : p.block = b
  · rw [if_pos hpb]
    subst hpb
    unfold World.cell? at hx
    cases ho : w.heap[p.block]? with
    | none => rfl
    | some o =>
      rw [ho] at hx
      cases o with
      | cells c e f =>
        dsimp only at hx
        by_cases hsp : p.spot.isSome = true
        · rw [if_pos hsp] at hx; cases hx
        · rw [if_neg hsp] at hx
          simp only [Option.map_some, putAt, hsp, Bool.false_eq_true, if_false]
          congr 2
          apply Array.ext_getElem?
          intro i
          rw [Array.getElem?_setIfInBounds]
          by_cases hi : p.off = i
          · subst hi
            rw [if_pos rfl, hx]
            have : p.off < c.size := by
              rcases Nat.lt_or_ge p.off c.size with hlt | hge
              · exact hlt
              · rw [Array.getElem?_eq_none hge] at hx; cases hx
            simp [this]
          · rw [if_neg hi]
      | _ => rfl
  · rw [if_neg hpb]

theorem meth_out_num (g : Nat) : Meth 79 (.pointer (some ⟨g, 0, none⟩)) "acheron/styx.num" 38 := ⟨fun w => by kernel_rfl, fun w => by kernel_rfl, fun args w => by kernel_rfl⟩
theorem meth_out_long (g : Nat) : Meth 79 (.pointer (some ⟨g, 0, none⟩)) "acheron/styx.long" 110 := ⟨fun w => by kernel_rfl, fun w => by kernel_rfl, fun args w => by kernel_rfl⟩
theorem meth_out_optional (g : Nat) : Meth 79 (.pointer (some ⟨g, 0, none⟩)) "acheron/styx.optional" 113 := ⟨fun w => by kernel_rfl, fun w => by kernel_rfl, fun args w => by kernel_rfl⟩
theorem meth_out_mode (g : Nat) : Meth 79 (.pointer (some ⟨g, 0, none⟩)) "acheron/styx.mode" 111 := ⟨fun w => by kernel_rfl, fun w => by kernel_rfl, fun args w => by kernel_rfl⟩
theorem meth_out_text (g : Nat) : Meth 79 (.pointer (some ⟨g, 0, none⟩)) "acheron/styx.text" 115 := ⟨fun w => by kernel_rfl, fun w => by kernel_rfl, fun args w => by kernel_rfl⟩
theorem meth_out_data (g : Nat) : Meth 79 (.pointer (some ⟨g, 0, none⟩)) "acheron/styx.data" 108 := ⟨fun w => by kernel_rfl, fun w => by kernel_rfl, fun args w => by kernel_rfl⟩
theorem meth_out_names (g : Nat) : Meth 79 (.pointer (some ⟨g, 0, none⟩)) "acheron/styx.names" 112 := ⟨fun w => by kernel_rfl, fun w => by kernel_rfl, fun args w => by kernel_rfl⟩
theorem meth_out_qids (g : Nat) : Meth 79 (.pointer (some ⟨g, 0, none⟩)) "acheron/styx.qids" 114 := ⟨fun w => by kernel_rfl, fun w => by kernel_rfl, fun args w => by kernel_rfl⟩
theorem meth_out_dir (g : Nat) : Meth 79 (.pointer (some ⟨g, 0, none⟩)) "acheron/styx.dir" 109 := ⟨fun w => by kernel_rfl, fun w => by kernel_rfl, fun args w => by kernel_rfl⟩
theorem meth_in_num (g : Nat) : Meth 49 (.pointer (some ⟨g, 0, none⟩)) "acheron/styx.num" 21 := ⟨fun w => by kernel_rfl, fun w => by kernel_rfl, fun args w => by kernel_rfl⟩
theorem meth_in_long (g : Nat) : Meth 49 (.pointer (some ⟨g, 0, none⟩)) "acheron/styx.long" 93 := ⟨fun w => by kernel_rfl, fun w => by kernel_rfl, fun args w => by kernel_rfl⟩
theorem meth_in_optional (g : Nat) : Meth 49 (.pointer (some ⟨g, 0, none⟩)) "acheron/styx.optional" 131 := ⟨fun w => by kernel_rfl, fun w => by kernel_rfl, fun args w => by kernel_rfl⟩
theorem meth_in_mode (g : Nat) : Meth 49 (.pointer (some ⟨g, 0, none⟩)) "acheron/styx.mode" 130 := ⟨fun w => by kernel_rfl, fun w => by kernel_rfl, fun args w => by kernel_rfl⟩
theorem meth_in_text (g : Nat) : Meth 49 (.pointer (some ⟨g, 0, none⟩)) "acheron/styx.text" 96 := ⟨fun w => by kernel_rfl, fun w => by kernel_rfl, fun args w => by kernel_rfl⟩
theorem meth_in_data (g : Nat) : Meth 49 (.pointer (some ⟨g, 0, none⟩)) "acheron/styx.data" 91 := ⟨fun w => by kernel_rfl, fun w => by kernel_rfl, fun args w => by kernel_rfl⟩
theorem meth_in_names (g : Nat) : Meth 49 (.pointer (some ⟨g, 0, none⟩)) "acheron/styx.names" 94 := ⟨fun w => by kernel_rfl, fun w => by kernel_rfl, fun args w => by kernel_rfl⟩
theorem meth_in_qids (g : Nat) : Meth 49 (.pointer (some ⟨g, 0, none⟩)) "acheron/styx.qids" 95 := ⟨fun w => by kernel_rfl, fun w => by kernel_rfl, fun args w => by kernel_rfl⟩
theorem meth_in_dir (g : Nat) : Meth 49 (.pointer (some ⟨g, 0, none⟩)) "acheron/styx.dir" 92 := ⟨fun w => by kernel_rfl, fun w => by kernel_rfl, fun args w => by kernel_rfl⟩
theorem meth_bl_num : Meth 118 (.agg #[]) "acheron/styx.num" 125 := ⟨fun w => by kernel_rfl, fun w => by kernel_rfl, fun args w => by kernel_rfl⟩
theorem meth_bl_long : Meth 118 (.agg #[]) "acheron/styx.long" 122 := ⟨fun w => by kernel_rfl, fun w => by kernel_rfl, fun args w => by kernel_rfl⟩
theorem meth_bl_optional : Meth 118 (.agg #[]) "acheron/styx.optional" 126 := ⟨fun w => by kernel_rfl, fun w => by kernel_rfl, fun args w => by kernel_rfl⟩
theorem meth_bl_mode : Meth 118 (.agg #[]) "acheron/styx.mode" 123 := ⟨fun w => by kernel_rfl, fun w => by kernel_rfl, fun args w => by kernel_rfl⟩
theorem meth_bl_text : Meth 118 (.agg #[]) "acheron/styx.text" 128 := ⟨fun w => by kernel_rfl, fun w => by kernel_rfl, fun args w => by kernel_rfl⟩
theorem meth_bl_data : Meth 118 (.agg #[]) "acheron/styx.data" 120 := ⟨fun w => by kernel_rfl, fun w => by kernel_rfl, fun args w => by kernel_rfl⟩
theorem meth_bl_names : Meth 118 (.agg #[]) "acheron/styx.names" 124 := ⟨fun w => by kernel_rfl, fun w => by kernel_rfl, fun args w => by kernel_rfl⟩
theorem meth_bl_qids : Meth 118 (.agg #[]) "acheron/styx.qids" 127 := ⟨fun w => by kernel_rfl, fun w => by kernel_rfl, fun args w => by kernel_rfl⟩
theorem meth_bl_dir : Meth 118 (.agg #[]) "acheron/styx.dir" 121 := ⟨fun w => by kernel_rfl, fun w => by kernel_rfl, fun args w => by kernel_rfl⟩

def VOut (g : Nat) : Vis where
  T := 79
  v := .pointer (some ⟨g, 0, none⟩)
  σ := OS
  inv st F w := ∃ sv, Out w g sv st ∧ ∀ b, F b ↔ (b = g ∨ some b = sv.ownBlock)
  fit st n := st.l.length + n ≤ 1000000
  fnum := 38
  flong := 110
  fopt := 113
  fmode := 111
  ftext := 115
  fdata := 108
  num st x k := (x, st.num x k)
  long st x := (x, st.least x 0)
  opt st x := (x, st.least x (-1))
  mode st x := (x, st.mode x)
  text st x := (x, st.sized x 2)
  data st x := (x, st.sized x 4)

theorem OS.little_len (st : OS) (n : Int) (k : Nat) : (st.little n k).l.length ≤ st.l.length + k := by
  unfold OS.little; split <;> simp [leB_length]
theorem OS.num_len (st : OS) (n : Int) (k : Nat) : (st.num n k).l.length ≤ st.l.length + k := by
  unfold OS.num; split <;> simp [leB_length]
theorem OS.least_len (st : OS) (n m : Int) : (st.least n m).l.length ≤ st.l.length + 8 := by
  unfold OS.least; simp [leB_length]
theorem OS.mode_len (st : OS) (n : Int) : (st.mode n).l.length ≤ st.l.length + 4 := by
  unfold OS.mode; split <;> exact OS.little_len _ _ _
theorem OS.sized_len (st : OS) (s : ByteArray) (k : Nat) : (st.sized s k).l.length ≤ st.l.length + s.size + k := by
  unfold OS.sized; split
  · exact Nat.le_trans (OS.little_len _ _ _) (by omega)
  · simp [leB_length]; omega
theorem OS.count_len (st : OS) (n : Nat) : (st.count n).l.length ≤ st.l.length + 2 := by
  unfold OS.count
  refine Nat.le_trans (OS.little_len _ _ _) ?_
  split <;> simp

attribute [local irreducible] OS.sized OS.mode OS.count OS.least OS.num OS.little

theorem out_step {g : Nat} {st' : OS} {F : Nat → Prop} {w w' : World} {sv : Value} {p : Addr} {x : Value} {e : Ending} (hF : ∀ b, F b ↔ (b = g ∨ some b = sv.ownBlock)) (hx : w.cell? p = some x)
    (h : OPost g sv.ownBlock st' w e w') : e = .returned (.tuple #[]) ∧ VS (VOut g) F w st' (w.setCell p x) w' := by
  obtain ⟨v', he, ho, hs⟩ := h
  refine ⟨he, fun b => b = g ∨ some b = v'.ownBlock, ⟨v', ho, fun _ => Iff.rfl⟩, fun b hb => ?_, ?_, by simp [World.setCell]⟩
  · rcases hb with e | e
    · exact .inl ((hF b).2 (.inl e))
    · rcases hs.2 with e2 | ⟨r, e2, hr⟩
      · rw [e2] at e; exact .inl ((hF b).2 (.inr e))
      · rw [e2] at e; injection e with e; exact .inr (by omega)
  · exact (hs.1.mono (fun b hb => (hF b).2 hb)).same hx

theorem Wrt.lt_own {w : World} {g : Nat} {t : TypeId} {v : Value} {rest : List Value} {l : List UInt8} (h : Wrt w g t v rest l) {b : Nat} (hb : b = g ∨ some b = v.ownBlock) : b < w.heap.size := by
  rcases hb with rfl | e
  · exact h.lt
  · exact (World.ownsRow.lt h.2 b e.symm).2

theorem oText_step {g b o : Nat} {st : OS} {F : Nat → Prop} {w : World} {sv : Value} {x : ByteArray} (hF : ∀ b, F b ↔ (b = g ∨ some b = sv.ownBlock)) (ho : Out w g sv st) (hx : w.cell? ⟨b, o, none⟩ = some (.string x)) (hl : st.l.length + x.size + 8 ≤ 1000000) :
    Calls Tryd.prog 115 #[.pointer (some ⟨g, 0, none⟩), .pointer (some ⟨b, o, none⟩)] w (fun e w' => e = .returned (.tuple #[]) ∧ VS (VOut g) F w (st.sized x 2) (w.setCell ⟨b, o, none⟩ (.string x)) w') :=
  (oText_any g sv st w ⟨b, o, none⟩ x ho hx hl).mono fun _ _ h => out_step hF hx h
theorem oData_step {g b o : Nat} {st : OS} {F : Nat → Prop} {w : World} {sv : Value} {x : ByteArray} (hF : ∀ b, F b ↔ (b = g ∨ some b = sv.ownBlock)) (ho : Out w g sv st) (hx : w.cell? ⟨b, o, none⟩ = some (.string x)) (hl : st.l.length + x.size + 8 ≤ 1000000) :
    Calls Tryd.prog 108 #[.pointer (some ⟨g, 0, none⟩), .pointer (some ⟨b, o, none⟩)] w (fun e w' => e = .returned (.tuple #[]) ∧ VS (VOut g) F w (st.sized x 4) (w.setCell ⟨b, o, none⟩ (.string x)) w') :=
  (oData_any g sv st w ⟨b, o, none⟩ x ho hx hl).mono fun _ _ h => out_step hF hx h

theorem vout_text (g : Nat) (st : OS) (b o : Nat) (x : ByteArray) (hfit : (VOut g).fit st (x.size + 8)) : VCall (VOut g) (VOut g).ftext #[(VOut g).v, .pointer (some ⟨b, o, none⟩)] st ⟨b, o, none⟩ (.string x) (.string ((VOut g).text st x).1) ((VOut g).text st x).2 := by
  rintro F w ⟨sv, ho, hF⟩ _ hx _
  have h1 : st.l.length + (x.size + 8) ≤ 1000000 := hfit
  exact oText_step hF ho hx (by omega)
theorem vout_data (g : Nat) (st : OS) (b o : Nat) (x : ByteArray) (hfit : (VOut g).fit st (x.size + 8)) : VCall (VOut g) (VOut g).fdata #[(VOut g).v, .pointer (some ⟨b, o, none⟩)] st ⟨b, o, none⟩ (.string x) (.string ((VOut g).data st x).1) ((VOut g).data st x).2 := by
  rintro F w ⟨sv, ho, hF⟩ _ hx _
  have h1 : st.l.length + (x.size + 8) ≤ 1000000 := hfit
  exact oData_step hF ho hx (by omega)
theorem VOut_good (g : Nat) : (VOut g).Good where
  mnum := meth_out_num g
  mlong := meth_out_long g
  mopt := meth_out_optional g
  mmode := meth_out_mode g
  mtext := meth_out_text g
  mdata := meth_out_data g
  fit_le st m n h hm := by simp only [VOut] at *; omega
  hnum st b o x k hk hfit := fun F w ⟨sv, ho, hF⟩ _ hx _ => (oNum_any g sv st w ⟨b, o, none⟩ x k ho hx hk (by simp only [VOut] at hfit; omega)).mono fun _ _ h => out_step hF hx h
  hlong st b o x hr hfit := fun F w ⟨sv, ho, hF⟩ _ hx _ => (oLong_any g sv st w ⟨b, o, none⟩ x ho hx (by simp only [VOut] at hfit; omega) hr.1 hr.2).mono fun _ _ h => out_step hF hx h
  hopt st b o x hr hfit := fun F w ⟨sv, ho, hF⟩ _ hx _ => (oOptional_any g sv st w ⟨b, o, none⟩ x ho hx (by simp only [VOut] at hfit; omega) hr.1 hr.2).mono fun _ _ h => out_step hF hx h
  hmode st b o x hfit := fun F w ⟨sv, ho, hF⟩ _ hx _ => (oMode_any g sv st w ⟨b, o, none⟩ x ho hx (by simp only [VOut] at hfit; omega)).mono fun _ _ h => out_step hF hx h
  htext st b o x hfit := vout_text g st b o x hfit
  hdata st b o x hfit := vout_data g st b o x hfit
  fnumS st x k n hk h := by have := OS.num_len st x k; simp only [VOut] at *; omega
  flongS st x n h := by have := OS.least_len st x 0; simp only [VOut] at *; omega
  foptS st x n h := by have := OS.least_len st x (-1); simp only [VOut] at *; omega
  fmodeS st x n h := by have := OS.mode_len st x; simp only [VOut] at *; omega
  ftextS st x n h := by have := OS.sized_len st x 2; simp only [VOut] at *; omega
  fdataS st x n h := by have := OS.sized_len st x 4; simp only [VOut] at *; omega
  drew st F w h := h
  lt st F w b := fun ⟨sv, ho, hF⟩ hb => ho.lt_own ((hF b).1 hb)
  keep st F w w' S := fun ⟨sv, ho, hF⟩ hfr hS => ⟨sv, ho.fr hfr (hS g ((hF g).2 (.inl rfl))) (fun r hr => hS r ((hF r).2 (.inr hr.symm))), hF⟩

def VIn (g r : Nat) : Vis where
  T := 49
  v := .pointer (some ⟨g, 0, none⟩)
  σ := IS
  inv st F w := Inp w g r st ∧ st.Ok ∧ ∀ b, F b ↔ (b = g ∨ b = r)
  fit _ _ := True
  fnum := 21
  flong := 93
  fopt := 131
  fmode := 130
  ftext := 96
  fdata := 91
  num st _ k := st.num k
  long st _ := st.least 0
  opt st _ := st.least (-1)
  mode st _ := st.mode
  text st _ := st.sized 2
  data st _ := st.sized 4

theorem IS.least_ok {st : IS} (h : st.Ok) (m : Int) : (st.least m).2.Ok := by
  unfold IS.least rdLong
  by_cases he : st.e ≠ 0
  · simp only [if_pos he]; exact ⟨h.a0, h.a1, h.m⟩
  · by_cases hn : 8 ≤ st.s.size - st.a
    · simp only [if_neg he, if_pos hn]; exact ⟨by have := h.a0; show 0 ≤ st.a + 8; omega, by show st.a + 8 ≤ st.s.size; omega, h.m⟩
    · simp only [if_neg he, if_neg hn]; exact ⟨h.a0, h.a1, h.m⟩
theorem IS.mode_ok {st : IS} (h : st.Ok) : st.mode.2.Ok := IS.num_ok h (by omega)

theorem in_step {g r : Nat} {st' : IS} {F : Nat → Prop} {w w' : World} {p : Addr} {u : Value} {e : Ending} (hF : ∀ b, F b ↔ (b = g ∨ b = r)) (hok : st'.Ok)
    (h : IPost (.tuple #[]) g r st' (w.setCell p u) e w') : e = .returned (.tuple #[]) ∧ VS (VIn g r) F w st' (w.setCell p u) w' := by
  obtain ⟨he, hi, hf⟩ := h
  exact ⟨he, F, ⟨hi, hok, hF⟩, fun _ x => .inl x, hf.mono (fun b hb => (hF b).2 hb), by simp [World.setCell]⟩

theorem VIn_good (g r : Nat) : (VIn g r).Good where
  mnum := meth_in_num g
  mlong := meth_in_long g
  mopt := meth_in_optional g
  mmode := meth_in_mode g
  mtext := meth_in_text g
  mdata := meth_in_data g
  fit_le _ _ _ _ _ := trivial
  hnum st b o x k hk _ := fun F w ⟨hi, hok, hF⟩ hb hx hz => (iNum_any g r st w b o _ k hi hok (by omega) hx hz (fun e => hb ((hF b).2 (.inl e))) (fun e => hb ((hF b).2 (.inr e)))).mono fun _ _ h => in_step hF (IS.num_ok hok (by omega)) h
  hlong st b o x _ _ := fun F w ⟨hi, hok, hF⟩ hb hx hz => (iLong_any g r st w b o _ hi hok hx hz (fun e => hb ((hF b).2 (.inl e))) (fun e => hb ((hF b).2 (.inr e)))).mono fun _ _ h => in_step hF (IS.least_ok hok 0) h
  hopt st b o x _ _ := fun F w ⟨hi, hok, hF⟩ hb hx hz => (iOptional_any g r st w b o _ hi hok hx hz (fun e => hb ((hF b).2 (.inl e))) (fun e => hb ((hF b).2 (.inr e)))).mono fun _ _ h => in_step hF (IS.least_ok hok (-1)) h
  hmode st b o x _ := fun F w ⟨hi, hok, hF⟩ hb hx hz => (iMode_any g r st w b o _ hi hok hx hz (fun e => hb ((hF b).2 (.inl e))) (fun e => hb ((hF b).2 (.inr e)))).mono fun _ _ h => in_step hF (IS.mode_ok hok) h
  htext st b o x _ := fun F w ⟨hi, hok, hF⟩ hb hx hz => (iText_any g r st w b o _ hi hok hx hz (fun e => hb ((hF b).2 (.inl e))) (fun e => hb ((hF b).2 (.inr e)))).mono fun _ _ h => in_step hF (IS.sized_ok hok (by omega)) h
  hdata st b o x _ := fun F w ⟨hi, hok, hF⟩ hb hx hz => (iData_any g r st w b o _ hi hok hx hz (fun e => hb ((hF b).2 (.inl e))) (fun e => hb ((hF b).2 (.inr e)))).mono fun _ _ h => in_step hF (IS.sized_ok hok (by omega)) h
  fnumS _ _ _ _ _ _ := trivial
  flongS _ _ _ _ := trivial
  foptS _ _ _ _ := trivial
  fmodeS _ _ _ _ := trivial
  ftextS _ _ _ _ := trivial
  fdataS _ _ _ _ := trivial
  drew st F w h := ⟨h.1.drew, h.2⟩
  lt st F w b := fun ⟨hi, _, hF⟩ hb => by rcases (hF b).1 hb with rfl | rfl; exact hi.b.lt; exact hi.r.lt
  keep st F w w' S := fun ⟨hi, hok, hF⟩ hfr hS => ⟨hi.fr hfr (hS g ((hF g).2 (.inl rfl))) (hS r ((hF r).2 (.inr rfl))), hok, hF⟩

def VBl : Vis where
  T := 118
  v := .agg #[]
  σ := Unit
  inv _ F _ := ∀ b, ¬ F b
  fit _ _ := True
  fnum := 125
  flong := 122
  fopt := 126
  fmode := 123
  ftext := 128
  fdata := 120
  num _ _ _ := (0, ())
  long _ _ := (0, ())
  opt _ _ := (0, ())
  mode _ _ := (0, ())
  text _ _ := (⟨#[]⟩, ())
  data _ _ := (⟨#[]⟩, ())

theorem bl_num (b o : Nat) (x : Int) (k : Nat) : VCall VBl 125 #[.agg #[], .pointer (some ⟨b, o, none⟩), .int .i64 (k : Nat)] () ⟨b, o, none⟩ (.int .i64 x) (.int .i64 0) () := by
  intro F w hi hb hx hz
  have HF := Lib.hid ((Fr.refl F (w.setCell ⟨b, o, none⟩ (.int .i64 0))))
  have Hi := Lib.hid hi
  have hlt := cell_lt hx
  have hne : b ≠ w.heap.size := by simp at hlt; omega
  have Hx := Lib.hid hx
  have x1 : (w.alloc (.cells #[] 118)).cell? ⟨b, o, none⟩ = some (.int .i64 x) := ((Fr.refl none_ w).alloc _).cell hx (fun x => x)
  have z1 : (w.alloc (.cells #[] 118)).frozen? ⟨b, o, none⟩ = false := ((Fr.refl none_ w).alloc _).frozen hx hz (fun x => x)
  have HG : Hid (VS VBl F w () (w.setCell ⟨b, o, none⟩ (.int .i64 0)) ((w.alloc (.cells #[] 118)).setCell ⟨b, o, none⟩ (.int .i64 0))) :=
    Lib.hid ⟨F, hi, fun _ x => .inl x, ((Fr.refl F w).alloc _).setCong _ hb, by simp [World.setCell]⟩
  clear hi hb hx hz hlt HF Hi
  go_enter Tryd.func125, Tryd.ntmps125
  go_wp2
  go_end0
  exact ⟨rfl, HG.out⟩

theorem bl_long (b o : Nat) (x : Int) : VCall VBl 122 #[.agg #[], .pointer (some ⟨b, o, none⟩)] () ⟨b, o, none⟩ (.int .i64 x) (.int .i64 0) () := by
  intro F w hi hb hx hz
  have HF := Lib.hid ((Fr.refl F (w.setCell ⟨b, o, none⟩ (.int .i64 0))))
  have Hi := Lib.hid hi
  have hlt := cell_lt hx
  have hne : b ≠ w.heap.size := by simp at hlt; omega
  have Hx := Lib.hid hx
  have x1 : (w.alloc (.cells #[] 118)).cell? ⟨b, o, none⟩ = some (.int .i64 x) := ((Fr.refl none_ w).alloc _).cell hx (fun x => x)
  have z1 : (w.alloc (.cells #[] 118)).frozen? ⟨b, o, none⟩ = false := ((Fr.refl none_ w).alloc _).frozen hx hz (fun x => x)
  have HG : Hid (VS VBl F w () (w.setCell ⟨b, o, none⟩ (.int .i64 0)) ((w.alloc (.cells #[] 118)).setCell ⟨b, o, none⟩ (.int .i64 0))) :=
    Lib.hid ⟨F, hi, fun _ x => .inl x, ((Fr.refl F w).alloc _).setCong _ hb, by simp [World.setCell]⟩
  clear hi hb hx hz hlt HF Hi
  go_enter Tryd.func122, Tryd.ntmps122
  go_wp2
  go_end0
  exact ⟨rfl, HG.out⟩

theorem bl_optional (b o : Nat) (x : Int) : VCall VBl 126 #[.agg #[], .pointer (some ⟨b, o, none⟩)] () ⟨b, o, none⟩ (.int .i64 x) (.int .i64 0) () := by
  intro F w hi hb hx hz
  have HF := Lib.hid ((Fr.refl F (w.setCell ⟨b, o, none⟩ (.int .i64 0))))
  have Hi := Lib.hid hi
  have hlt := cell_lt hx
  have hne : b ≠ w.heap.size := by simp at hlt; omega
  have Hx := Lib.hid hx
  have x1 : (w.alloc (.cells #[] 118)).cell? ⟨b, o, none⟩ = some (.int .i64 x) := ((Fr.refl none_ w).alloc _).cell hx (fun x => x)
  have z1 : (w.alloc (.cells #[] 118)).frozen? ⟨b, o, none⟩ = false := ((Fr.refl none_ w).alloc _).frozen hx hz (fun x => x)
  have HG : Hid (VS VBl F w () (w.setCell ⟨b, o, none⟩ (.int .i64 0)) ((w.alloc (.cells #[] 118)).setCell ⟨b, o, none⟩ (.int .i64 0))) :=
    Lib.hid ⟨F, hi, fun _ x => .inl x, ((Fr.refl F w).alloc _).setCong _ hb, by simp [World.setCell]⟩
  clear hi hb hx hz hlt HF Hi
  go_enter Tryd.func126, Tryd.ntmps126
  go_wp2
  go_end0
  exact ⟨rfl, HG.out⟩

theorem bl_mode (b o : Nat) (x : Int) : VCall VBl 123 #[.agg #[], .pointer (some ⟨b, o, none⟩)] () ⟨b, o, none⟩ (.int .i64 x) (.int .i64 0) () := by
  intro F w hi hb hx hz
  have HF := Lib.hid ((Fr.refl F (w.setCell ⟨b, o, none⟩ (.int .i64 0))))
  have Hi := Lib.hid hi
  have hlt := cell_lt hx
  have hne : b ≠ w.heap.size := by simp at hlt; omega
  have Hx := Lib.hid hx
  have x1 : (w.alloc (.cells #[] 118)).cell? ⟨b, o, none⟩ = some (.int .i64 x) := ((Fr.refl none_ w).alloc _).cell hx (fun x => x)
  have z1 : (w.alloc (.cells #[] 118)).frozen? ⟨b, o, none⟩ = false := ((Fr.refl none_ w).alloc _).frozen hx hz (fun x => x)
  have HG : Hid (VS VBl F w () (w.setCell ⟨b, o, none⟩ (.int .i64 0)) ((w.alloc (.cells #[] 118)).setCell ⟨b, o, none⟩ (.int .i64 0))) :=
    Lib.hid ⟨F, hi, fun _ x => .inl x, ((Fr.refl F w).alloc _).setCong _ hb, by simp [World.setCell]⟩
  clear hi hb hx hz hlt HF Hi
  go_enter Tryd.func123, Tryd.ntmps123
  go_wp2
  go_end0
  exact ⟨rfl, HG.out⟩

theorem bl_text (b o : Nat) (x : ByteArray) : VCall VBl 128 #[.agg #[], .pointer (some ⟨b, o, none⟩)] () ⟨b, o, none⟩ (.string x) (.string ⟨#[]⟩) () := by
  intro F w hi hb hx hz
  have HF := Lib.hid ((Fr.refl F (w.setCell ⟨b, o, none⟩ (.string ⟨#[]⟩))))
  have Hi := Lib.hid hi
  have hlt := cell_lt hx
  have hne : b ≠ w.heap.size := by simp at hlt; omega
  have Hx := Lib.hid hx
  have x1 : (w.alloc (.cells #[] 118)).cell? ⟨b, o, none⟩ = some (.string x) := ((Fr.refl none_ w).alloc _).cell hx (fun x => x)
  have z1 : (w.alloc (.cells #[] 118)).frozen? ⟨b, o, none⟩ = false := ((Fr.refl none_ w).alloc _).frozen hx hz (fun x => x)
  have HG : Hid (VS VBl F w () (w.setCell ⟨b, o, none⟩ (.string ⟨#[]⟩)) ((w.alloc (.cells #[] 118)).setCell ⟨b, o, none⟩ (.string ⟨#[]⟩))) :=
    Lib.hid ⟨F, hi, fun _ x => .inl x, ((Fr.refl F w).alloc _).setCong _ hb, by simp [World.setCell]⟩
  clear hi hb hx hz hlt HF Hi
  go_enter Tryd.func128, Tryd.ntmps128
  go_wp2
  go_end0
  exact ⟨rfl, HG.out⟩

theorem bl_data (b o : Nat) (x : ByteArray) : VCall VBl 120 #[.agg #[], .pointer (some ⟨b, o, none⟩)] () ⟨b, o, none⟩ (.string x) (.string ⟨#[]⟩) () := by
  intro F w hi hb hx hz
  have HF := Lib.hid ((Fr.refl F (w.setCell ⟨b, o, none⟩ (.string ⟨#[]⟩))))
  have Hi := Lib.hid hi
  have hlt := cell_lt hx
  have hne : b ≠ w.heap.size := by simp at hlt; omega
  have Hx := Lib.hid hx
  have x1 : (w.alloc (.cells #[] 118)).cell? ⟨b, o, none⟩ = some (.string x) := ((Fr.refl none_ w).alloc _).cell hx (fun x => x)
  have z1 : (w.alloc (.cells #[] 118)).frozen? ⟨b, o, none⟩ = false := ((Fr.refl none_ w).alloc _).frozen hx hz (fun x => x)
  have HG : Hid (VS VBl F w () (w.setCell ⟨b, o, none⟩ (.string ⟨#[]⟩)) ((w.alloc (.cells #[] 118)).setCell ⟨b, o, none⟩ (.string ⟨#[]⟩))) :=
    Lib.hid ⟨F, hi, fun _ x => .inl x, ((Fr.refl F w).alloc _).setCong _ hb, by simp [World.setCell]⟩
  clear hi hb hx hz hlt HF Hi
  go_enter Tryd.func120, Tryd.ntmps120
  go_wp2
  go_end0
  exact ⟨rfl, HG.out⟩

theorem VBl_good : VBl.Good where
  mnum := meth_bl_num
  mlong := meth_bl_long
  mopt := meth_bl_optional
  mmode := meth_bl_mode
  mtext := meth_bl_text
  mdata := meth_bl_data
  fit_le _ _ _ _ _ := trivial
  hnum st b o x k _ _ := bl_num b o x k
  hlong st b o x _ _ := bl_long b o x
  hopt st b o x _ _ := bl_optional b o x
  hmode st b o x _ := bl_mode b o x
  htext st b o x _ := bl_text b o x
  hdata st b o x _ := bl_data b o x
  fnumS _ _ _ _ _ _ := trivial
  flongS _ _ _ _ := trivial
  foptS _ _ _ _ := trivial
  fmodeS _ _ _ _ := trivial
  ftextS _ _ _ _ := trivial
  fdataS _ _ _ _ := trivial
  drew st F w h := h
  lt st F w b h hb := absurd hb (h b)
  keep st F w w' S h _ _ := h
end Go.Proofs.YtggkebngkkddhaaDoor
