/- The walks through the methods of a writer. -/
import Derived.Test.YtggkebngkkddhaaDoorA4
namespace Go.Proofs.YtggkebngkkddhaaDoor
open Go.RowKit

theorem WSt.of_fr {g : Nat} {own : Option Nat} {w w' : World} (h : Fr none_ w w') : WSt g own w own w' := ⟨h.mono (fun _ x => x.elim), .inl rfl⟩
theorem WSt.own_fr {g : Nat} {own own' : Option Nat} {w w1 w' : World} (hf : Fr none_ w w1) (h : WSt g own w1 own' w') : WSt g own w own' w' := (WSt.of_fr hf).trans h
theorem Wrt.fr {S : Nat → Prop} {w w' : World} {g : Nat} {t : TypeId} {v : Value} {rest : List Value} {l : List UInt8} (h : Wrt w g t v rest l) (hf : Fr S w w') (hg : ¬ S g) (ho : ∀ r, v.ownBlock = some r → ¬ S r) : Wrt w' g t v rest l := by
  refine ⟨hf.blk h.1 hg, h.2.1, ?_⟩
  rcases h.2.2 with h' | ⟨g', cap, cur, rfl, hb, hh, r⟩
  · exact .inl h'
  · refine .inr ⟨g', cap, cur, rfl, hb, ?_, r⟩
    have hlt : g' < w.heap.size := by
      rcases Nat.lt_or_ge g' w.heap.size with hlt | hge
      · exact hlt
      · rw [Array.getElem?_eq_none hge] at hh; cases hh
    exact (hf.2 g' hlt (ho g' rfl)).trans hh
theorem Wrt.fr0 {w w' : World} {g : Nat} {t : TypeId} {v : Value} {rest : List Value} {l : List UInt8} (h : Wrt w g t v rest l) (hf : Fr none_ w w') : Wrt w' g t v rest l := h.fr hf (fun x => x) (fun _ _ x => x)

def WPost (c : Int) (g : Nat) (t : TypeId) (own : Option Nat) (rest : List Value) (l : List UInt8) (w : World) (e : Ending) (w' : World) : Prop :=
  ∃ v', e = .returned (.int .i64 c) ∧ Wrt w' g t v' rest l ∧ WSt g own w v'.ownBlock w'

theorem row_slice {w : World} {base e size n : Nat} {v : Value} {xs : List Value} (h : w.ownsRow base e size v n xs) : ∃ A c, v = .slice A n c := by
  rcases h.2 with ⟨e, h'⟩ | ⟨g', cap, cur, e, _⟩
  · exact ⟨none, 0, by rw [e, h']⟩
  · exact ⟨_, _, e⟩
theorem WSt.raw {g : Nat} {w w' : World} {t : TypeId} {v v' : Value} {rest : List Value} {l : List UInt8} (_hW : Wrt w g t v rest l)
    (h2 : w.grownBy w' v.ownBlock) (h3 : v'.ownBlock = v.ownBlock ∨ ∃ r, v'.ownBlock = some r ∧ w.heap.size ≤ r) : WSt g v.ownBlock w v'.ownBlock (w'.setCell ⟨g, 0, none⟩ v') := by
  refine ⟨⟨?_, fun b hb hs => ?_, h2.os, h2.output⟩, h3⟩
  · have := h2.size; simp [World.setCell]; omega
  · have e1 := Below.heap_setCell w' ⟨g, 0, none⟩ v' b (fun e => hs (.inl e))
    exact e1.trans (h2.block b hb (fun e => hs (.inr e)))

/-- Where the row lies behind an append of a string. -/
theorem run_append_string_at {P : Program} (w : World) (base : Nat) (t u ty e : TypeId) (i : TypeInfo) (ht : P.underlying t = some (.slice e)) (hu : P.underlying u = some .string) (hi : P.info? e = some i) (hz : i.zero = some (.int .u8 0))
    (hsize : i.size = 1) (hby : i.bytes = 1) (v : Value) (n : Nat) (xs : List Value) (hown : w.ownsRow base e 1 v n xs) (s : ByteArray)
    (h63 : n + s.size ≤ maxLen) (hbytes : n + s.size ≤ 140737488355328) (hbase : base ≤ w.heap.size) :
    ∃ v' w', (Builtin.append_ #[t, u] ty #[v, .string s]).run P w = .ok v' w' ∧ w'.ownsRow base e 1 v' (n + s.size) (xs ++ Lib.strCells s) ∧ w.grownBy w' v.ownBlock ∧
      (v'.ownBlock = v.ownBlock ∨ ∃ r, v'.ownBlock = some r ∧ w.heap.size ≤ r) := by
  obtain ⟨v', w', hr, h1, h2, _⟩ := Lib.run_append_own_string (P := P) w base t u ty e i ht hu hi hz hsize hby v n xs hown s h63 hbytes hbase
  refine ⟨v', w', hr, h1, h2, ?_⟩
  have hm : n + s.size ≤ 9223372036854775807 := by simp only [maxLen] at h63; omega
  rcases hown.2 with ⟨rfl, rfl⟩ | ⟨g, cap, cur, rfl, hbg, hg, hnc, hcm, hcs, htake⟩
  · have hx : xs = [] := List.eq_nil_of_length_eq_zero (by simpa using hown.1)
    subst hx
    obtain ⟨v2, w2, hr2, g1, _, _⟩ := Lib.run_append_own_string (P := P) w w.heap.size t u ty e i ht hu hi hz hsize hby _ 0 [] (World.ownsRow_nil w _ e 1) s h63 hbytes (Nat.le_refl _)
    rw [hr] at hr2
    injection hr2 with e1 e2
    subst e1 e2
    cases ho : v'.ownBlock with
    | none => exact .inl rfl
    | some r => exact .inr ⟨r, rfl, (World.ownsRow.lt g1 r ho).1⟩
  · by_cases hroom : n + s.size ≤ cap
    · have hr2 := Lib.run_append_room_string (P := P) w t u ty e i ht hu hi hsize g n cap cur hg s hroom (by omega)
      rw [hr] at hr2
      injection hr2 with e1 e2
      subst e1
      exact .inl rfl
    · have holds : ∀ j u, xs[j]? = some u → w.cell? ((⟨g, 0, none⟩ : Addr).add j) = some u := hown.cells (g := g) rfl
      have hr2 := Lib.run_append_grow_string (P := P) w t u ty e i (.int .u8 0) ht hu hi hz ⟨g, 0, none⟩ n cap xs (by rw [hsize]; exact hown.1) holds s (by omega) (by omega) (by rw [hby]; exact growslice_fits (by omega) (by omega))
      rw [hr] at hr2
      injection hr2 with e1 e2
      subst e1
      exact .inr ⟨_, rfl, Nat.le_refl _⟩
theorem wpList_append_string_at {P : Program} {w : World} {ops : Array Oper} {rest : List Oper} {o : Oper} {a : Act} {Q : Exit → Act → World → Prop} (hgd : o.guard = none) (sl x : Operand) (t u : TypeId)
    (ho : o.op = .call { callee := .builtin .append, args := #[sl, x], argTypes := #[t, u] })
    (base : Nat) (e : TypeId) (i : TypeInfo) (ht : P.underlying t = some (.slice e)) (hu : P.underlying u = some .string) (hi : P.info? e = some i) (hz : i.zero = some (.int .u8 0))
    (hsize : i.size = 1) (hby : i.bytes = 1)
    (v : Value) (n : Nat) (xs : List Value) (hs : a.eval sl = v) (hown : w.ownsRow base e 1 v n xs) (s : ByteArray) (hx : a.eval x = .string s)
    (h63 : n + s.size ≤ maxLen) (hbytes : n + s.size ≤ 140737488355328) (hbase : base ≤ w.heap.size)
    (h : ∀ v' w', w'.ownsRow base e 1 v' (n + s.size) (xs ++ Lib.strCells s) → w.grownBy w' v.ownBlock → (v'.ownBlock = v.ownBlock ∨ ∃ r, v'.ownBlock = some r ∧ w.heap.size ≤ r) → wpList P ops Q rest (a.put o.dst v') w') : wpList P ops Q (o :: rest) a w := by
  refine wpList_plain hgd fun K hK => ?_
  obtain ⟨v', w', hr, h2, h3, h4⟩ := run_append_string_at (P := P) w base t u o.type e i ht hu hi hz hsize hby v n xs hown s h63 hbytes hbase
  unfold Oper.wp execOp
  simp only [ho, resolve, invoke, builtin, Sem.run_bind, Sem.run_pure, Result.andThen_ok, List.map_toArray, List.map_cons, List.map_nil, hs, hx, hr]
  exact hK _ _ (h v' w' h2 h3 h4)

section
variable (g : Nat) (t : TypeId) (v : Value) (rest : List Value) (l : List UInt8) (n : Int) (k : Nat) (w : World)

theorem wLittle_yes (h : Wrt w g t v rest l) (hk : k = 1 ∨ k = 2 ∨ k = 4) (hl : l.length ≤ 1000000) (h0 : 0 ≤ n) (h1 : n < 2 ^ (8 * k)) :
    Calls Tryd.prog 37 #[.pointer (some ⟨g, 0, none⟩), .int .i64 n, .int .i64 k] w (WPost 0 g t v.ownBlock rest (l ++ leB n k) w) := by
  have hw := Lib.hid (fun W => width_ok (k : Int) (by omega) W)
  have hz : n / 2 ^ (8 * (k : Int)).toNat = 0 := by
    have e : (8 * (k : Int)).toNat = 8 * k := by omega
    rw [e]; exact Int.ediv_eq_zero_of_lt h0 h1
  have Hz := Lib.hid hz
  have H := Lib.hid (fun W (hW : Wrt W g t v rest l) => wlittle_any g t v rest l n k W hW (by omega) hl)
  have hb : decide ((k : Int) < 8) = true := by simp; omega
  have hk8 : k < 8 := by omega
  have hm : IntKind.i64.wrap (8 * (k : Int)) = 8 * k := IntWalk.i64_in _ (by omega)
  have hm0 : (0 : Int) ≤ 8 * k := by omega
  clear h1 hk hz hl
  go_enter Tryd.func37, Tryd.ntmps37
  go_wp2_with fail
  refine (hw.out _).mono ?_
  rintro _ w1 ⟨rfl, hf⟩
  have hz := Hz.out
  have HW := Lib.hid (h.fr0 hf)
  have HF := Lib.hid hf
  clear hf Hz h hw
  go_wp2_with fail
  refine (H.out _ HW.out).mono ?_
  rintro _ w2 ⟨v', rfl, hw2, hs2⟩
  have HW2 := Lib.hid hw2
  have HS2 := Lib.hid (WSt.own_fr HF.out hs2)
  clear hw2 hs2 H HW HF hz hm hm0
  go_wp2
  go_ret
  exact ⟨v', rfl, HW2.out, HS2.out⟩

theorem wLittle_no (h : w.heap.size = w.heap.size) (hk : k = 1 ∨ k = 2 ∨ k = 4) (hn : n < 0 ∨ 2 ^ (8 * k) ≤ n) :
    Calls Tryd.prog 37 #[.pointer (some ⟨g, 0, none⟩), .int .i64 n, .int .i64 k] w (Ret (.int .i64 11) w) := by
  have hw := Lib.hid (fun W => width_ok (k : Int) (by omega) W)
  have hb : decide ((k : Int) < 8) = true := by simp; omega
  have hk8 : k < 8 := by omega
  have hm : IntKind.i64.wrap (8 * (k : Int)) = 8 * k := IntWalk.i64_in _ (by omega)
  have hm0 : (0 : Int) ≤ 8 * k := by omega
  by_cases h0 : n < 0
  · clear hn hk h
    go_enter Tryd.func37, Tryd.ntmps37
    go_wp2_with fail
    refine (hw.out _).mono ?_
    rintro _ w1 ⟨rfl, hf⟩
    have HF := Lib.hid hf
    clear hf hw
    go_wp2
    all_goals (go_ret; exact ⟨rfl, HF.out⟩)
  · have h1 : 0 ≤ n := by omega
    have hz : (n / 2 ^ (8 * k) != 0) = true := by
      rw [bne_iff_ne]
      have h2 : 2 ^ (8 * k) ≤ n := by omega
      have hp : (0 : Int) < 2 ^ (8 * k) := Int.pow_pos (by decide)
      have := Int.le_ediv_of_mul_le (a := 1) (b := n) hp (by omega)
      omega
    have Hz := Lib.hid hz
    clear hn hk h0 hz h
    go_enter Tryd.func37, Tryd.ntmps37
    go_wp2_with fail
    refine (hw.out _).mono ?_
    rintro _ w1 ⟨rfl, hf⟩
    have HF := Lib.hid hf
    have hz := Hz.out
    clear hf hw Hz
    go_wp2
    go_ret
    exact ⟨rfl, HF.out⟩

theorem wSigned_any (h : Wrt w g t v rest l) (hl : l.length ≤ 1000000) (h0 : -9223372036854775808 ≤ n) (h1 : n ≤ 9223372036854775807) :
    Calls Tryd.prog 119 #[.pointer (some ⟨g, 0, none⟩), .int .i64 n, .int .i64 8] w (WPost 0 g t v.ownBlock rest (l ++ leB n 8) w) := by
  have hw := Lib.hid (fun W => width_ok 8 (by omega) W)
  have H : Hid (∀ W, Wrt W g t v rest l → Calls Tryd.prog 60 #[.pointer (some ⟨g, 0, none⟩), .int .i64 n, .int .i64 8] W (fun e w' => ∃ v', e = .returned (.int .i64 0) ∧ Wrt w' g t v' rest (l ++ leB n 8) ∧ WSt g v.ownBlock W v'.ownBlock w')) := Lib.hid (fun W hW => wlittle_any g t v rest l n 8 W hW (by omega) hl)
  have hd : (n / 9223372036854775808 != 0) = false ∨ ((n / 9223372036854775808 != 0) = true ∧ (n / 9223372036854775808 != -1) = false) := by
    have : n / 9223372036854775808 = 0 ∨ n / 9223372036854775808 = -1 := by omega
    rcases this with e | e <;> simp [e]
  clear h0 h1 hl
  have HH := Lib.hid h
  clear h
  go_enter Tryd.func119, Tryd.ntmps119
  go_wp2_with fail
  refine (hw.out _).mono ?_
  rintro _ w1 ⟨rfl, hf⟩
  have HW := Lib.hid (HH.out.fr0 hf)
  have HF := Lib.hid hf
  clear hf HH hw
  rcases hd with hd | ⟨hd, hd2⟩
  all_goals
    go_wp2_with fail
    refine (H.out _ HW.out).mono ?_
    rintro _ w2 ⟨v', rfl, hw2, hs2⟩
    have HW2 := Lib.hid hw2
    have HS2 := Lib.hid (WSt.own_fr HF.out hs2)
    clear hw2 hs2 H HW HF
    go_wp2
    go_ret
    exact ⟨v', rfl, HW2.out, HS2.out⟩

theorem wRaw_any (s : ByteArray) (h : Wrt w g t v rest l) (hl : l.length + s.size ≤ 1000000) :
    Calls Tryd.prog 42 #[.pointer (some ⟨g, 0, none⟩), .string s] w (WPost 0 g t v.ownBlock rest (l ++ s.data.toList) w) := by
  obtain ⟨i0, hi, hz0, hz1, hz2⟩ := info_parts info5
  obtain ⟨A, c, rfl⟩ := row_slice h.2
  have c0 := h.1.cell0
  have HH := Lib.hid h
  have h63 : l.length + s.size ≤ maxLen := by unfold maxLen; omega
  have hby : l.length + s.size ≤ 140737488355328 := by omega
  have hba : g + 1 ≤ w.heap.size := h.lt
  have H63 := Lib.hid h63
  have Hby := Lib.hid hby
  have Hba := Lib.hid hba
  clear h h63 hby hba hl
  go_enter Tryd.func42, Tryd.ntmps42
  go_wp2_with (at_builtin; refine wpList_append_string_at rfl (.tmp 11) (.tmp 12) 80 9 rfl (g + 1) 5 i0 Tryd.underlying80 Tryd.underlying9 hi hz0 hz1 hz2 (.slice A l.length c) l.length (bcells l) rfl HH.out.2 s rfl H63.out Hby.out Hba.out ?_; intro v' w1 h1 h2 h3; obtain ⟨A', c', rfl⟩ := row_slice h1; have hb : Blk w1 g t (.slice A l.length c :: rest).toArray := (h2.block g HH.out.lt HH.out.own_ne).trans HH.out.1; have c1 := hb.cell0; have f1 := hb.frozen 0; have HW := Lib.hid (Wrt.put (l' := l ++ s.data.toList) hb h1 (by simp) (by simp [bcells, Lib.strCells])); have HS := Lib.hid (WSt.raw HH.out h2 h3); clear hb h1 h2 h3 c0)
  go_ret
  exact ⟨_, rfl, HW.out, HS.out⟩
theorem wLen_any (h : Wrt w g t v rest l) (hl : l.length ≤ 1000000) :
    Calls Tryd.prog 39 #[.pointer (some ⟨g, 0, none⟩)] w (fun e w' => e = .returned (.int .i64 l.length) ∧ w = w') := by
  have c0 := h.1.cell0
  obtain ⟨A, c, e⟩ : ∃ A c, v = .slice A l.length c := by
    rcases h.2.2 with ⟨e, h'⟩ | ⟨g', cap, cur, e, _⟩
    · exact ⟨none, 0, by rw [e, h']⟩
    · exact ⟨_, _, e⟩
  rw [e] at c0
  clear e h
  go_enter Tryd.func39, Tryd.ntmps39
  go_wp2
  go_ret
  exact ⟨rfl, rfl⟩
theorem wText_any (h : Wrt w g t v rest l) :
    Calls Tryd.prog 43 #[.pointer (some ⟨g, 0, none⟩)] w (fun e w' => e = .returned (.string ⟨l.toArray⟩) ∧ w = w') := by
  rcases h.2.2 with ⟨rfl, h'⟩ | ⟨g', cap, cur, rfl, hb, hh, hn, hm, hs, ht⟩
  · have hl : l = [] := List.eq_nil_of_length_eq_zero h'
    subst hl
    have c0 := h.1.cell0
    have hcv := run_convert_bytes_nil (P := Tryd.prog) w 80 5 Tryd.underlying80 Tryd.underlying5 0 0
    clear h h'
    go_enter Tryd.func43, Tryd.ntmps43
    go_wp2
    go_ret
    exact ⟨rfl, rfl⟩
  · have c0 := h.1.cell0
    have hcv := run_convert_bytes_back (P := Tryd.prog) w 80 9 5 ⟨g', 0, none⟩ cap l Tryd.underlying80 Tryd.underlying5 Tryd.underlying9 (fun j hj => by
      have := h.2.cells (g := g') rfl j (.int .u8 (l[j].toNat : Int)) (by simp [bcells, hj])
      simpa using this)
    clear h hb hh hn hm hs ht
    go_enter Tryd.func43, Tryd.ntmps43
    go_wp2
    go_ret
    exact ⟨rfl, rfl⟩
end
end Go.Proofs.YtggkebngkkddhaaDoor
