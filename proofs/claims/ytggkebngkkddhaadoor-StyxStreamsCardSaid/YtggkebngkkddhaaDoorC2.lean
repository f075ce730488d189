/- The walks through the input's names and qids. -/
import Derived.Test.YtggkebngkkddhaaDoorC1
import Derived.Test.YtggkebngkkddhaaDoorB4
namespace Go.Proofs.YtggkebngkkddhaaDoor
open Go.RowKit

attribute [local irreducible] IS.sized IS.mode IS.count IS.least IS.num IS.finish IS.raw

def IS.namesL : Nat → IS → List ByteArray → List ByteArray × IS
  | 0, st, acc => (acc, st)
  | k + 1, st, acc => if st.cut = true then (acc, st) else IS.namesL k (st.sized 2).2 (acc ++ [(st.sized 2).1])
def IS.names (st : IS) : List ByteArray × IS := IS.namesL st.count.1.toNat st.count.2 []

def scells (l : List ByteArray) : List Value := l.map (fun s => .string s)
theorem scells_length (l : List ByteArray) : (scells l).length = l.length := by simp [scells]

theorem ownsRow_fr {S : Nat → Prop} {w w' : World} {base e size n : Nat} {v : Value} {xs : List Value} (h : w.ownsRow base e size v n xs) (hf : Fr S w w') (hs : ∀ r, v.ownBlock = some r → ¬ S r) : w'.ownsRow base e size v n xs := by
  refine ⟨h.1, ?_⟩
  rcases h.2 with h' | ⟨g', cap, cur, rfl, hb, hh, r⟩
  · exact .inl h'
  · have hlt : g' < w.heap.size := by
      rcases Nat.lt_or_ge g' w.heap.size with hlt | hge
      · exact hlt
      · rw [Array.getElem?_eq_none hge] at hh; cases hh
    exact .inr ⟨g', cap, cur, rfl, hb, (hf.2 g' hlt (hs g' rfl)).trans hh, r⟩

theorem info9 : (Tryd.prog.info? 9).map (fun i => (i.zero, i.size, i.bytes)) = some (some (.string ⟨#[]⟩), 1, 16) := by kernel_rfl
theorem info26 : (Tryd.prog.info? 26).map (fun i => (i.zero, i.size, i.bytes)) = some (some (.agg #[.int .i64 0, .int .i64 0, .int .i64 0]), 3, 24) := by kernel_rfl

theorem IS.count_ok {st : IS} (h : st.Ok) : st.count.2.Ok := by
  have := IS.num_ok h (k := 2) (by omega)
  unfold IS.count
  exact ⟨this.a0, this.a1, this.m⟩
theorem IS.count_nn {st : IS} (h : st.Ok) : 0 ≤ st.count.1 ∧ st.count.1 < 4294967296 := by
  unfold IS.count
  exact ⟨IS.num_nn h (by omega), IS.num_lt h (by omega)⟩

/-- Where the input's names stands: what p holds, the row, and all else as in w. -/
structure INI (g r pb po : Nat) (base : Nat) (w : World) (st : IS) (e : TypeId) (size n : Nat) (xs : List Value) (vs : Value) (wr : World) : Prop where
  i : Inp wr g r st
  ok : st.Ok
  c : wr.cell? ⟨pb, po, none⟩ = some vs
  z : wr.frozen? ⟨pb, po, none⟩ = false
  own : wr.ownsRow base e size vs n xs
  fr : Fr (two_ g r) (w.setCell ⟨pb, po, none⟩ vs) wr

theorem INI.start {g r pb po : Nat} {w wr : World} {st : IS} {e : TypeId} {size : Nat} (hi : Inp wr g r st) (hok : st.Ok) (hp : w.cell? ⟨pb, po, none⟩ = some (.slice none 0 0)) (hz : w.frozen? ⟨pb, po, none⟩ = false) (hpg : ¬ two_ g r pb) (hf : Fr (two_ g r) w wr) :
    INI g r pb po w.heap.size w st e size 0 [] (.slice none 0 0) wr :=
  ⟨hi, hok, hf.cell hp hpg, hf.frozen hp hz hpg, World.ownsRow_nil _ _ _ _, hf.same hp⟩
/-- Behind a call of the input that writes nothing else. -/
theorem INI.step {g r pb po base : Nat} {w wr w2 : World} {st st2 : IS} {e : TypeId} {size n : Nat} {xs : List Value} {vs : Value} (h : INI g r pb po base w st e size n xs vs wr) (hpg : ¬ two_ g r pb) (hb : g < base ∧ r < base)
    (hi : Inp w2 g r st2) (hok : st2.Ok) (hf : Fr (two_ g r) wr w2) : INI g r pb po base w st2 e size n xs vs w2 :=
  ⟨hi, hok, hf.cell h.c hpg, hf.frozen h.c h.z hpg, ownsRow_fr h.own hf (fun q hq x => by have := own_ge h.own hq; rcases x with x | x <;> omega), h.fr.trans hf⟩
theorem INI.drew {g r pb po base : Nat} {w wr : World} {st : IS} {e : TypeId} {size n : Nat} {xs : List Value} {vs : Value} (h : INI g r pb po base w st e size n xs vs wr) : INI g r pb po base w st e size n xs vs wr.drew :=
  ⟨h.i.drew, h.ok, h.c, h.z, h.own, h.fr.drew⟩
/-- Behind an append, and the store of the new slice. -/
theorem INI.put {g r pb po base : Nat} {w wr w2 : World} {st : IS} {e : TypeId} {size n m : Nat} {xs ys : List Value} {vs vs2 : Value} (h : INI g r pb po base w st e size n xs vs wr) (hpg : ¬ two_ g r pb) (hb : g < base ∧ r < base ∧ pb < base) (hbw : base = w.heap.size)
    (h1 : w2.ownsRow base e size vs2 m ys) (h2 : wr.grownBy w2 vs.ownBlock) : INI g r pb po base w st e size m ys vs2 (w2.setCell ⟨pb, po, none⟩ vs2) := by
  have hgl := h.i.b.lt
  have hrl : r < wr.heap.size := Blk.lt h.i.r
  have hpl := cell_lt h.c
  have hne : ∀ k, k < base → some k ≠ vs.ownBlock := fun k hk x => by have := own_ge h.own x.symm; omega
  have hF : Fr (fun k => some k = vs.ownBlock) wr w2 := ⟨h2.size, fun b hb hs => h2.block b hb hs, h2.os, h2.output⟩
  refine ⟨?_, h.ok, ?_, ?_, ?_, ?_⟩
  · have hi := h.i.fr hF (hne g hb.1) (hne r hb.2.1)
    exact ⟨hi.b.far (p := ⟨pb, po, none⟩) (fun x => hpg (.inl x.symm)) _, Blk.far hi.r (p := ⟨pb, po, none⟩) (fun x => hpg (.inr x.symm)) _⟩
  · exact World.cell?_setCell_same _ _ _ (hF.cell h.c (hne pb hb.2.2))
  · rw [World.frozen?_setCell]; exact hF.frozen h.c h.z (hne pb hb.2.2)
  · refine ⟨h1.1, ?_⟩
    rcases h1.2 with h' | ⟨g', cap, cur, e', hg, hh, q⟩
    · exact .inl h'
    · exact .inr ⟨g', cap, cur, e', hg, (Below.heap_setCell w2 ⟨pb, po, none⟩ vs2 g' (by show g' ≠ pb; omega)).trans hh, q⟩
  · refine Fr.reset (u := vs) ?_ vs2 hpg
    refine h.fr.trans_ hF (fun c hc hl => ?_)
    have hl2 : c < w.heap.size := by simpa [World.setCell] using hl
    exact absurd hc (hne c (by omega))

theorem INI.alloc {g r pb po base : Nat} {w wr : World} {st : IS} {e : TypeId} {size n : Nat} {xs : List Value} {vs : Value} (h : INI g r pb po base w st e size n xs vs wr) (o : Obj) : INI g r pb po base w st e size n xs vs (wr.alloc o) :=
  ⟨h.i.alloc o, h.ok, ((Fr.refl none_ wr).alloc o).cell h.c (fun x => x), ((Fr.refl none_ wr).alloc o).frozen h.c h.z (fun x => x), h.own.alloc o, h.fr.alloc o⟩
/-- What p holds behind an append. -/
theorem INI.kept {g r pb po base : Nat} {w wr w2 : World} {st : IS} {e : TypeId} {size n : Nat} {xs : List Value} {vs : Value} (h : INI g r pb po base w st e size n xs vs wr) (hb : pb < base) (h2 : wr.grownBy w2 vs.ownBlock) :
    w2.cell? ⟨pb, po, none⟩ = some vs ∧ w2.frozen? ⟨pb, po, none⟩ = false := by
  have hF : Fr (fun k => some k = vs.ownBlock) wr w2 := ⟨h2.size, fun b hb hs => h2.block b hb hs, h2.os, h2.output⟩
  have hne : ¬ some pb = vs.ownBlock := fun x => by have := own_ge h.own x.symm; omega
  exact ⟨hF.cell h.c hne, hF.frozen h.c h.z hne⟩
theorem one_str (s : ByteArray) : ∀ u ∈ [Value.string s], u.oneCell' = true := by
  intro u hu
  simp at hu
  subst hu
  rfl
theorem scells_snoc (l : List ByteArray) (s : ByteArray) : scells l ++ [.string s] = scells (l ++ [s]) := by simp [scells]

def INPost (g r pb po : Nat) (st : IS) (e : TypeId) (size n : Nat) (xs : List Value) (w : World) (x : Ending) (w' : World) : Prop :=
  x = .returned (.tuple #[]) ∧ ∃ vs, INI g r pb po w.heap.size w st e size n xs vs w'

theorem IS.namesL_len : ∀ (k : Nat) (st : IS) (acc : List ByteArray), (IS.namesL k st acc).1.length ≤ acc.length + k
  | 0, st, acc => by simp [IS.namesL]
  | k + 1, st, acc => by
    unfold IS.namesL
    split
    · simp
    · have := IS.namesL_len k (st.sized 2).2 (acc ++ [(st.sized 2).1])
      simp at this
      omega

set_option maxRecDepth 20000 in
set_option maxHeartbeats 1000000 in
theorem iNames_any (g r : Nat) (st : IS) (w : World) (pb po : Nat) (h : Inp w g r st) (hok : st.Ok) (hp : w.cell? ⟨pb, po, none⟩ = some (.slice none 0 0)) (hz : w.frozen? ⟨pb, po, none⟩ = false) (hpg : pb ≠ g) (hpr : pb ≠ r) (hcn : st.count.1 < 65536) :
    Calls Tryd.prog 94 #[.pointer (some ⟨g, 0, none⟩), .pointer (some ⟨pb, po, none⟩)] w (INPost g r pb po st.names.2 9 1 st.names.1.length (scells st.names.1) w) := by
  have H := Lib.hid (iCount_any g r st w h hok)
  have hn : ¬ two_ g r pb := fun x => x.elim hpg hpr
  have Hn := Lib.hid hn
  have hB : g < w.heap.size ∧ r < w.heap.size ∧ pb < w.heap.size := ⟨h.b.lt, Blk.lt h.r, cell_lt hp⟩
  have HB := Lib.hid hB
  have hck := IS.count_ok hok
  have hcn2 := IS.count_nn hok
  have hres : IS.namesL st.count.1.toNat st.count.2 [] = st.names := rfl
  generalize st.names = R at *
  generalize st.count = q at *
  obtain ⟨n, st1⟩ := q
  dsimp only at *
  obtain ⟨N, rfl⟩ : ∃ N : Nat, n = N := ⟨n.toNat, by omega⟩
  have hN : N < 65536 := by omega
  rw [show ((N : Int).toNat) = N by omega] at hres
  have HR := Lib.hid hres
  have HP := Lib.hid hp
  have HZ := Lib.hid hz
  have HK := Lib.hid hck
  obtain ⟨i0, hi0, hz0, hz1, hz2⟩ := info_parts info9
  clear h hok hp hz hpg hpr hcn hn hB hck hcn2 hres
  go_enter Tryd.func94, Tryd.ntmps94
  go_wp2_with fail
  refine H.out.mono ?_
  rintro _ w1 ⟨rfl, hi, hf⟩
  have HI := Lib.hid (INI.start (e := 9) (size := 1) hi HK.out HP.out HZ.out Hn.out hf)
  clear hi hf H
  go_wp2
  go_loopg [4] N (fun gk i wr => ∃ (L : List ByteArray) (stj : IS) (vs : Value), gk + L.length = N ∧ i = .int .i64 gk ∧ IS.namesL gk stj L = R ∧ INI g r pb po w.heap.size w stj 9 1 L.length (scells L) vs wr)
  case atStart => exact ⟨[], st1, _, rfl, rfl, HR.out, HI.out⟩
  case round =>
    obtain ⟨L, stj, vs, hL, rfl, hR, hI⟩ := hrel
    have d3 : wr.cell? ⟨g, 3, none⟩ = some (.bool stj.cut) := hI.i.b.cell 3
    have HRj := Lib.hid hR
    have HIj := Lib.hid hI
    generalize hct : stj.cut = ct at d3
    have Hct := Lib.hid hct
    clear hR hI hct
    cases gk with
    | zero =>
      have hRe : R = (L, stj) := by rw [← HRj.out]; rfl
      subst hRe
      go_wp2
      go_end0
      exact ⟨rfl, vs, HIj.out⟩
    | succ k =>
      have hk0 : (0 : Int) < ((k + 1 : Nat) : Int) := by omega
      cases ct with
      | true =>
        have hRe : R = (L, stj) := by rw [← HRj.out]; unfold IS.namesL; rw [if_pos Hct.out]
        subst hRe
        go_wp2
        go_end0
        exact ⟨rfl, vs, HIj.out⟩
      | false =>
        have hst : IS.namesL k (stj.sized 2).2 (L ++ [(stj.sized 2).1]) = R := by rw [← HRj.out]; conv => rhs; unfold IS.namesL; rw [if_neg (by rw [Hct.out]; decide)]
        have H97 : Hid (Calls Tryd.prog 97 #[.pointer (some ⟨g, 0, none⟩), .int .i64 2] _ _) := Lib.hid (iSized_any g r stj wr.drew 2 HIj.out.i.drew HIj.out.ok (by omega))
        have hok2 := IS.sized_ok HIj.out.ok (k := 2) (by omega)
        generalize stj.sized 2 = q at *
        have c1 := HIj.out.c
        have z1 := HIj.out.z
        have Hst := Lib.hid hst
        have Hok2 := Lib.hid hok2
        clear hst hok2
        have hba : w.heap.size ≤ wr.heap.size := by have := HIj.out.fr.1; simpa [World.setCell] using this
        have H63 : Hid (L.length + 1 ≤ maxLen) := Lib.hid (by unfold maxLen; omega)
        have Hby : Hid ((L.length + 1) * 16 ≤ 140737488355328) := Lib.hid (by omega)
        have Hba := Lib.hid hba
        clear hba Hct HRj
        go_wp2
        go_region_law (first
          | (refine step_append_own rfl (.tmp 21) (.tmp 24) 23 rfl w.heap.size 9 i0 (.string ⟨#[]⟩) 1 16 Tryd.underlying23 hi0 hz0 hz1 hz2 rfl (by decide) vs L.length (scells L) rfl (HI2.out.own.alloc _) ⟨w2.heap.size, 0, none⟩ 1 1 [.string q.1] rfl rfl (cell_one_new _ _ _) (one_str _) H63.out Hby.out (by have := HB2.out; simp; omega) (fun v' w' h1 h2 h3 => ?_)
             obtain ⟨g', cap', rfl⟩ := row_form h1 (Nat.succ_pos _)
             obtain ⟨c4, z4⟩ := (HI2.out.alloc _).kept HB.out.2.2 h2)
          | (go_simp
             go_at_call 97
             refine H97.out.mono ?_
             rintro _ w2 ⟨rfl, hi2, hf2⟩
             have HI2 := Lib.hid (HIj.out.drew.step Hn.out ⟨HB.out.1, HB.out.2.1⟩ hi2 Hok2.out hf2)
             have HB2 : Hid (w.heap.size ≤ w2.heap.size) := Lib.hid (Nat.le_trans Hba.out hf2.1)
             have c2 := HI2.out.c
             have z2 := HI2.out.z
             have c3 := (HI2.out.alloc (.cells #[.string q.1] 9)).c
             have z3 := (HI2.out.alloc (.cells #[.string q.1] 9)).z
             clear hi2 hf2))
        all_goals
          have HI3 := Lib.hid ((HI2.out.alloc _).put Hn.out HB.out rfl h1 h2)
          clear h1 h2 h3 c1 z1 c2 z2 c3 z3 c4 z4
          rw [scells_snoc] at HI3
          go_wp2
          go_roundg k
          case measure => omega
          case rel => exact ⟨L ++ [q.1], q.2, _, by simp; omega, by go_num, Hst.out, by simpa using HI3.out⟩

def IS.qid (st : IS) : QV × IS := (VIn 0 0).qid st ⟨0, 0, 0⟩
theorem vin_qid (g r : Nat) (st : IS) (q : QV) : (VIn g r).qid st q = st.qid := rfl
def IS.qidsL : Nat → IS → List QV → List QV × IS
  | 0, st, acc => (acc, st)
  | k + 1, st, acc => if st.cut = true then (acc, st) else IS.qidsL k st.qid.2 (acc ++ [st.qid.1])
def IS.qids (st : IS) : List QV × IS := IS.qidsL st.count.1.toNat st.count.2 []
def qcells (l : List QV) : List Value := l.flatMap (fun q => [.int .i64 q.k, .int .i64 q.v, .int .i64 q.p])
theorem qcells_snoc (l : List QV) (q : QV) : qcells l ++ [.int .i64 q.k, .int .i64 q.v, .int .i64 q.p] = qcells (l ++ [q]) := by simp [qcells]
theorem one_qid (q : QV) : ∀ u ∈ [Value.int .i64 q.k, .int .i64 q.v, .int .i64 q.p], u.oneCell' = true := by
  intro u hu
  simp at hu
  rcases hu with rfl | rfl | rfl <;> rfl
theorem IS.qid_ok {st : IS} (h : st.Ok) : st.qid.2.Ok := IS.least_ok (IS.num_ok (IS.num_ok h (k := 1) (by omega)) (k := 4) (by omega)) 0

attribute [local irreducible] IS.qid

theorem INI.stepS {S : Nat → Prop} {g r pb po base : Nat} {w wr w2 : World} {st st2 : IS} {e : TypeId} {size n : Nat} {xs : List Value} {vs : Value} (h : INI g r pb po base w st e size n xs vs wr)
    (hi : Inp w2 g r st2) (hok : st2.Ok) (hf : Fr S wr w2) (hpS : ¬ S pb) (hown : ∀ q, vs.ownBlock = some q → ¬ S q) (hS : ∀ c, S c → c < w.heap.size → two_ g r c) : INI g r pb po base w st2 e size n xs vs w2 :=
  ⟨hi, hok, hf.cell h.c hpS, hf.frozen h.c h.z hpS, ownsRow_fr h.own hf hown, h.fr.trans_ hf (fun c hc hl => hS c hc (by simpa [World.setCell] using hl))⟩

theorem cells_three (w : World) (a b c : Value) (t : TypeId) : ∀ j u, ([a, b, c] : List Value)[j]? = some u → (w.alloc (.cells #[a, b, c] t)).cell? ((⟨w.heap.size, 0, none⟩ : Addr).add j) = some u := by
  intro j u hj
  have := (Blk.new w t #[a, b, c]).cell j
  have e : (⟨w.heap.size, 0, none⟩ : Addr).add j = ⟨w.heap.size, j, none⟩ := by
    simp only [Addr.add]
    split
    · rename_i h; rw [h]
    · simp
  rw [e, this]
  simpa using hj

set_option maxRecDepth 20000 in
set_option maxHeartbeats 1000000 in
theorem iQids_any (g r : Nat) (st : IS) (w : World) (pb po : Nat) (h : Inp w g r st) (hok : st.Ok) (hp : w.cell? ⟨pb, po, none⟩ = some (.slice none 0 0)) (hz : w.frozen? ⟨pb, po, none⟩ = false) (hpg : pb ≠ g) (hpr : pb ≠ r) (hcn : st.count.1 < 65536) :
    Calls Tryd.prog 95 #[.pointer (some ⟨g, 0, none⟩), .pointer (some ⟨pb, po, none⟩)] w (INPost g r pb po st.qids.2 26 3 st.qids.1.length (qcells st.qids.1) w) := by
  have H := Lib.hid (iCount_any g r st w h hok)
  have hn : ¬ two_ g r pb := fun x => x.elim hpg hpr
  have Hn := Lib.hid hn
  have hB : g < w.heap.size ∧ r < w.heap.size ∧ pb < w.heap.size := ⟨h.b.lt, Blk.lt h.r, cell_lt hp⟩
  have HB := Lib.hid hB
  have hck := IS.count_ok hok
  have hcn2 := IS.count_nn hok
  have hres : IS.qidsL st.count.1.toNat st.count.2 [] = st.qids := rfl
  generalize st.qids = R at *
  generalize st.count = q at *
  obtain ⟨n, st1⟩ := q
  dsimp only at *
  obtain ⟨N, rfl⟩ : ∃ N : Nat, n = N := ⟨n.toNat, by omega⟩
  have hN : N < 65536 := by omega
  rw [show ((N : Int).toNat) = N by omega] at hres
  have HR := Lib.hid hres
  have HP := Lib.hid hp
  have HZ := Lib.hid hz
  have HK := Lib.hid hck
  obtain ⟨i0, hi0, hz0, hz1, hz2⟩ := info_parts info26
  clear h hok hp hz hpg hpr hcn hn hB hck hcn2 hres
  go_enter Tryd.func95, Tryd.ntmps95
  go_wp2_with fail
  refine H.out.mono ?_
  rintro _ w1 ⟨rfl, hi, hf⟩
  have HI := Lib.hid (INI.start (e := 26) (size := 3) hi HK.out HP.out HZ.out Hn.out hf)
  clear hi hf H
  go_wp2
  go_loopg [4, 5] N (fun gk i _ wr => ∃ (L : List QV) (stj : IS) (vs : Value), gk + L.length = N ∧ i = .int .i64 gk ∧ IS.qidsL gk stj L = R ∧ INI g r pb po w.heap.size w stj 26 3 L.length (qcells L) vs wr)
  case atStart => exact ⟨[], st1, _, rfl, rfl, HR.out, HI.out⟩
  case round =>
    obtain ⟨L, stj, vs, hL, rfl, hR, hI⟩ := hrel
    have d3 : wr.cell? ⟨g, 3, none⟩ = some (.bool stj.cut) := hI.i.b.cell 3
    have HRj := Lib.hid hR
    have HIj := Lib.hid hI
    generalize hct : stj.cut = ct at d3
    have Hct := Lib.hid hct
    clear hR hI hct
    cases gk with
    | zero =>
      have hRe : R = (L, stj) := by rw [← HRj.out]; rfl
      subst hRe
      go_wp2
      go_end0
      exact ⟨rfl, vs, HIj.out⟩
    | succ k =>
      have hk0 : (0 : Int) < ((k + 1 : Nat) : Int) := by omega
      cases ct with
      | true =>
        have hRe : R = (L, stj) := by rw [← HRj.out]; unfold IS.qidsL; rw [if_pos Hct.out]
        subst hRe
        go_wp2
        go_end0
        exact ⟨rfl, vs, HIj.out⟩
      | false =>
        have hst : IS.qidsL k stj.qid.2 (L ++ [stj.qid.1]) = R := by rw [← HRj.out]; conv => rhs; unfold IS.qidsL; rw [if_neg (by rw [Hct.out]; decide)]
        have hba : w.heap.size ≤ wr.heap.size := by have := HIj.out.fr.1; simpa [World.setCell] using this
        have hW0 := HIj.out.alloc (.cells #[.int .i64 0, .int .i64 0, .int .i64 0] 26)
        have hb0 := Blk.new wr 26 #[.int .i64 0, .int .i64 0, .int .i64 0]
        have H68 := qid_any (VIn g r) (VIn_good g r) stj (two_ g r) _ _ _ wr.heap.size 0 ⟨0, 0, 0⟩ (VS.start (V := VIn g r) (F := two_ g r) ⟨hW0.i, hW0.ok, fun _ => Iff.rfl⟩) (fun x => by have := HB.out; rcases x with x | x <;> omega) hb0.lt
          ⟨hb0.cell 0, hb0.cell 1, hb0.cell 2⟩ (fun o => hb0.frozen o) ⟨by show _ ≤ (0 : Int); omega, by show (0 : Int) ≤ _; omega⟩ trivial
        rw [vin_qid] at H68
        have H68 : Hid (Calls Tryd.prog 68 #[.iface 49 (.pointer (some ⟨g, 0, none⟩)), .pointer (some ⟨wr.heap.size, 0, none⟩)] (wr.alloc (.cells #[.int .i64 0, .int .i64 0, .int .i64 0] 26)) _) := Lib.hid H68
        have hok2 := IS.qid_ok HIj.out.ok
        generalize stj.qid = q at *
        have HW0 := Lib.hid hW0
        have Hst := Lib.hid hst
        have Hok2 := Lib.hid hok2
        have Hb0 := Lib.hid hb0
        have H63 : Hid (L.length + 1 ≤ maxLen) := Lib.hid (by unfold maxLen; omega)
        have Hby : Hid ((L.length + 1) * 24 ≤ 140737488355328) := Lib.hid (by omega)
        have Hba := Lib.hid hba
        clear hba Hct HRj hst hok2 hW0 hb0
        go_wp2_with fail
        refine H68.out.mono ?_
        rintro _ w2 ⟨rfl, F', ⟨hi2, hok3, hF'⟩, hF2, hfr2, hsz2⟩
        have hF12 : Fr (fun c => two_ g r c ∨ c = wr.heap.size) (wr.alloc (.cells #[.int .i64 0, .int .i64 0, .int .i64 0] 26)) w2 := ((Fr.refl _ _).setQ_ 0 q.1 (Or.inr rfl)).trans (hfr2.mono (fun c hc => .inl hc))
        have hpl := cell_lt HIj.out.c
        have HI2 := Lib.hid (HW0.out.stepS hi2 hok3 hF12 (fun x => x.elim Hn.out (fun e => by simp at hpl; omega))
          (fun c hc x => x.elim (fun x => by have := own_ge HIj.out.own hc; have := HB.out; rcases x with x | x <;> omega) (fun e => by have := (World.ownsRow.lt HIj.out.own c hc).2; omega)) (fun c hc hl => hc.elim id (fun e => by have := Hba.out; omega)))
        have hbq : Blk w2 wr.heap.size 26 #[.int .i64 q.1.k, .int .i64 q.1.v, .int .i64 q.1.p] := by
          refine hfr2.blk ?_ (fun x => by have := HB.out; have := Hba.out; rcases x with x | x <;> omega)
          have := ((Hb0.out.set_ 0 (.int .i64 q.1.k)).set_ 1 (.int .i64 q.1.v)).set_ 2 (.int .i64 q.1.p)
          simpa [setQ] using this
        have HB2 : Hid (w.heap.size ≤ w2.heap.size) := Lib.hid (Nat.le_trans Hba.out (Nat.le_trans (by simp) hF12.1))
        have c2 := HI2.out.c
        have z2 := HI2.out.z
        have c3 := (HI2.out.alloc (.cells #[.int .i64 q.1.k, .int .i64 q.1.v, .int .i64 q.1.p] 26)).c
        have z3 := (HI2.out.alloc (.cells #[.int .i64 q.1.k, .int .i64 q.1.v, .int .i64 q.1.p] 26)).z
        have e0 := hbq.cell 0
        have e1 := hbq.cell 1
        have e2 := hbq.cell 2
        simp at e0 e1 e2
        clear hF12 hfr2 hi2 hok3 hF' hF2 hsz2 hbq hpl Hb0 H68
        go_wp2
        go_region_law (first
          | (refine step_append_own rfl (.tmp 25) (.tmp 27) 24 rfl w.heap.size 26 i0 (.agg #[.int .i64 0, .int .i64 0, .int .i64 0]) 3 24 Tryd.underlying24 hi0 hz0 hz1 hz2 rfl (by decide) vs L.length (qcells L) rfl (HI2.out.own.alloc _) ⟨w2.heap.size, 0, none⟩ 1 1 [.int .i64 q.1.k, .int .i64 q.1.v, .int .i64 q.1.p] rfl rfl (cells_three _ _ _ _ _) (one_qid q.1) H63.out Hby.out (by have := HB2.out; simp; omega) (fun v' w' h1 h2 h3 => ?_)
             obtain ⟨g', cap', rfl⟩ := row_form h1 (Nat.succ_pos _)
             obtain ⟨c4, z4⟩ := (HI2.out.alloc _).drew.kept HB.out.2.2 h2))
        all_goals
          have HI3 := Lib.hid ((HI2.out.alloc _).drew.put Hn.out HB.out rfl h1 h2)
          clear h1 h2 h3 c2 z2 c3 z3 c4 z4 e0 e1 e2
          rw [qcells_snoc] at HI3
          go_wp2
          go_roundg k
          case measure => omega
          case rel => exact ⟨L ++ [q.1], q.2, _, by simp; omega, by go_num, Hst.out, by simpa using HI3.out⟩
end Go.Proofs.YtggkebngkkddhaaDoor
