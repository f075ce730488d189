/- The walks through length and Decode. -/
import Derived.Test.YtggkebngkkddhaaDoorE3
namespace Go.Proofs.YtggkebngkkddhaaDoor
open Go.RowKit

attribute [local irreducible] IS.sized IS.mode IS.count IS.least IS.num IS.finish IS.raw

def lenOf (s : ByteArray) : Int := (rdNum s 0 0 4).1
theorem length_any (s : ByteArray) (W : World) (hs : s.size ≤ maxLen) : Calls Tryd.prog 19 #[.string s] W (fun e w' => e = .returned (.int .i64 (lenOf s)) ∧ Fr none_ W w') := by
  have H := Lib.hid (Little_any W.heap.size s 0 0 _ 4 (Blk.new W 102 #[.string s, .int .i64 0, .int .i64 0]) (by omega) (by omega) hs (by omega))
  have HN := Lib.hid (newReader_any s W)
  have hR : (rdNum s 0 0 4).1 = lenOf s := rfl
  generalize (rdNum s 0 0 4).2.1 = c at H
  rw [hR] at H
  clear hR hs
  generalize lenOf s = n at *
  go_enter Tryd.func19, Tryd.ntmps19
  go_wp2_with fail
  refine HN.out.mono ?_
  rintro _ _ ⟨rfl, rfl⟩
  go_wp2_with fail
  refine H.out.mono ?_
  rintro _ w1 ⟨rfl, hr, hf⟩
  have HF : Hid (Fr none_ W w1) := Lib.hid (((Fr.refl none_ W).alloc _).new hf (fun c hc => by have : c = W.heap.size := hc; omega))
  clear hr hf
  go_wp2
  go_ret
  exact ⟨rfl, HF.out⟩

def MV0 : MV := ⟨0, 0, 0, 0, 0, 0, 0, 0, 0, ⟨#[]⟩, ⟨#[]⟩, ⟨#[]⟩, ⟨#[]⟩, [], [], ⟨#[]⟩, DV0, 0⟩
def nils : Value := .slice none 0 0
def cells0 : Array Value := mcells MV0 nils nils

theorem all_mcells (m : MV) (vn vq : Value) (hn : vn.oneCell' = true) (hq : vq.oneCell' = true) : (mcells m vn vq).all (·.oneCell') = true := by
  simp [mcells, Value.oneCell']
  exact ⟨hn, hq⟩
theorem all_cells0 : cells0.all (·.oneCell') = true := all_mcells MV0 nils nils rfl rfl

theorem results_dec (tmps : Array Value) (w : World) (g : Nat) (cs : Array Value) (c : Value) (h2 : tmps.getD 2 undef = .pointer (some ⟨g, 0, none⟩)) (h3 : tmps.getD 3 undef = c) (hg : Blk w g 31 cs) (hs : cs.size = 27) :
    (results Tryd.f7 tmps).run Tryd.prog w = .ok (.tuple #[.agg cs, c]) w := by
  have h2' : tmps[2]?.getD undef = .pointer (some ⟨g, 0, none⟩) := by simpa using h2
  have h3' : tmps[3]?.getD undef = c := by simpa using h3
  have hl := run_loadVar_row (P := Tryd.prog) w g 31 31 cs (0, 0) _ hg Tryd.underlying31 rfl (info31.trans (congrArg some hs.symm))
  simp [results, Tryd.results7, h2', h3', asAddr, hl]

/-- What Decode leaves. -/
def DPost (r : MV × Int) (W : World) (e : Ending) (w' : World) : Prop :=
  ∃ vn vq, e = .returned (.tuple #[.agg (mcells r.1 vn vq), .int .i64 r.2]) ∧ StrsAt w' vn r.1.names ∧ QidsAt w' vq r.1.qids ∧ Fr none_ W w' ∧ Apart vn (fun c => c < W.heap.size) ∧ Apart vq (fun c => c < W.heap.size)

theorem dpost0 (c : Int) {W w' : World} (h : Fr none_ W w') : DPost (MV0, c) W (.returned (.tuple #[.agg cells0, .int .i64 c])) w' := ⟨nils, nils, rfl, strs_nil _, qids_nil _, h, apart_nil _, apart_nil _⟩
theorem Fr.setRow {S : Nat → Prop} {w w' : World} (h : Fr S w w') {g : Nat} (hg : S g ∨ w.heap.size ≤ g) (cs : Array Value) : Fr S w (w'.setRow g cs) := by
  refine ⟨by simpa using h.1, fun b hb hs => ?_, h.3⟩
  have hne : g ≠ b := fun e => hg.elim (fun x => hs (e ▸ x)) (fun x => by omega)
  exact (setRow_other w' g b cs (fun e => hne e.symm)).trans (h.2 b hb hs)
theorem Blk.setRow {w : World} {g : Nat} {t : TypeId} {cs : Array Value} (h : Blk w g t cs) (cs' : Array Value) : Blk (w.setRow g cs') g t cs' := setRow_heap w g cs cs' t (0, 0) h

set_option maxRecDepth 20000 in
theorem decode_end (s : ByteArray) (W : World) (hs : s.size < 7) : Calls Tryd.prog 7 #[.string s] W (DPost (MV0, 16) W) := by
  have H := Lib.hid (fun w => length_any s w (by unfold maxLen; omega))
  generalize lenOf s = n at *
  go_enter Tryd.func7, Tryd.ntmps7
  go_wp2_with fail
  refine (H.out _).mono ?_
  rintro _ w1 ⟨rfl, hf⟩
  have HB : Hid (Blk w1 W.heap.size 31 cells0) := Lib.hid (hf.blk (Blk.new W 31 cells0) (fun x => x))
  have HF : Hid (Fr none_ W w1) := Lib.hid (((Fr.refl none_ W).alloc _).trans hf)
  clear hf H
  go_wp2_with (refine wpList_store_row rfl 31 (.tmp 2) (.tmp 14) rfl W.heap.size cells0 rfl rfl 31 cells0 HB.out (info31.trans (congrArg some rfl)) rfl all_cells0 ?_)
  refine bodyPost_ret (v := .tuple #[.agg cells0, .int .i64 16]) ?_ ?_ ?_
  · exact results_dec _ _ W.heap.size cells0 (.int .i64 16) rfl rfl (HB.out.setRow cells0) rfl
  · rfl
  · exact dpost0 16 (HF.out.setRow (.inr (Nat.le_refl _)) _)

set_option maxRecDepth 20000 in
theorem decode_limit (s : ByteArray) (W : World) (hm : s.size ≤ maxLen) (h7 : ¬ s.size < 7) (hn : 8192 < lenOf s) : Calls Tryd.prog 7 #[.string s] W (DPost (MV0, 3) W) := by
  have H := Lib.hid (fun w => length_any s w hm)
  have h7' : ¬ ((s.size : Int) < 7) := by omega
  generalize lenOf s = n at *
  clear h7
  go_enter Tryd.func7, Tryd.ntmps7
  go_wp2_with fail
  refine (H.out _).mono ?_
  rintro _ w1 ⟨rfl, hf⟩
  have HB : Hid (Blk w1 W.heap.size 31 cells0) := Lib.hid (hf.blk (Blk.new W 31 cells0) (fun x => x))
  have HF : Hid (Fr none_ W w1) := Lib.hid (((Fr.refl none_ W).alloc _).trans hf)
  clear hf H
  go_wp2_with (refine wpList_store_row rfl 31 (.tmp 2) (.tmp 18) rfl W.heap.size cells0 rfl rfl 31 cells0 HB.out (info31.trans (congrArg some rfl)) rfl all_cells0 ?_)
  refine bodyPost_ret (v := .tuple #[.agg cells0, .int .i64 3]) ?_ ?_ ?_
  · exact results_dec _ _ W.heap.size cells0 (.int .i64 3) rfl rfl (HB.out.setRow cells0) rfl
  · rfl
  · exact dpost0 3 (HF.out.setRow (.inr (Nat.le_refl _)) _)

set_option maxRecDepth 20000 in
theorem decode_shape (s : ByteArray) (W : World) (hm : s.size ≤ maxLen) (h7 : ¬ s.size < 7) (hn : ¬ 8192 < lenOf s) (hne : lenOf s ≠ s.size) : Calls Tryd.prog 7 #[.string s] W (DPost (MV0, 14) W) := by
  have H := Lib.hid (fun w => length_any s w hm)
  have h7' : ¬ ((s.size : Int) < 7) := by omega
  have hne2 : (lenOf s == (s.size : Int)) = false := by rw [beq_eq_false_iff_ne]; exact hne
  clear hne
  generalize lenOf s = n at *
  clear h7
  go_enter Tryd.func7, Tryd.ntmps7
  go_wp2_with fail
  refine (H.out _).mono ?_
  rintro _ w1 ⟨rfl, hf⟩
  have HB : Hid (Blk w1 W.heap.size 31 cells0) := Lib.hid (hf.blk (Blk.new W 31 cells0) (fun x => x))
  have HF : Hid (Fr none_ W w1) := Lib.hid (((Fr.refl none_ W).alloc _).trans hf)
  clear hf H
  go_wp2_with (refine wpList_store_row rfl 31 (.tmp 2) (.tmp 24) rfl W.heap.size cells0 rfl rfl 31 cells0 HB.out (info31.trans (congrArg some rfl)) rfl all_cells0 ?_)
  refine bodyPost_ret (v := .tuple #[.agg cells0, .int .i64 14]) ?_ ?_ ?_
  · exact results_dec _ _ W.heap.size cells0 (.int .i64 14) rfl rfl (HB.out.setRow cells0) rfl
  · rfl
  · exact dpost0 14 (HF.out.setRow (.inr (Nat.le_refl _)) _)

/-- Where Decode reads: behind the length. -/
def IS.ofMsg (s : ByteArray) : IS := IS.mk (s.extract 4 s.size) 0 0 false false false
def IS.code (st : IS) : Int := if st.cut then 2 else if st.bad then 11 else if st.over then 3 else 0
/-- What Decode has read behind the fields. -/
def IS.msg (s : ByteArray) : MV × IS :=
  let a := (IS.ofMsg s).num 1
  let b := a.2.num 2
  (VIn 0 0).fields (BIn 0 0) b.2 { MV0 with kind := a.1, tag := b.1 }
theorem in_visit (g r : Nat) (st : IS) (m : MV) (x : Fld) : (VIn g r).visit (BIn g r) x st m = (VIn 0 0).visit (BIn 0 0) x st m := by cases x <;> rfl
theorem in_visits (g r : Nat) : ∀ (l : List Fld) (st : IS) (m : MV), (VIn g r).visits (BIn g r) l st m = (VIn 0 0).visits (BIn 0 0) l st m
  | [], _, _ => rfl
  | x :: l, st, m => by
    show (VIn g r).visits (BIn g r) l ((VIn g r).visit (BIn g r) x st m).2 ((VIn g r).visit (BIn g r) x st m).1 = (VIn 0 0).visits (BIn 0 0) l ((VIn 0 0).visit (BIn 0 0) x st m).2 ((VIn 0 0).visit (BIn 0 0) x st m).1
    rw [in_visit]
    exact in_visits g r l _ _
theorem in_fields (g r : Nat) (st : IS) (m : MV) : (VIn g r).fields (BIn g r) st m = (VIn 0 0).fields (BIn 0 0) st m := in_visits g r _ st m

def knd (s : ByteArray) : Int := ((IS.ofMsg s).num 1).1

section
variable {F S : Nat → Prop} {w wk : World} {b : Nat} {m : MV} {vn vq : Value}
theorem MS.n_kind {V : Vis} {st : V.σ} (hV : V.Good) (h : MS V F S w b st m vn vq wk) (hfit : V.fit st 8) :
    Calls Tryd.prog V.fnum #[V.v, .pointer (some ⟨b, 0, none⟩), .int .i64 1] wk (fun e w' => e = .returned (.tuple #[]) ∧ MS V F S w b (V.num st m.kind 1).2 { m with kind := (V.num st m.kind 1).1 } vn vq w') :=
  MS.call (hV.hnum st b 0 m.kind 1 (by omega) hfit) h rfl rfl rfl rfl
end

/-- The world in which Decode begins to read. -/
abbrev decW (s : ByteArray) (w1 : World) : World := ((w1.alloc (.cells #[.string (s.extract 4 s.size), .int .i64 0, .int .i64 0] 102)).alloc (.cells #[.pointer (some ⟨w1.heap.size, 0, none⟩), .bool false, .bool false, .bool false] 53)).alloc (.cells cells0 31)

/-- Where Decode stands ahead of the fields. -/
theorem decode_start (s : ByteArray) (W w1 : World) (hm : s.size ≤ maxLen) (h7 : 4 ≤ s.size) (hB : Blk w1 W.heap.size 31 cells0) :
    MS (VIn (w1.heap.size + 1) w1.heap.size) (two_ (w1.heap.size + 1) w1.heap.size) (fun c => c ≤ W.heap.size)
      (((w1.alloc (.cells #[.string (s.extract 4 s.size), .int .i64 0, .int .i64 0] 102)).alloc (.cells #[.pointer (some ⟨w1.heap.size, 0, none⟩), .bool false, .bool false, .bool false] 53)).alloc (.cells cells0 31)) (w1.heap.size + 2) (IS.ofMsg s) MV0 nils nils
      (((w1.alloc (.cells #[.string (s.extract 4 s.size), .int .i64 0, .int .i64 0] 102)).alloc (.cells #[.pointer (some ⟨w1.heap.size, 0, none⟩), .bool false, .bool false, .bool false] 53)).alloc (.cells cells0 31)) := by
  have h2 := Blk.new (w1.alloc (.cells #[.string (s.extract 4 s.size), .int .i64 0, .int .i64 0] 102)) 53 #[.pointer (some ⟨w1.heap.size, 0, none⟩), .bool false, .bool false, .bool false]
  have h3 := Blk.new ((w1.alloc (.cells #[.string (s.extract 4 s.size), .int .i64 0, .int .i64 0] 102)).alloc (.cells #[.pointer (some ⟨w1.heap.size, 0, none⟩), .bool false, .bool false, .bool false] 53)) 31 cells0
  have e2 : (w1.alloc (.cells #[.string (s.extract 4 s.size), .int .i64 0, .int .i64 0] 102)).heap.size = w1.heap.size + 1 := by simp
  have e3 : ((w1.alloc (.cells #[.string (s.extract 4 s.size), .int .i64 0, .int .i64 0] 102)).alloc (.cells #[.pointer (some ⟨w1.heap.size, 0, none⟩), .bool false, .bool false, .bool false] 53)).heap.size = w1.heap.size + 2 := by simp
  rw [e2] at h2
  rw [e3] at h3
  have hi : Inp (((w1.alloc (.cells #[.string (s.extract 4 s.size), .int .i64 0, .int .i64 0] 102)).alloc (.cells #[.pointer (some ⟨w1.heap.size, 0, none⟩), .bool false, .bool false, .bool false] 53)).alloc (.cells cells0 31)) (w1.heap.size + 1) w1.heap.size (IS.ofMsg s) :=
    ⟨h2.alloc _, ((Blk.new w1 102 #[.string (s.extract 4 s.size), .int .i64 0, .int .i64 0]).alloc _).alloc _⟩
  have hok : (IS.ofMsg s).Ok := ⟨by show (0 : Int) ≤ 0; omega, by show (0 : Int) ≤ _; omega, by show (s.extract 4 s.size).size ≤ maxLen; rw [ByteArray.size_extract]; omega⟩
  have hlt := hB.lt
  refine ⟨⟨two_ (w1.heap.size + 1) w1.heap.size, ⟨hi, hok, fun _ => Iff.rfl⟩, fun _ x => .inl x, apart_nil _, apart_nil _⟩, fun x => by rcases x with x | x <;> omega, by simp, h3, strs_nil _, qids_nil _, apart_nil _, apart_nil _, Fr.refl _ _, fun c hc => ?_, apart_nil _, apart_nil _⟩
  have : c ≤ W.heap.size := hc
  simp
  omega

set_option maxRecDepth 20000 in
set_option maxHeartbeats 4000000 in
theorem decode_main (s : ByteArray) (W : World) (hw : Words W) (hm : s.size ≤ maxLen) (h7 : ¬ s.size < 7) (hn : ¬ 8192 < lenOf s) (he : lenOf s = s.size) :
    Calls Tryd.prog 7 #[.string s] W (DPost (if (fieldsOf (knd s)).isSome = false then (MV0, 13) else if (IS.msg s).2.finish.code ≠ 0 then (MV0, (IS.msg s).2.finish.code) else ((IS.msg s).1, 0)) W) := by
  have H := Lib.hid (fun w => length_any s w hm)
  rw [he] at H
  have h7' : ¬ ((s.size : Int) < 7) := by omega
  have hn' : ¬ (8192 < (s.size : Int)) := by omega
  have h4 : (4 : Int) ≤ (s.size : Int) := by omega
  have H7 : Hid (4 ≤ s.size) := Lib.hid (by omega)
  have HM := Lib.hid hm
  have HW := Lib.hid hw
  obtain ⟨R, hR⟩ : ∃ R, R = (if (fieldsOf (knd s)).isSome = false then (MV0, 13) else if (IS.msg s).2.finish.code ≠ 0 then (MV0, (IS.msg s).2.finish.code) else ((IS.msg s).1, 0) : MV × Int) := ⟨_, rfl⟩
  rw [← hR]
  have HR := Lib.hid hR
  clear h7 hn he hm hw hR
  go_enter Tryd.func7, Tryd.ntmps7
  go_wp2_with fail
  refine (H.out _).mono ?_
  rintro _ w1 ⟨rfl, hf⟩
  have HB : Hid (Blk w1 W.heap.size 31 cells0) := Lib.hid (hf.blk (Blk.new W 31 cells0) (fun x => x))
  have HF : Hid (Fr none_ W w1) := Lib.hid (((Fr.refl none_ W).alloc _).trans hf)
  have HN := Lib.hid (newReader_any (s.extract 4 s.size) w1)
  clear hf H
  go_wp2_with fail
  refine HN.out.mono ?_
  rintro _ _ ⟨rfl, rfl⟩
  have hS := decode_start s W w1 HM.out H7.out HB.out
  have hW3 : Fr none_ W (decW s w1) := ((HF.out.alloc _).alloc _).alloc _
  have HW3 : Hid (∀ w', Fr (fun c => two_ (w1.heap.size + 1) w1.heap.size c ∨ c = w1.heap.size + 2) (decW s w1) w' → Fr none_ W w') := Lib.hid (fun w' hf => hW3.new hf (fun c hc => by
    have := HF.out.1
    rcases hc with (x | x) | x <;> omega))
  have HB3 : Hid (∀ w', Fr (fun c => two_ (w1.heap.size + 1) w1.heap.size c ∨ c = w1.heap.size + 2) (decW s w1) w' → Blk w' W.heap.size 31 cells0) := Lib.hid (fun w' hf => hf.blk (show Blk (decW s w1) W.heap.size 31 cells0 from ((HB.out.alloc _).alloc _).alloc _) (fun x => by
    have := HB.out.lt
    rcases x with (x | x) | x <;> omega))
  have H1 : Hid (Calls Tryd.prog 21 #[.pointer (some ⟨w1.heap.size + 1, 0, none⟩), .pointer (some ⟨w1.heap.size + 2, 0, none⟩), .int .i64 1] (decW s w1) _) := Lib.hid (hS.n_kind (VIn_good _ _) trivial)
  clear hS hW3
  go_wp2_with fail
  refine H1.out.mono ?_
  rintro _ w4 ⟨rfl, h4⟩
  have H2 : Hid (Calls Tryd.prog 21 #[.pointer (some ⟨w1.heap.size + 1, 0, none⟩), .pointer (some ⟨w1.heap.size + 2, 1, none⟩), .int .i64 2] w4 _) := Lib.hid (h4.tag_ (VIn_good _ _) trivial)
  clear h4 H1
  go_wp2_with fail
  refine H2.out.mono ?_
  rintro _ w5 ⟨rfl, h5⟩
  have d0 : w5.cell? ⟨w1.heap.size + 2, 0, none⟩ = some (.int .i64 (knd s)) := h5.blk.cell 0
  have hf5 := HW3.out w5 h5.fr
  have hok0 : (IS.ofMsg s).Ok := ⟨by show (0 : Int) ≤ 0; omega, by show (0 : Int) ≤ _; omega, by show (s.extract 4 s.size).size ≤ maxLen; rw [ByteArray.size_extract]; have := HM.out; omega⟩
  have hkr : i64r (knd s) := by
    have h1 := IS.num_nn hok0 (k := 1) (by omega)
    have h2 := IS.num_lt hok0 (k := 1) (by omega)
    exact ⟨by show _ ≤ ((IS.ofMsg s).num 1).1; omega, by show ((IS.ofMsg s).num 1).1 ≤ _; omega⟩
  have HK := Lib.hid (known_any (knd s) w5 (HW.out.fr hf5 (fun _ x => x.elim)) hkr)
  have HF5 := Lib.hid hf5
  have HB5 := Lib.hid (HB3.out w5 h5.fr)
  have H5 := Lib.hid h5
  clear h5 hf5 hok0 hkr H2
  go_wp2_with fail
  refine HK.out.mono ?_
  rintro _ w6 ⟨rfl, rfl⟩
  cases hk : (fieldsOf (knd s)).isSome with
  | false =>
    have HRe : Hid (R = (MV0, 13)) := Lib.hid (by rw [HR.out, if_pos hk])
    go_wp2_with (refine wpList_store_row rfl 31 (.tmp 2) (.tmp 40) rfl W.heap.size cells0 rfl rfl 31 cells0 HB5.out (info31.trans (congrArg some rfl)) rfl all_cells0 ?_)
    refine bodyPost_ret (v := .tuple #[.agg cells0, .int .i64 13]) ?_ ?_ ?_
    · exact results_dec _ _ W.heap.size cells0 (.int .i64 13) rfl rfl (HB5.out.setRow cells0) rfl
    · rfl
    · rw [HRe.out]; exact dpost0 13 (HF5.out.setRow (.inr (Nat.le_refl _)) _)
  | true =>
    have hfr := H5.out.fr
    have H6 := fields_any (V := VIn (w1.heap.size + 1) w1.heap.size) (B := BIn (w1.heap.size + 1) w1.heap.size) ⟨VIn_good _ _, BIn_good _ _, H5.out, ⟨zero_r, ⟨zero_r, zero_r, zero_r⟩, fun q hq => (by cases hq)⟩, trivial, ⟨rfl, rfl⟩, ⟨rfl, rfl⟩, fun _ => .inl (fun a n c e => by cases e), fun _ => .inl rfl⟩ hk
    generalize hR6 : Vis.fields _ _ _ _ = r6 at H6
    have hmsg : r6 = IS.msg s := hR6.symm.trans (in_fields (w1.heap.size + 1) w1.heap.size (((IS.ofMsg s).num 1).2.num 2).2 { MV0 with kind := ((IS.ofMsg s).num 1).1, tag := (((IS.ofMsg s).num 1).2.num 2).1 })
    subst hmsg
    have H6 : Hid (Calls Tryd.prog 23 #[.iface 49 (.pointer (some ⟨w1.heap.size + 1, 0, none⟩)), .pointer (some ⟨w1.heap.size + 2, 0, none⟩)] w5 (MPost (VIn (w1.heap.size + 1) w1.heap.size) (two_ (w1.heap.size + 1) w1.heap.size) (fun c => c ≤ W.heap.size) _ (w1.heap.size + 2) (IS.msg s))) := Lib.hid H6
    have HRe : Hid (R = if (IS.msg s).2.finish.code ≠ 0 then (MV0, (IS.msg s).2.finish.code) else ((IS.msg s).1, 0)) := Lib.hid (by rw [HR.out, if_neg (by rw [hk]; decide)])
    clear hfr HK d0 HR H5 hR6
    generalize IS.msg s = r at *
    go_wp2_with fail
    refine H6.out.mono ?_
    rintro _ w6 ⟨rfl, vn, vq, h6⟩
    obtain ⟨F6, ⟨hi6, hok6, hF6⟩, _, an6, aq6⟩ := h6.ex
    have H7f := Lib.hid (iFinish_any _ _ _ _ hi6 hok6)
    have hfr6 := h6.fr
    have H6m := Lib.hid h6
    have HAn : Hid (Apart vn (two_ (w1.heap.size + 1) w1.heap.size)) := Lib.hid (an6.mono (fun c hc => (hF6 c).2 hc))
    have HAq : Hid (Apart vq (two_ (w1.heap.size + 1) w1.heap.size)) := Lib.hid (aq6.mono (fun c hc => (hF6 c).2 hc))
    clear h6 hi6 hok6 hF6 an6 aq6 hfr6 H6
    go_wp2_with fail
    refine H7f.out.mono ?_
    rintro _ w7 ⟨rfl, hi7, hf7⟩
    have hfr7 := H6m.out.fr.trans (hf7.mono (fun c hc => Or.inl hc))
    have HE := Lib.hid (iErr_any _ _ _ w7 hi7)
    have HF7 := Lib.hid (HW3.out w7 hfr7)
    have HB7 := Lib.hid (HB3.out w7 hfr7)
    have HBm : Hid (Blk w7 (w1.heap.size + 2) 31 (mcells r.1 vn vq)) := Lib.hid (hf7.blk H6m.out.blk (fun x => by rcases x with x | x <;> omega))
    have HSn := Lib.hid (H6m.out.ns.fr hf7 HAn.out)
    have HSq := Lib.hid (H6m.out.qs.fr hf7 HAq.out)
    have HCode : Hid (r.2.finish.code = if r.2.finish.cut then 2 else if r.2.finish.bad then 11 else if r.2.finish.over then 3 else 0) := Lib.hid rfl
    rw [← HCode.out] at HE
    clear hi7 hf7 hfr7 H7f
    generalize r.2.finish.code = code at *
    go_wp2_with fail
    refine HE.out.mono ?_
    rintro _ w8 ⟨rfl, rfl⟩
    by_cases hc : code = 0
    · subst hc
      have HRf : Hid (R = (r.1, 0)) := Lib.hid (by rw [HRe.out, if_neg (by simp)])
      clear HRe
      obtain ⟨oa, ca, rfl, hns⟩ := HSn.out
      obtain ⟨ob, cb, rfl, hqs⟩ := HSq.out
      have hall := all_mcells r.1 (.slice oa r.1.names.length ca) (.slice ob r.1.qids.length cb) rfl rfl
      have HAll := Lib.hid hall
      clear hall hns hqs
      go_wp2_with (first
        | (refine wpList_load_row rfl 31 (.tmp 6) rfl (w1.heap.size + 2) rfl 31 (mcells r.1 (.slice oa r.1.names.length ca) (.slice ob r.1.qids.length cb)) (0, 0) _ HBm.out Tryd.underlying31 rfl (info31.trans (congrArg some (size_mcells _ _ _).symm)) ?_)
        | (refine wpList_store_row rfl 31 (.tmp 2) (.tmp 52) rfl W.heap.size (mcells r.1 (.slice oa r.1.names.length ca) (.slice ob r.1.qids.length cb)) rfl rfl 31 cells0 HB7.out (info31.trans (congrArg some rfl)) rfl HAll.out ?_))
      have hfr8 : Fr (fun c => c = W.heap.size) w7 (w7.setRow W.heap.size (mcells r.1 (.slice oa r.1.names.length ca) (.slice ob r.1.qids.length cb))) := (Fr.refl (fun c => c = W.heap.size) w7).setRow (.inl rfl) _
      refine bodyPost_ret (v := .tuple #[.agg (mcells r.1 (.slice oa r.1.names.length ca) (.slice ob r.1.qids.length cb)), .int .i64 0]) ?_ ?_ ?_
      · exact results_dec _ _ W.heap.size _ (.int .i64 0) rfl rfl (HB7.out.setRow _) (size_mcells _ _ _)
      · rfl
      · rw [HRf.out]
        exact ⟨_, _, rfl, HSn.out.fr hfr8 (H6m.out.sn.mono (fun c hc => Nat.le_of_eq hc)), HSq.out.fr hfr8 (H6m.out.sq.mono (fun c hc => Nat.le_of_eq hc)), HF7.out.setRow (.inr (Nat.le_refl _)) _, H6m.out.sn.mono (fun c hc => Nat.le_of_lt hc), H6m.out.sq.mono (fun c hc => Nat.le_of_lt hc)⟩
    · have hcb : (code != 0) = true := by rw [bne_iff_ne]; exact hc
      have hcb2 : (code == 0) = false := by rw [beq_eq_false_iff_ne]; exact hc
      have HRf : Hid (R = (MV0, code)) := Lib.hid (by rw [HRe.out, if_pos hc])
      clear hc HRe
      go_wp2_with (refine wpList_store_row rfl 31 (.tmp 2) (.tmp 50) rfl W.heap.size cells0 rfl rfl 31 cells0 HB7.out (info31.trans (congrArg some rfl)) rfl all_cells0 ?_)
      refine bodyPost_ret (v := .tuple #[.agg cells0, .int .i64 code]) ?_ ?_ ?_
      · exact results_dec _ _ W.heap.size cells0 (.int .i64 code) rfl rfl (HB7.out.setRow cells0) rfl
      · rfl
      · rw [HRf.out]; exact dpost0 code (HF7.out.setRow (.inr (Nat.le_refl _)) _)

/-- What Decode returns. -/
def decode (s : ByteArray) : MV × Int :=
  if s.size < 7 then (MV0, 16) else if 8192 < lenOf s then (MV0, 3) else if lenOf s ≠ s.size then (MV0, 14) else
  if (fieldsOf (knd s)).isSome = false then (MV0, 13) else if (IS.msg s).2.finish.code ≠ 0 then (MV0, (IS.msg s).2.finish.code) else ((IS.msg s).1, 0)
theorem decode_any (s : ByteArray) (W : World) (hw : Words W) (hm : s.size ≤ maxLen) : Calls Tryd.prog 7 #[.string s] W (DPost (decode s) W) := by
  unfold decode
  by_cases h7 : s.size < 7
  · rw [if_pos h7]; exact decode_end s W h7
  · rw [if_neg h7]
    by_cases hn : 8192 < lenOf s
    · rw [if_pos hn]; exact decode_limit s W hm h7 hn
    · rw [if_neg hn]
      by_cases he : lenOf s = s.size
      · rw [if_neg (by simp [he])]; exact decode_main s W hw hm h7 hn he
      · rw [if_pos he]; exact decode_shape s W hm h7 hn he
end Go.Proofs.YtggkebngkkddhaaDoor
