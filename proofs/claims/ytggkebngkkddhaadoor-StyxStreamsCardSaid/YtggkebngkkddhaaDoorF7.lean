/- The walk through StyxStreams. -/
import Derived.Test.YtggkebngkkddhaaDoorF6
import Derived.WalkSpells
namespace Go.Proofs.YtggkebngkkddhaaDoor
open Go.RowKit

theorem info31b : (Tryd.prog.info? 31).map (fun i => (i.zero, i.size, i.bytes)) = some (some (.agg cells0), 27, 320) := by kernel_rfl
/-- What is asked of the messages. -/
def Okay (l : List ME) : Prop := ∀ e ∈ l, e.m.R ∧ e.m.W ∧ i64r e.m.kind ∧ i64r e.m.tag ∧ e.m.Sz
def CutsAt (w : World) (v : Value) (l : List Int) : Prop :=
  ∃ oa cap, v = .slice oa l.length cap ∧ ∀ i x, l[i]? = some x → ∃ b o, oa = some ⟨b, o, none⟩ ∧ w.cell? ⟨b, o + i, none⟩ = some (.int .u16 x) ∧ 0 ≤ x ∧ x < 65536
theorem new_row (w : World) (e : ME) : ∀ j u, e.cells.toList[j]? = some u → (w.alloc (.cells e.cells 31)).cell? ((⟨w.heap.size, 0, none⟩ : Addr).add j) = some u := by
  intro j u h
  have h2 := (Blk.new w 31 e.cells).cell j
  rw [show ((⟨w.heap.size, 0, none⟩ : Addr).add j) = ⟨w.heap.size, j, none⟩ by simp [Addr.add]; intro h; simp [h], h2]
  simpa using h
theorem one_row (e : ME) (w : World) (h : Held w e) : ∀ u ∈ e.cells.toList, u.oneCell' = true := by
  have h2 := all_mcells e.m e.n e.q h.1.one h.2.one
  rw [Array.all_eq_true'] at h2
  intro u hu
  exact h2 u (Array.mem_toList_iff.1 hu)
theorem sizes_few (l : List ByteArray) : sizes l = sumB l + 2 * l.length := by
  unfold sizes sumB
  induction l with
  | nil => rfl
  | cons a l ih => simp only [List.map_cons, List.sum_cons, List.length_cons]; omega
theorem few_need (m : MV) (h : m.few) : m.need ≤ 900000 := by
  obtain ⟨h1, h2, h3⟩ := h
  have h4 := sizes_few m.names
  unfold MV.need
  unfold MV.texts at h3
  omega
def Kept (l : List ME) (j : Nat) : List ME := (l.take j).filter keepB
/-- Where the first loop stands. -/
structure L1 (l : List ME) (W wr : World) (v : Value) (st : ByteArray) (j : Nat) : Prop where
  row : Row W.heap.size wr v (Kept l j)
  str : bs st = ((Kept l j).map (fun e => enc1 e.m)).flatMap bs
  few : ∀ e ∈ Kept l j, e.m.few
  fr : Fr none_ W wr
theorem L1.start (l : List ME) {W wr : World} (hf : Fr none_ W wr) : L1 l W wr (.slice none 0 0) ⟨#[]⟩ 0 := ⟨Row.nil _ _, rfl, (fun e h => by cases h), hf⟩
theorem L1.skip {l : List ME} {W wr w' : World} {v : Value} {st : ByteArray} {j : Nat} (h : L1 l W wr v st j) (hf : Fr none_ wr w') {e : ME} (he : l[j]? = some e) (hk : keepB e = false) : L1 l W w' v st (j + 1) := by
  have hK : Kept l (j + 1) = Kept l j := by unfold Kept; rw [kept_snoc l j e he, hk]; simp
  exact ⟨by rw [hK]; exact h.row.fr0 hf, by rw [hK]; exact h.str, by rw [hK]; exact h.few, h.fr.trans hf⟩
theorem L1.next {l : List ME} {W wr w1 w' : World} {v v' : Value} {st s1 : ByteArray} {j : Nat} (h : L1 l W wr v st j) (hf : Fr none_ wr w1) {e : ME} (he : l[j]? = some e) (hk : keepB e = true) (hfew : e.m.few) (hs : e.m.encode.1 = s1)
    (hh : Held W e) (h1 : w'.ownsRow W.heap.size 31 27 v' ((Kept l j).length + 1) (ecells (Kept l j) ++ e.cells.toList)) (h2 : w1.grownBy w' v.ownBlock) (h3 : v'.ownBlock = v.ownBlock ∨ v'.ownBlock = some w1.heap.size) :
    L1 l W w' v' (st ++ s1) (j + 1) := by
  have hK : Kept l (j + 1) = Kept l j ++ [e] := by unfold Kept; rw [kept_snoc l j e he, hk]; simp
  have hfw := h.fr.trans hf
  have hlo : ∀ r, v.ownBlock = some r → W.heap.size ≤ r := fun r hr => own_ge h.row.own hr
  have ap : ∀ {x : Value}, Apart x (fun b => W.heap.size ≤ b) → Apart x (fun b => v.ownBlock = some b) := fun hx a n c hx1 hn hb => hx a n c hx1 hn (hlo _ hb)
  refine ⟨?_, ?_, ?_, hfw.trans_ (grown_fr h2) (fun c hc hl => by have := hlo c hc; omega)⟩
  · rw [hK]
    exact (h.row.fr0 hf).snoc (hh.fr0 hfw) (ap hh.1.apart) (ap hh.2.apart) h1 h2 h3
  · rw [hK, bs_append, h.str, ← hs]
    simp [enc1]
  · rw [hK]
    intro x hx
    rcases List.mem_append.1 hx with hx | hx
    · exact h.few x hx
    · obtain rfl := List.mem_singleton.1 hx
      exact hfew
theorem Kept.le (l : List ME) (j : Nat) : (Kept l j).length ≤ l.length := Nat.le_trans (List.length_filter_le _ _) (List.length_take_le' _ _)

theorem L1.size {l : List ME} {W wr : World} {v : Value} {st : ByteArray} {j : Nat} (h : L1 l W wr v st j) : st.size ≤ 2000 * l.length := by
  have h1 := congrArg List.length h.str
  rw [bs_length] at h1
  have h2 := flat_len ((Kept l j).map (fun e => enc1 e.m)) (fun s hs => by
    obtain ⟨e, he, rfl⟩ := List.mem_map.1 hs
    have := (List.mem_filter.1 he).2
    unfold keepB at this
    simp at this
    exact this.2)
  have h3 := Kept.le l j
  rw [List.length_map] at h2
  omega
theorem L2.drew {ms : List MV} {nc : Nat} {w2 wr : World} {gv : Value} {rest s : ByteArray} {G : List ME} {k : Nat} (h : L2 ms nc w2 wr gv rest s G k) : L2 ms nc w2 wr.drew gv rest s G k :=
  ⟨h.row.fr0 (Fr.drew (Fr.refl _ _)), h.got, h.cut, h.fr.drew, h.last⟩
theorem wpList_world {P : Program} {ops : Array Oper} {rest : List Oper} {a : Act} {w w5 : World} {Q : Exit → Act → World → Prop} (h : w5 = w) (k : wpList P ops Q rest a w5) : wpList P ops Q rest a w := h ▸ k
theorem built (e : ME) : Array.foldl (fun (cs : Array Value) (x : Value × Nat) => cs.setIfInBounds x.snd x.fst) #[Value.int IntKind.i64 0, Value.int IntKind.i64 0, Value.int IntKind.i64 0, Value.int IntKind.i64 0, Value.int IntKind.i64 0, Value.int IntKind.i64 0, Value.int IntKind.i64 0, Value.int IntKind.i64 0, Value.int IntKind.i64 0, Value.string { data := #[] }, Value.string { data := #[] }, Value.string { data := #[] }, Value.string { data := #[] }, Value.slice none 0 0, Value.slice none 0 0, Value.string { data := #[] }, Value.int IntKind.i64 0, Value.int IntKind.i64 0, Value.int IntKind.i64 0, Value.int IntKind.i64 0, Value.int IntKind.i64 0, Value.int IntKind.i64 0, Value.string { data := #[] }, Value.string { data := #[] }, Value.string { data := #[] }, Value.string { data := #[] }, Value.int IntKind.i64 0] (e.cells.zipIdx 0) 0 e.cells.size = e.cells := by
  kernel_rfl
theorem built27 (e : ME) : Array.foldl (fun (cs : Array Value) (x : Value × Nat) => cs.setIfInBounds x.snd x.fst) #[Value.int IntKind.i64 0, Value.int IntKind.i64 0, Value.int IntKind.i64 0, Value.int IntKind.i64 0, Value.int IntKind.i64 0, Value.int IntKind.i64 0, Value.int IntKind.i64 0, Value.int IntKind.i64 0, Value.int IntKind.i64 0, Value.string { data := #[] }, Value.string { data := #[] }, Value.string { data := #[] }, Value.string { data := #[] }, Value.slice none 0 0, Value.slice none 0 0, Value.string { data := #[] }, Value.int IntKind.i64 0, Value.int IntKind.i64 0, Value.int IntKind.i64 0, Value.int IntKind.i64 0, Value.int IntKind.i64 0, Value.int IntKind.i64 0, Value.string { data := #[] }, Value.string { data := #[] }, Value.string { data := #[] }, Value.string { data := #[] }, Value.int IntKind.i64 0] (e.cells.zipIdx 0) 0 27 = e.cells := by
  kernel_rfl

set_option maxRecDepth 20000 in
set_option maxHeartbeats 1000000 in
theorem streams_any (vm vc : Value) (l : List ME) (cs : List Int) (W : World) (hw : Words W) (hm : MsgsAt W vm l) (hok : Okay l) (hc : CutsAt W vc cs) :
    Calls Tryd.prog 5 #[vm, vc] W (fun e w' => e = .returned (.bool true) ∧ Fr none_ W w') := by
  obtain ⟨i0, hi0, hz0, hz1, hz2⟩ := info_parts info31b
  obtain ⟨oa, ca, rfl, hm⟩ := hm
  obtain ⟨oc, cc, rfl, hc⟩ := hc
  obtain ⟨nl, hnl⟩ : ∃ n, n = l.length := ⟨_, rfl⟩
  obtain ⟨nc, hnc⟩ : ∃ n, n = cs.length := ⟨_, rfl⟩
  rw [← hnl, ← hnc]
  have HM := Lib.hid hm
  have HCs := Lib.hid hc
  have HOk := Lib.hid hok
  have HW := Lib.hid hw
  have Hnl := Lib.hid hnl
  have Hnc := Lib.hid hnc
  clear hm hc hok hnl hnc hw
  go_enter Tryd.func5, Tryd.ntmps5
  go_wp2_with fail
  refine (awake_any W HW.out).mono ?_
  rintro _ w0 ⟨rfl, hf0⟩
  have HF0 := Lib.hid hf0
  clear hf0
  by_cases hbig : 12 < nl
  · go_wp2_with fail
    go_ret
    exact ⟨rfl, HF0.out⟩
  by_cases hbig2 : 20 < nc
  · go_wp2_with fail
    go_ret
    exact ⟨rfl, HF0.out⟩
  have hnl12 : nl ≤ 12 := by omega
  have hnc20 : nc ≤ 20 := by omega
  go_wp2_with fail
  go_loopg [5, 6, 8, 9, 10, 34] nl (fun gk s v _ _ _ i wr => ∃ (j : Nat) (st : ByteArray), j ≤ nl ∧ gk = nl - j ∧ i = .int .i64 j ∧ s = .string st ∧ L1 l W wr v st j)
  case atStart => exact ⟨0, ⟨#[]⟩, Nat.zero_le _, rfl, rfl, rfl, L1.start l HF0.out⟩
  case round =>
    obtain ⟨j, st, hj, rfl, rfl, rfl, hL⟩ := hrel
    have HL := Lib.hid hL
    clear hL
    by_cases hlt : j < nl
    · have hg : l[j]? = some (l[j]'(by rw [← Hnl.out]; exact hlt)) := List.getElem?_eq_getElem _
      obtain ⟨e, he⟩ : ∃ e, l[j]? = some e := ⟨_, hg⟩
      clear hg
      obtain ⟨b, o, rfl, hma, hhe⟩ := HM.out j e he
      have hoe := HOk.out e (List.mem_of_getElem? he)
      have HE := Lib.hid he
      have HMa := Lib.hid (hma.fr HL.out.fr (fun x => x))
      have HHe := Lib.hid hhe
      have HOe := Lib.hid hoe
      have hf1 : Fr none_ wr ((wr.alloc (.cells cells0 31)).setRow wr.heap.size e.cells) := ((Fr.refl none_ wr).alloc _).setRow (.inr (Nat.le_refl _)) _
      have HB1 : Hid (Blk ((wr.alloc (.cells cells0 31)).setRow wr.heap.size e.cells) wr.heap.size 31 e.cells) := Lib.hid ((Blk.new wr 31 cells0).setRow _)
      have HC1 := Lib.hid (few_any e.m e.n e.q ((wr.alloc (.cells cells0 31)).setRow wr.heap.size e.cells) (hhe.fr0 (HL.out.fr.trans hf1)).1 (hhe.fr0 (HL.out.fr.trans hf1)).2 hoe.2.2.2.2)
      have HF1 := Lib.hid hf1
      have HA1 := Lib.hid (all_mcells e.m e.n e.q hhe.1.one hhe.2.one)
      clear hma hhe hoe hf1 he
      go_wp2_with (first
        | (refine wpList_load_msg rfl (.tmp 36) rfl b (o + j * 27) rfl e HMa.out ?_)
        | (refine wpList_store_row rfl 31 (.tmp 8) (.tmp 37) rfl wr.heap.size e.cells rfl rfl 31 cells0 (Blk.new wr 31 cells0) (info31.trans (congrArg some (size_mcells e.m e.n e.q).symm)) rfl HA1.out ?_)
        | (refine wpList_load_row rfl 31 (.tmp 8) rfl wr.heap.size rfl 31 e.cells (0, 0) _ HB1.out Tryd.underlying31 rfl (info31.trans (congrArg some (size_mcells e.m e.n e.q).symm)) ?_))
      refine HC1.out.mono ?_
      rintro _ w2 ⟨bb, hbb, rfl, hf2⟩
      have HF2 := Lib.hid (HF1.out.trans hf2)
      have HB2 := Lib.hid (hf2.blk HB1.out (fun x => x))
      clear hf2 HC1 HF1 HB1
      by_cases hfew : e.m.few
      · obtain rfl : bb = true := hbb.2 hfew
        clear hbb
        have hh := HHe.out.fr0 (HL.out.fr.trans HF2.out)
        obtain ⟨s1, c1, hr⟩ : ∃ s c, e.m.encode = (s, c) := ⟨_, _, rfl⟩
        have H3 := encode_any e.m e.n e.q w2 ⟨HW.out.fr0 (HL.out.fr.trans HF2.out), hh.1, hh.2, HOe.out.1, HOe.out.2.1, HOe.out.2.2.1, HOe.out.2.2.2.1, few_need _ hfew⟩
        rw [hr] at H3
        have HC3 := Lib.hid H3
        have Hr := Lib.hid hr
        have HFew := Lib.hid hfew
        clear H3 hh hr hfew
        go_wp2_with (refine wpList_load_row rfl 31 (.tmp 8) rfl wr.heap.size rfl 31 e.cells (0, 0) _ HB2.out Tryd.underlying31 rfl (info31.trans (congrArg some (size_mcells e.m e.n e.q).symm)) ?_)
        refine HC3.out.mono ?_
        rintro _ w3 ⟨rfl, hf3⟩
        have HF3 := Lib.hid (HF2.out.trans hf3)
        have HB3 := Lib.hid (hf3.blk HB2.out (fun x => x))
        clear hf3 HC3 HB2 HF2
        by_cases hc1 : c1 = 0
        · subst hc1
          by_cases hs1 : s1.size ≤ 2000
          · have HKp : Hid (keepB e = true) := Lib.hid (by unfold keepB; rw [Hr.out]; simp [hs1])
            have HO3 := Lib.hid ((HL.out.row.fr0 HF3.out).own.alloc (.cells e.cells 31))
            have HNew := Lib.hid (new_row w3 e)
            have hst : st.size ≤ 24000 := by have h1 := HL.out.size; have h2 := Hnl.out; omega
            have h27 : e.cells.size = 27 := ME.size e
            have HOne := Lib.hid (one_row e W HHe.out)
            have HKl : Hid ((Kept l j).length ≤ 12) := Lib.hid (by have := Kept.le l j; have := Hnl.out; omega)
            have H63 : Hid ((Kept l j).length + 1 ≤ maxLen) := Lib.hid (by have := HKl.out; unfold maxLen; omega)
            have Hby : Hid (((Kept l j).length + 1) * 320 ≤ 140737488355328) := Lib.hid (by have := HKl.out; omega)
            have Hba : Hid (W.heap.size ≤ (w3.alloc (.cells e.cells 31)).heap.size) := Lib.hid (by have h1 := HL.out.fr.1; have h2 := HF3.out.1; simp; omega)
            go_wp2_with (first
              | (refine wpList_load_row rfl 31 (.tmp 8) rfl wr.heap.size rfl 31 e.cells (0, 0) _ HB3.out Tryd.underlying31 rfl (info31.trans (congrArg some (size_mcells e.m e.n e.q).symm)) ?_)
              | (at_builtin; rw [built27 e]; go_must (refine wpList_append_own_at _ rfl (.tmp 56) (.tmp 58) 41 rfl W.heap.size 31 i0 (.agg cells0) 27 320 Tryd.underlying41 hi0 hz0 hz1 hz2 rfl (by decide) u6 (Kept l j).length (ecells (Kept l j)) rfl HO3.out ⟨w3.heap.size, 0, none⟩ 1 1 e.cells.toList rfl rfl HNew.out HOne.out H63.out Hby.out Hba.out ?_); intro v' w4 hown hgrow hnil hloc))
            go_roundg (nl - (j + 1))
            case measure => omega
            case rel => exact ⟨j + 1, st ++ s1, by omega, rfl, by go_num, rfl, HL.out.next (HF3.out.alloc (.cells e.cells 31)) HE.out HKp.out HFew.out (by rw [Hr.out]) HHe.out hown hgrow hloc⟩
          · have HKp : Hid (keepB e = false) := Lib.hid (by unfold keepB; rw [Hr.out]; simp [hs1])
            have hs1' : (2000 : Int) < s1.size := by omega
            go_wp2_with fail
            go_roundg (nl - (j + 1))
            case measure => omega
            case rel => exact ⟨j + 1, st, by omega, rfl, by go_num, rfl, HL.out.skip HF3.out HE.out HKp.out⟩
        · have hcb : (c1 == 0) = false := by rw [beq_eq_false_iff_ne]; exact hc1
          have HKp : Hid (keepB e = false) := Lib.hid (by unfold keepB; rw [Hr.out]; simp [hc1])
          clear hc1
          go_wp2_with fail
          go_roundg (nl - (j + 1))
          case measure => omega
          case rel => exact ⟨j + 1, st, by omega, rfl, by go_num, rfl, HL.out.skip HF3.out HE.out HKp.out⟩
      · obtain rfl : bb = false := by cases bb <;> simp_all
        go_wp2_with fail
        go_ret
        exact ⟨rfl, HL.out.fr.trans HF2.out⟩
    · obtain rfl : j = nl := by omega
      have hms := HL.out.row.msgs
      have hg : Goods ((Kept l j).map (·.m)) := ⟨fun m hm => by
        obtain ⟨e, he, rfl⟩ := List.mem_map.1 hm
        obtain ⟨he1, he2⟩ := List.mem_filter.1 he
        unfold keepB at he2
        simp at he2
        exact ⟨(HOk.out e (List.mem_of_mem_take he1)).1, he2⟩⟩
      have hcut : Cut ((Kept l j).map (·.m)) 0 ⟨#[]⟩ st := by
        have := HL.out.str
        unfold Cut
        rw [List.drop_zero, List.map_map, this]
        rfl
      have hkl : (Kept l j).length ≤ 12 := by have := Kept.le l j; have := Hnl.out; omega
      have hks : ∀ e ∈ Kept l j, e.m.names.length ≤ 40 ∧ e.m.qids.length ≤ 40 := fun e he => ⟨(HL.out.few e he).1, (HL.out.few e he).2.1⟩
      have HF := Lib.hid HL.out.fr
      have HHw := Lib.hid (HW.out.fr0 HL.out.fr)
      obtain ⟨K, hK⟩ : ∃ K, K = Kept l j := ⟨_, rfl⟩
      rw [← hK] at hms hg hcut hkl hks
      obtain ⟨ms, hmsd⟩ : ∃ ms, ms = K.map (·.m) := ⟨_, rfl⟩
      rw [← hmsd] at hg hcut
      have hml : ms.length ≤ 12 := by rw [hmsd, List.length_map]; exact hkl
      have hL2 : L2 ms nc wr wr (.slice none 0 0) ⟨#[]⟩ st [] 0 := ⟨Row.nil _ _, rfl, hcut, Fr.refl _ _, fun h => absurd h (by omega)⟩
      have HMs := Lib.hid hms
      have HG := Lib.hid hg
      have Hmsd := Lib.hid hmsd
      have HKs := Lib.hid hks
      have Hml := Lib.hid hml
      clear hms hg hcut hks hmsd hml hkl HL HM HOk Hnl hK HW HF0
      rename_i hh1 hh2
      generalize wr = w2 at *
      go_wp2_with fail
      go_loopg [5, 11, 12, 13, 14, 15, 16, 17, 19, 20, 21] (nc + 1) (fun gk s g r i _ _ _ _ _ _ _ w' => ∃ (k : Nat) (sv rest : ByteArray) (G : List ME), k ≤ nc + 1 ∧ gk = nc + 1 - k ∧ i = .int .i64 k ∧ s = .string sv ∧ r = .string rest ∧ L2 ms nc w2 w' g rest sv G k)
      case atStart => exact ⟨0, st, ⟨#[]⟩, [], by omega, rfl, rfl, rfl, rfl, hL2⟩
      case round =>
        clear hL2
        obtain ⟨k, sv, rest, G, hk, rfl, rfl, rfl, rfl, hL⟩ := hrel
        have HL := Lib.hid hL
        clear hL
        have hsz : rest.size + sv.size ≤ 24000 := by have h1 := HL.out.cut.size HG.out; have h2 := Hml.out; omega
        by_cases hend : k = nc + 1
        · obtain ⟨e1, e2⟩ := HL.out.last (by omega)
          subst e2
          have he : G.map (·.m) = K.map (·.m) := by rw [HL.out.got, e1, List.take_of_length_le (Nat.le_refl _), Hmsd.out]
          have hGK : G.length ≤ 1000000 := by have := Hml.out; omega
          have HEq := Lib.hid (equalFunc_any u11 u6 G K wr HL.out.row.msgs (HMs.out.fr0 HL.out.fr) he hGK (fun e hx => by
            have h1 : e.m ∈ K.map (·.m) := by rw [← he]; exact List.mem_map.2 ⟨e, hx, rfl⟩
            obtain ⟨e', h2, h3⟩ := List.mem_map.1 h1
            have h4 := HKs.out e' h2
            rw [← h3]
            omega))
          have HFe := Lib.hid (HF.out.trans HL.out.fr)
          clear he hGK HL e1
          go_wp2_with fail
          refine HEq.out.mono ?_
          rintro _ w9 ⟨rfl, hf9⟩
          go_wp2_with fail
          go_ret
          exact ⟨rfl, HFe.out.trans hf9⟩
        · have hk' : k ≤ nc := by omega
          by_cases hlt2 : k < nc
          · have hg : cs[k]? = some (cs[k]'(by rw [← Hnc.out]; exact hlt2)) := List.getElem?_eq_getElem _
            obtain ⟨x, hx⟩ : ∃ x, cs[k]? = some x := ⟨_, hg⟩
            obtain ⟨bc, co, rfl, hxc, hx0, hx1⟩ := HCs.out k x hx
            have c1 := HL.out.fr.cell (HF.out.cell hxc (fun x => x)) (fun x => x)
            clear hg hxc
            by_cases hxs : x < (sv.size : Int)
            · go_wp2_with fail
              obtain ⟨M, left, hM1, hM2, hM3, hM4⟩ := HL.out.cut.step' HG.out x.toNat (by omega)
              have hlast : nc ≤ k → M = ms.drop G.length ∧ left = ⟨#[]⟩ := fun h => absurd h (by omega)
              have HFm := Lib.hid (frames_any (rest ++ sv.extract 0 x.toNat) wr (by rw [ByteArray.size_append]; rw [ByteArray.size_extract]; omega))
              rw [hM1] at HFm
              have HM1 := Lib.hid hM1
              have HM2 := Lib.hid hM2
              have HM3 := Lib.hid hM3
              have Hlast := Lib.hid hlast
              have hMl : M.length ≤ 12 := by have h1 := congrArg List.length hM2; have h2 := Hml.out; simp at h1; omega
              clear hM1 hM2 hM3 hM4 hlast
              refine HFm.out.mono ?_
              rintro _ w3 ⟨vf, rfl, hown, hf3⟩
              have h3 := L2.inner HL.out hf3 hown
              clear hown hf3 HFm
              obtain ⟨oaf, cf, hvf, hfs⟩ := h3.strs
              rw [List.length_map] at hvf
              subst hvf
              clear hfs
              have hL3s := h3
              clear h3
              go_wp2_with fail
              go_loopg [11, 19, 20, 21, 94] M.length (fun gk g _ _ _ i w' => ∃ (jj : Nat) (D : List ME), jj ≤ M.length ∧ gk = M.length - jj ∧ i = .int .i64 jj ∧ L3 w2 w' g (.slice oaf M.length cf) M G D jj)
              case atStart => exact ⟨0, [], Nat.zero_le _, rfl, rfl, hL3s⟩
              case round =>
                clear hL3s
                obtain ⟨jj, D, hjj, rfl, rfl, hL3⟩ := hrel
                have HL3 := Lib.hid hL3
                clear hL3
                by_cases hlt3 : jj < M.length
                · have hg3 : M[jj]? = some (M[jj]'hlt3) := List.getElem?_eq_getElem _
                  obtain ⟨m, hm⟩ : ∃ m, M[jj]? = some m := ⟨_, hg3⟩
                  clear hg3
                  have hmm : m ∈ ms := by
                    have := List.mem_of_getElem? hm
                    rw [HM2.out] at this
                    exact List.mem_of_mem_drop (List.mem_of_mem_take this)
                  obtain ⟨oaf', cf', e0, hfs⟩ := HL3.out.strs
                  obtain ⟨bf, of, e1, hcf⟩ := hfs jj (enc1 m) (by rw [List.getElem?_map, hm]; rfl)
                  rw [List.length_map] at e0
                  cases e0
                  subst e1
                  clear hfs
                  have HD := Lib.hid (decode_any (enc1 m) wr (HHw.out.fr0 HL3.out.fr) (by have := (HG.out.enc m hmm).2.2; unfold maxLen enc1; omega))
                  rw [(HG.out.dec m hmm).1] at HD
                  have HDl : Hid (D.length ≤ jj) := Lib.hid (by have := congrArg List.length HL3.out.got; simp at this; omega)
                  have HGl : Hid (G.length ≤ 12) := Lib.hid (by have h1 := congrArg List.length HL.out.got; have h2 := Hml.out; simp at h1; omega)
                  have Hm := Lib.hid hm
                  clear hmm hm
                  go_wp2_with fail
                  refine HD.out.mono ?_
                  rintro _ w4 ⟨vn, vq, rfl, hsn, hsq, hf4, han, haq⟩
                  clear HD
                  obtain ⟨e, rfl, rfl, rfl⟩ : ∃ e : ME, e.m = m ∧ e.n = vn ∧ e.q = vq := ⟨⟨m, vn, vq⟩, rfl, rfl, rfl⟩
                  rw [show mcells e.m e.n e.q = e.cells from rfl]
                  have h27 : e.cells.size = 27 := ME.size e
                  obtain ⟨w5, hw5⟩ : ∃ w5, w5 = (w4.alloc (.cells cells0 31)).setRow w4.heap.size e.cells := ⟨_, rfl⟩
                  have HW5 := Lib.hid hw5
                  have hf5 : Fr none_ w4 w5 := by rw [hw5]; exact ((Fr.refl none_ w4).alloc _).setRow (.inr (Nat.le_refl _)) _
                  have HB5 : Hid (Blk w5 w4.heap.size 31 e.cells) := Lib.hid (by rw [hw5]; exact (Blk.new w4 31 cells0).setRow _)
                  have HA5 := Lib.hid (all_mcells e.m e.n e.q hsn.one hsq.one)
                  have HOne := Lib.hid (one_row e w4 ⟨hsn, hsq⟩)
                  have HNew := Lib.hid (new_row w5 e)
                  have HO5 := Lib.hid ((HL3.out.row.fr0 (hf4.trans hf5)).own.alloc (.cells e.cells 31))
                  have H63 : Hid ((G ++ D).length + 1 ≤ maxLen) := Lib.hid (by have h1 := HDl.out; have h2 := HGl.out; rw [List.length_append]; unfold maxLen; omega)
                  have Hby : Hid (((G ++ D).length + 1) * 320 ≤ 140737488355328) := Lib.hid (by have h1 := HDl.out; have h2 := HGl.out; rw [List.length_append]; omega)
                  have Hba : Hid (w2.heap.size ≤ (w5.alloc (.cells e.cells 31)).heap.size) := Lib.hid (by have h1 := HL3.out.fr.1; have h2 := hf4.1; have h3 := hf5.1; simp; omega)
                  have hf6 : Fr none_ wr (w5.alloc (.cells e.cells 31)) := (hf4.trans hf5).alloc _
                  have hh6 : Held (w5.alloc (.cells e.cells 31)) e := (Held.fr0 ⟨hsn, hsq⟩ (hf5.alloc _))
                  have HF6 := Lib.hid hf6
                  have HH6 := Lib.hid hh6
                  have HAn := Lib.hid han
                  have HAq := Lib.hid haq
                  clear hf5 hf4 hsn hsq han haq hw5 hf6 hh6
                  go_wp2_with (first
                    | (refine wpList_store_row rfl 31 (.tmp 20) (.tmp 101) rfl w4.heap.size e.cells rfl rfl 31 cells0 (Blk.new w4 31 cells0) (info31.trans (congrArg some (size_mcells e.m e.n e.q).symm)) rfl HA5.out ?_; refine wpList_world HW5.out ?_)
                    | (refine wpList_load_row rfl 31 (.tmp 20) rfl w4.heap.size rfl 31 e.cells (0, 0) _ HB5.out Tryd.underlying31 rfl (info31.trans (congrArg some (size_mcells e.m e.n e.q).symm)) ?_)
                    | (at_builtin; rw [built27 e]; go_must (refine wpList_append_own_at _ rfl (.tmp 105) (.tmp 107) 41 rfl w2.heap.size 31 i0 (.agg cells0) 27 320 Tryd.underlying41 hi0 hz0 hz1 hz2 rfl (by decide) u11 (G ++ D).length (ecells (G ++ D)) rfl HO5.out ⟨w5.heap.size, 0, none⟩ 1 1 e.cells.toList rfl rfl HNew.out HOne.out H63.out Hby.out Hba.out ?_); intro v' w6 hown hgrow hnil hloc))
                  go_roundg (M.length - (jj + 1))
                  case measure => omega
                  case rel => exact ⟨jj + 1, D ++ [e], by omega, rfl, by go_num, HL3.out.next Hm.out HF6.out HH6.out HAn.out HAq.out hown hgrow hloc⟩
                · obtain rfl : jj = M.length := by omega
                  have HL2 := Lib.hid (L3.done HL.out HL3.out HM2.out HM3.out Hlast.out).drew
                  clear HL3 HL HM2 HM3 Hlast HM1
                  go_wp2_with fail
                  go_region
                  all_goals
                    go_wp2_with fail
                    go_roundg (nc + 1 - (k + 1))
                    case measure => omega
                    case rel => exact ⟨k + 1, _, left, G ++ D, by omega, rfl, by go_num, rfl, rfl, HL2.out⟩
            · go_wp2_with fail
              obtain ⟨M, left, hM1, hM2, hM3, hM4⟩ := HL.out.cut.step' HG.out sv.size (Nat.le_refl _)
              have hall : sv.extract 0 sv.size = sv := ByteArray.extract_zero_size
              rw [hall] at hM1
              have hlast : nc ≤ k → M = ms.drop G.length ∧ left = ⟨#[]⟩ := fun _ => hM4 rfl
              have HFm := Lib.hid (frames_any (rest ++ sv) wr (by rw [ByteArray.size_append]; omega))
              rw [hM1] at HFm
              have HM1 := Lib.hid hM1
              have HM2 := Lib.hid hM2
              have HM3 := Lib.hid hM3
              have Hlast := Lib.hid hlast
              have hMl : M.length ≤ 12 := by have h1 := congrArg List.length hM2; have h2 := Hml.out; simp at h1; omega
              clear hM1 hM2 hM3 hM4 hlast
              refine HFm.out.mono ?_
              rintro _ w3 ⟨vf, rfl, hown, hf3⟩
              have h3 := L2.inner HL.out hf3 hown
              clear hown hf3 HFm
              obtain ⟨oaf, cf, hvf, hfs⟩ := h3.strs
              rw [List.length_map] at hvf
              subst hvf
              clear hfs
              have hL3s := h3
              clear h3
              go_wp2_with fail
              go_loopg [11, 19, 20, 21, 94] M.length (fun gk g _ _ _ i w' => ∃ (jj : Nat) (D : List ME), jj ≤ M.length ∧ gk = M.length - jj ∧ i = .int .i64 jj ∧ L3 w2 w' g (.slice oaf M.length cf) M G D jj)
              case atStart => exact ⟨0, [], Nat.zero_le _, rfl, rfl, hL3s⟩
              case round =>
                clear hL3s
                obtain ⟨jj, D, hjj, rfl, rfl, hL3⟩ := hrel
                have HL3 := Lib.hid hL3
                clear hL3
                by_cases hlt3 : jj < M.length
                · have hg3 : M[jj]? = some (M[jj]'hlt3) := List.getElem?_eq_getElem _
                  obtain ⟨m, hm⟩ : ∃ m, M[jj]? = some m := ⟨_, hg3⟩
                  clear hg3
                  have hmm : m ∈ ms := by
                    have := List.mem_of_getElem? hm
                    rw [HM2.out] at this
                    exact List.mem_of_mem_drop (List.mem_of_mem_take this)
                  obtain ⟨oaf', cf', e0, hfs⟩ := HL3.out.strs
                  obtain ⟨bf, of, e1, hcf⟩ := hfs jj (enc1 m) (by rw [List.getElem?_map, hm]; rfl)
                  rw [List.length_map] at e0
                  cases e0
                  subst e1
                  clear hfs
                  have HD := Lib.hid (decode_any (enc1 m) wr (HHw.out.fr0 HL3.out.fr) (by have := (HG.out.enc m hmm).2.2; unfold maxLen enc1; omega))
                  rw [(HG.out.dec m hmm).1] at HD
                  have HDl : Hid (D.length ≤ jj) := Lib.hid (by have := congrArg List.length HL3.out.got; simp at this; omega)
                  have HGl : Hid (G.length ≤ 12) := Lib.hid (by have h1 := congrArg List.length HL.out.got; have h2 := Hml.out; simp at h1; omega)
                  have Hm := Lib.hid hm
                  clear hmm hm
                  go_wp2_with fail
                  refine HD.out.mono ?_
                  rintro _ w4 ⟨vn, vq, rfl, hsn, hsq, hf4, han, haq⟩
                  clear HD
                  obtain ⟨e, rfl, rfl, rfl⟩ : ∃ e : ME, e.m = m ∧ e.n = vn ∧ e.q = vq := ⟨⟨m, vn, vq⟩, rfl, rfl, rfl⟩
                  rw [show mcells e.m e.n e.q = e.cells from rfl]
                  have h27 : e.cells.size = 27 := ME.size e
                  obtain ⟨w5, hw5⟩ : ∃ w5, w5 = (w4.alloc (.cells cells0 31)).setRow w4.heap.size e.cells := ⟨_, rfl⟩
                  have HW5 := Lib.hid hw5
                  have hf5 : Fr none_ w4 w5 := by rw [hw5]; exact ((Fr.refl none_ w4).alloc _).setRow (.inr (Nat.le_refl _)) _
                  have HB5 : Hid (Blk w5 w4.heap.size 31 e.cells) := Lib.hid (by rw [hw5]; exact (Blk.new w4 31 cells0).setRow _)
                  have HA5 := Lib.hid (all_mcells e.m e.n e.q hsn.one hsq.one)
                  have HOne := Lib.hid (one_row e w4 ⟨hsn, hsq⟩)
                  have HNew := Lib.hid (new_row w5 e)
                  have HO5 := Lib.hid ((HL3.out.row.fr0 (hf4.trans hf5)).own.alloc (.cells e.cells 31))
                  have H63 : Hid ((G ++ D).length + 1 ≤ maxLen) := Lib.hid (by have h1 := HDl.out; have h2 := HGl.out; rw [List.length_append]; unfold maxLen; omega)
                  have Hby : Hid (((G ++ D).length + 1) * 320 ≤ 140737488355328) := Lib.hid (by have h1 := HDl.out; have h2 := HGl.out; rw [List.length_append]; omega)
                  have Hba : Hid (w2.heap.size ≤ (w5.alloc (.cells e.cells 31)).heap.size) := Lib.hid (by have h1 := HL3.out.fr.1; have h2 := hf4.1; have h3 := hf5.1; simp; omega)
                  have hf6 : Fr none_ wr (w5.alloc (.cells e.cells 31)) := (hf4.trans hf5).alloc _
                  have hh6 : Held (w5.alloc (.cells e.cells 31)) e := (Held.fr0 ⟨hsn, hsq⟩ (hf5.alloc _))
                  have HF6 := Lib.hid hf6
                  have HH6 := Lib.hid hh6
                  have HAn := Lib.hid han
                  have HAq := Lib.hid haq
                  clear hf5 hf4 hsn hsq han haq hw5 hf6 hh6
                  go_wp2_with (first
                    | (refine wpList_store_row rfl 31 (.tmp 20) (.tmp 101) rfl w4.heap.size e.cells rfl rfl 31 cells0 (Blk.new w4 31 cells0) (info31.trans (congrArg some (size_mcells e.m e.n e.q).symm)) rfl HA5.out ?_; refine wpList_world HW5.out ?_)
                    | (refine wpList_load_row rfl 31 (.tmp 20) rfl w4.heap.size rfl 31 e.cells (0, 0) _ HB5.out Tryd.underlying31 rfl (info31.trans (congrArg some (size_mcells e.m e.n e.q).symm)) ?_)
                    | (at_builtin; rw [built27 e]; go_must (refine wpList_append_own_at _ rfl (.tmp 105) (.tmp 107) 41 rfl w2.heap.size 31 i0 (.agg cells0) 27 320 Tryd.underlying41 hi0 hz0 hz1 hz2 rfl (by decide) u11 (G ++ D).length (ecells (G ++ D)) rfl HO5.out ⟨w5.heap.size, 0, none⟩ 1 1 e.cells.toList rfl rfl HNew.out HOne.out H63.out Hby.out Hba.out ?_); intro v' w6 hown hgrow hnil hloc))
                  go_roundg (M.length - (jj + 1))
                  case measure => omega
                  case rel => exact ⟨jj + 1, D ++ [e], by omega, rfl, by go_num, HL3.out.next Hm.out HF6.out HH6.out HAn.out HAq.out hown hgrow hloc⟩
                · obtain rfl : jj = M.length := by omega
                  have HL2 := Lib.hid (L3.done HL.out HL3.out HM2.out HM3.out Hlast.out).drew
                  rw [show sv.extract sv.size sv.size = ByteArray.empty by simp] at HL2
                  clear HL3 HL HM2 HM3 Hlast HM1
                  go_wp2_with fail
                  go_region
                  all_goals
                    go_wp2_with fail
                    go_roundg (nc + 1 - (k + 1))
                    case measure => omega
                    case rel => exact ⟨k + 1, _, left, G ++ D, by omega, rfl, by go_num, rfl, rfl, HL2.out⟩
          · obtain rfl : k = nc := by omega
            go_wp2_with fail
            obtain ⟨M, left, hM1, hM2, hM3, hM4⟩ := HL.out.cut.step' HG.out sv.size (Nat.le_refl _)
            have hall : sv.extract 0 sv.size = sv := ByteArray.extract_zero_size
            rw [hall] at hM1
            have hlast : k ≤ k → M = ms.drop G.length ∧ left = ⟨#[]⟩ := fun _ => hM4 rfl
            have HFm := Lib.hid (frames_any (rest ++ sv) wr (by rw [ByteArray.size_append]; omega))
            rw [hM1] at HFm
            have HM1 := Lib.hid hM1
            have HM2 := Lib.hid hM2
            have HM3 := Lib.hid hM3
            have Hlast := Lib.hid hlast
            have hMl : M.length ≤ 12 := by have h1 := congrArg List.length hM2; have h2 := Hml.out; simp at h1; omega
            clear hM1 hM2 hM3 hM4 hlast
            refine HFm.out.mono ?_
            rintro _ w3 ⟨vf, rfl, hown, hf3⟩
            have h3 := L2.inner HL.out hf3 hown
            clear hown hf3 HFm
            obtain ⟨oaf, cf, hvf, hfs⟩ := h3.strs
            rw [List.length_map] at hvf
            subst hvf
            clear hfs
            have hL3s := h3
            clear h3
            go_wp2_with fail
            go_loopg [11, 19, 20, 21, 94] M.length (fun gk g _ _ _ i w' => ∃ (jj : Nat) (D : List ME), jj ≤ M.length ∧ gk = M.length - jj ∧ i = .int .i64 jj ∧ L3 w2 w' g (.slice oaf M.length cf) M G D jj)
            case atStart => exact ⟨0, [], Nat.zero_le _, rfl, rfl, hL3s⟩
            case round =>
              clear hL3s
              obtain ⟨jj, D, hjj, rfl, rfl, hL3⟩ := hrel
              have HL3 := Lib.hid hL3
              clear hL3
              by_cases hlt3 : jj < M.length
              · have hg3 : M[jj]? = some (M[jj]'hlt3) := List.getElem?_eq_getElem _
                obtain ⟨m, hm⟩ : ∃ m, M[jj]? = some m := ⟨_, hg3⟩
                clear hg3
                have hmm : m ∈ ms := by
                  have := List.mem_of_getElem? hm
                  rw [HM2.out] at this
                  exact List.mem_of_mem_drop (List.mem_of_mem_take this)
                obtain ⟨oaf', cf', e0, hfs⟩ := HL3.out.strs
                obtain ⟨bf, of, e1, hcf⟩ := hfs jj (enc1 m) (by rw [List.getElem?_map, hm]; rfl)
                rw [List.length_map] at e0
                cases e0
                subst e1
                clear hfs
                have HD := Lib.hid (decode_any (enc1 m) wr (HHw.out.fr0 HL3.out.fr) (by have := (HG.out.enc m hmm).2.2; unfold maxLen enc1; omega))
                rw [(HG.out.dec m hmm).1] at HD
                have HDl : Hid (D.length ≤ jj) := Lib.hid (by have := congrArg List.length HL3.out.got; simp at this; omega)
                have HGl : Hid (G.length ≤ 12) := Lib.hid (by have h1 := congrArg List.length HL.out.got; have h2 := Hml.out; simp at h1; omega)
                have Hm := Lib.hid hm
                clear hmm hm
                go_wp2_with fail
                refine HD.out.mono ?_
                rintro _ w4 ⟨vn, vq, rfl, hsn, hsq, hf4, han, haq⟩
                clear HD
                obtain ⟨e, rfl, rfl, rfl⟩ : ∃ e : ME, e.m = m ∧ e.n = vn ∧ e.q = vq := ⟨⟨m, vn, vq⟩, rfl, rfl, rfl⟩
                rw [show mcells e.m e.n e.q = e.cells from rfl]
                have h27 : e.cells.size = 27 := ME.size e
                obtain ⟨w5, hw5⟩ : ∃ w5, w5 = (w4.alloc (.cells cells0 31)).setRow w4.heap.size e.cells := ⟨_, rfl⟩
                have HW5 := Lib.hid hw5
                have hf5 : Fr none_ w4 w5 := by rw [hw5]; exact ((Fr.refl none_ w4).alloc _).setRow (.inr (Nat.le_refl _)) _
                have HB5 : Hid (Blk w5 w4.heap.size 31 e.cells) := Lib.hid (by rw [hw5]; exact (Blk.new w4 31 cells0).setRow _)
                have HA5 := Lib.hid (all_mcells e.m e.n e.q hsn.one hsq.one)
                have HOne := Lib.hid (one_row e w4 ⟨hsn, hsq⟩)
                have HNew := Lib.hid (new_row w5 e)
                have HO5 := Lib.hid ((HL3.out.row.fr0 (hf4.trans hf5)).own.alloc (.cells e.cells 31))
                have H63 : Hid ((G ++ D).length + 1 ≤ maxLen) := Lib.hid (by have h1 := HDl.out; have h2 := HGl.out; rw [List.length_append]; unfold maxLen; omega)
                have Hby : Hid (((G ++ D).length + 1) * 320 ≤ 140737488355328) := Lib.hid (by have h1 := HDl.out; have h2 := HGl.out; rw [List.length_append]; omega)
                have Hba : Hid (w2.heap.size ≤ (w5.alloc (.cells e.cells 31)).heap.size) := Lib.hid (by have h1 := HL3.out.fr.1; have h2 := hf4.1; have h3 := hf5.1; simp; omega)
                have hf6 : Fr none_ wr (w5.alloc (.cells e.cells 31)) := (hf4.trans hf5).alloc _
                have hh6 : Held (w5.alloc (.cells e.cells 31)) e := (Held.fr0 ⟨hsn, hsq⟩ (hf5.alloc _))
                have HF6 := Lib.hid hf6
                have HH6 := Lib.hid hh6
                have HAn := Lib.hid han
                have HAq := Lib.hid haq
                clear hf5 hf4 hsn hsq han haq hw5 hf6 hh6
                go_wp2_with (first
                  | (refine wpList_store_row rfl 31 (.tmp 20) (.tmp 101) rfl w4.heap.size e.cells rfl rfl 31 cells0 (Blk.new w4 31 cells0) (info31.trans (congrArg some (size_mcells e.m e.n e.q).symm)) rfl HA5.out ?_; refine wpList_world HW5.out ?_)
                  | (refine wpList_load_row rfl 31 (.tmp 20) rfl w4.heap.size rfl 31 e.cells (0, 0) _ HB5.out Tryd.underlying31 rfl (info31.trans (congrArg some (size_mcells e.m e.n e.q).symm)) ?_)
                  | (at_builtin; rw [built27 e]; go_must (refine wpList_append_own_at _ rfl (.tmp 105) (.tmp 107) 41 rfl w2.heap.size 31 i0 (.agg cells0) 27 320 Tryd.underlying41 hi0 hz0 hz1 hz2 rfl (by decide) u11 (G ++ D).length (ecells (G ++ D)) rfl HO5.out ⟨w5.heap.size, 0, none⟩ 1 1 e.cells.toList rfl rfl HNew.out HOne.out H63.out Hby.out Hba.out ?_); intro v' w6 hown hgrow hnil hloc))
                go_roundg (M.length - (jj + 1))
                case measure => omega
                case rel => exact ⟨jj + 1, D ++ [e], by omega, rfl, by go_num, HL3.out.next Hm.out HF6.out HH6.out HAn.out HAq.out hown hgrow hloc⟩
              · obtain rfl : jj = M.length := by omega
                have HL2 := Lib.hid (L3.done HL.out HL3.out HM2.out HM3.out Hlast.out).drew
                rw [show sv.extract sv.size sv.size = ByteArray.empty by simp] at HL2
                clear HL3 HL HM2 HM3 Hlast HM1
                go_wp2_with fail
                go_region
                all_goals
                  go_wp2_with fail
                  go_roundg (k + 1 - (k + 1))
                  case measure => omega
                  case rel => exact ⟨k + 1, _, left, G ++ D, by omega, rfl, by go_num, rfl, rfl, HL2.out⟩
end Go.Proofs.YtggkebngkkddhaaDoor
