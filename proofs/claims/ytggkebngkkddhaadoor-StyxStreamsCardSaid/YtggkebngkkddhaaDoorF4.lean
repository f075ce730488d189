/- The walk through awake. -/
import Derived.Test.YtggkebngkkddhaaDoorF1
import Derived.Test.YtggkebngkkddhaaDoorF3
import Derived.Deep.WholeRow
namespace Go.Proofs.YtggkebngkkddhaaDoor
open Go.RowKit

def aw1 : MV := { MV0 with kind := 120, tag := 1, fid := 2 }
def aw2 : MV := { MV0 with kind := 107, tag := 65535, code := 4 }
def aw3 : MV := { MV0 with kind := 110, tag := 258, fid := 1, other := 2, names := [⟨#[97]⟩] }
theorem aw1_enc : aw1.encode = (⟨#[11, 0, 0, 0, 120, 1, 0, 2, 0, 0, 0]⟩, 0) := by kernel_rfl
theorem aw2_enc : aw2.encode = (⟨#[9, 0, 0, 0, 107, 255, 255, 4, 0]⟩, 0) := by kernel_rfl
theorem aw3_dec : decode ⟨#[20, 0, 0, 0, 110, 2, 1, 1, 0, 0, 0, 2, 0, 0, 0, 1, 0, 1, 0, 97]⟩ = (aw3, 0) := by kernel_rfl

theorem Words.fr0 {w w' : World} (h : Words w) (hf : Fr none_ w w') : Words w' := h.fr hf (fun _ x => x.elim)
theorem epre0 (m : MV) (W : World) (hw : Words W) (h1 : m.R) (h2 : m.W) (h3 : i64r m.kind) (h4 : i64r m.tag) (h5 : m.need ≤ 900000) (hn : m.names = []) (hq : m.qids = []) : EPre m nils nils W :=
  ⟨hw, by rw [hn]; exact strs_nil W, by rw [hq]; exact qids_nil W, h1, h2, h3, h4, h5⟩
theorem small_r (n : Int) (h0 : 0 ≤ n) (h1 : n ≤ 100000) : i64r n := ⟨by omega, by omega⟩

theorem wpList_load_row_if {P : Program} {ops : Array Oper} {rest : List Oper} {o : Oper} {a : Act} {w : World} {Q : Exit → Act → World → Prop} (hw : Region.wanted o (yielded ops a.tmps) = true) (ty : TypeId) (x : Operand) (ho : o.op = .load ty x)
    (g : Nat) (hx : a.eval x = .pointer (some ⟨g, 0, none⟩)) (t : TypeId) (cs : Array Value) (fr : Nat × Nat) (d : TypeDesc) (hg : w.heap[g]? = some (.cells cs t fr))
    (hu : P.underlying ty = some d) (hd : (match d with | .struct _ | .array _ _ => true | _ => false) = true) (hi : (P.info? ty).map (·.size) = some cs.size)
    (h : wpList P ops Q rest (a.put o.dst (.agg cs)) w) : wpList P ops Q (o :: rest) a w := by
  unfold wpList
  rw [if_pos hw]
  exact Or.inl (wp_load_row ty x ho g hx t cs fr d hg hu hd hi h)
theorem StrsAt.one {w : World} {v : Value} {l : List ByteArray} (h : StrsAt w v l) : v.oneCell' = true := by obtain ⟨_, _, rfl, _⟩ := h; rfl
theorem QidsAt.one {w : World} {v : Value} {l : List QV} (h : QidsAt w v l) : v.oneCell' = true := by obtain ⟨_, _, rfl, _⟩ := h; rfl

set_option maxRecDepth 20000 in
set_option maxHeartbeats 4000000 in
theorem awake_any (W : World) (hw : Words W) : Calls Tryd.prog 6 #[] W (fun e w' => e = .returned (.bool true) ∧ Fr none_ W w') := by
  have z : i64r 0 := zero_r
  have H1 : Hid (Calls Tryd.prog 10 #[.agg (mcells aw1 nils nils)] W _) := Lib.hid (encode_any aw1 nils nils W (epre0 aw1 W hw ⟨z, ⟨z, z, z⟩, fun q hq => by cases hq⟩ ⟨small_r _ (by decide) (by decide), z, z, z, z, z, z⟩ (small_r _ (by decide) (by decide)) (small_r _ (by decide) (by decide)) (by decide) rfl rfl))
  rw [aw1_enc] at H1
  have H2 : Hid (∀ w, Fr none_ W w → Calls Tryd.prog 10 #[.agg (mcells aw2 nils nils)] w (EPost (⟨#[9, 0, 0, 0, 107, 255, 255, 4, 0]⟩, 0) w)) := Lib.hid (fun w hf => by
    have := encode_any aw2 nils nils w (epre0 aw2 w (hw.fr0 hf) ⟨z, ⟨z, z, z⟩, fun q hq => by cases hq⟩ ⟨z, z, z, z, z, z, small_r _ (by decide) (by decide)⟩ (small_r _ (by decide) (by decide)) (small_r _ (by decide) (by decide)) (by decide) rfl rfl)
    rwa [aw2_enc] at this)
  have H3 : Hid (∀ w, Fr none_ W w → Calls Tryd.prog 7 #[.string ⟨#[20, 0, 0, 0, 110, 2, 1, 1, 0, 0, 0, 2, 0, 0, 0, 1, 0, 1, 0, 97]⟩] w (DPost (aw3, 0) w)) := Lib.hid (fun w hf => by
    have := decode_any ⟨#[20, 0, 0, 0, 110, 2, 1, 1, 0, 0, 0, 2, 0, 0, 0, 1, 0, 1, 0, 97]⟩ w (hw.fr0 hf) (by show 20 ≤ maxLen; unfold maxLen; omega)
    rwa [aw3_dec] at this)
  clear hw z
  go_enter Tryd.func6, Tryd.ntmps6
  go_wp2_with fail
  refine H1.out.mono ?_
  rintro _ w1 ⟨rfl, hf1⟩
  have HF1 := Lib.hid hf1
  clear hf1 H1
  go_wp2_with fail
  refine (H2.out w1 HF1.out).mono ?_
  rintro _ w2 ⟨rfl, hf2⟩
  have HF2 := Lib.hid (HF1.out.trans hf2)
  clear hf2 H2
  go_wp2_with fail
  refine (H3.out w2 HF2.out).mono ?_
  rintro _ w3 ⟨vn, vq, rfl, hn, hq, hf3, _, _⟩
  have HF3 := Lib.hid (HF2.out.trans hf3)
  have HN := Lib.hid hn
  have HQ := Lib.hid hq
  have hsA : StrsAt ((w3.alloc (.cells (mcells aw3 vn vq) 31)).alloc (.cells #[.string ⟨#[97]⟩] 9)) (.slice (some ⟨w3.heap.size + 1, 0, none⟩) 1 1) aw3.names := ⟨some ⟨w3.heap.size + 1, 0, none⟩, 1, rfl, fun i s hi => by
    cases i with
    | zero =>
      obtain rfl : (⟨#[97]⟩ : ByteArray) = s := Option.some.inj hi
      have h1 := (Blk.new (w3.alloc (.cells (mcells aw3 vn vq) 31)) 9 #[.string ⟨#[97]⟩]).cell 0
      rw [show (w3.alloc (.cells (mcells aw3 vn vq) 31)).heap.size = w3.heap.size + 1 from by simp] at h1
      exact ⟨_, _, rfl, h1⟩
    | succ i => simp [aw3] at hi⟩
  have hf4 : Fr none_ w3 ((w3.alloc (.cells (mcells aw3 vn vq) 31)).alloc (.cells #[.string ⟨#[97]⟩] 9)) := ((Fr.refl _ w3).alloc _).alloc _
  have H4 : Hid (Calls Tryd.prog 9 #[.agg (mcells aw3 vn vq), .agg (mcells aw3 (.slice (some ⟨w3.heap.size + 1, 0, none⟩) 1 1) nils)] ((w3.alloc (.cells (mcells aw3 vn vq) 31)).alloc (.cells #[.string ⟨#[97]⟩] 9)) _) :=
    Lib.hid (same_yes aw3 vn vq (.slice (some ⟨w3.heap.size + 1, 0, none⟩) 1 1) nils _ (hn.fr hf4 (fun _ _ _ _ _ x => x)) (hq.fr hf4 (fun _ _ _ _ _ x => x)) hsA (qids_nil _) (by decide) (by decide))
  have HF4 := Lib.hid ((HF2.out.trans hf3).trans hf4)
  have HAll := Lib.hid (all_mcells aw3 vn vq hn.one hq.one)
  have HN1 := Lib.hid ((Blk.new w3 31 cells0).setRow (mcells aw3 vn vq))
  rw [← World.setRow_alloc_new w3 cells0 (mcells aw3 vn vq) 31] at H4 HF4
  clear hf3 H3 hf4 hsA HN HQ HF3 hn hq
  go_wp2_with (first
    | (refine wpList_store_row rfl 31 (.tmp 5) (.tmp 19) rfl w3.heap.size (mcells aw3 vn vq) rfl rfl 31 cells0 (Blk.new w3 31 cells0) (info31.trans (congrArg some (size_mcells _ _ _).symm)) rfl HAll.out ?_)
    | (refine wpList_load_row_if (by rfl) 31 (.tmp 5) rfl w3.heap.size rfl 31 (mcells aw3 vn vq) (0, 0) _ HN1.out Tryd.underlying31 rfl (info31.trans (congrArg some (size_mcells _ _ _).symm)) ?_))
  refine H4.out.mono ?_
  rintro _ w4 ⟨rfl, hf5⟩
  have HF5 := Lib.hid (HF4.out.trans hf5)
  clear hf5
  go_wp2
  go_ret
  exact ⟨rfl, HF5.out⟩
end Go.Proofs.YtggkebngkkddhaaDoor
