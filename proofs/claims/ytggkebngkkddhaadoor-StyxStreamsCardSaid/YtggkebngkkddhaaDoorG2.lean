/- The row of StyxStreams. -/
import Derived.Test.YtggkebngkkddhaaDoorG1
namespace Go.Proofs.YtggkebngkkddhaaDoor
open Go.ChangeShapes Go.WideShapes Go.ChangeAt Go.RowKit

theorem ownKnob_ : ownKnob Tryd.prog.godebug = none := by kernel_rfl
def laidT : List (String × DataW Unit) := [("acheron/styx.words", Rows.laid_acheron_styx_words)]
theorem door_met (os : Os) (args : Array Value) : laidMetH Tryd.prog laidT ((World.doorLaid Tryd.prog 79 os).forCall (fun _ _ => 0) ⟨#[], args, []⟩).memory :=
  laidMetH_of_parts3 (fuel := 8) (laidMet_of_run' 8 (by kernel_rfl) (by kernel_rfl)) (by kernel_rfl) (by kernel_rfl)
theorem laidOut_ : laidOutB Tryd.prog = true := by kernel_rfl
theorem read41 : Tryd.prog.readableRec 41 = true := by kernel_rfl
theorem read42 : Tryd.prog.readableRec 42 = true := by kernel_rfl
theorem row41 : (41 : TypeId) < Tryd.prog.types.size := of_decide_eq_true (by kernel_rfl)
theorem row42 : (42 : TypeId) < Tryd.prog.types.size := of_decide_eq_true (by kernel_rfl)

theorem Fr.kept {W w' : World} (h : Fr none_ W w') (may : MemPlace → Prop) : W.keptBut w' may := by
  refine ⟨h.3.1, h.3.2, fun i hi => ?_⟩
  rw [h.2 i hi (fun x => x)]
  exact (World.keptBut_refl W may).2.2 i hi
theorem Fr.same_at {W w' : World} (h : Fr none_ W w') {p : MemPlace} (hp : p.block < W.heap.size) : W.sameAt w' p := by
  cases p with
  | cell b o => exact World.cell?_of_block (w := W) (h.2 b hp (fun x => x))
  | map b => exact h.2 b hp (fun x => x)
theorem Fr.trod {H : Type} {enc : TypeId × Value → H} {t : TypeId} (hr : Tryd.prog.readableRec t = true) (hrow : t < Tryd.prog.types.size) {W w' : World} {v : Value} {d : DataW H} {ps : List MemPlace}
    (h : DataW.Trod enc Tryd.prog W 0 (fun _ => true) true t v d ps) (hf : Fr none_ W w') (hlt : ∀ x ∈ ps, x.block < W.heap.size) :
    DataW.Trod enc Tryd.prog w' 0 (fun b => decide (b < W.heap.size)) true t v d ps :=
  WideElems.Trod_stays laidOut_ hr hrow h (fun x hx => hf.same_at (hlt x hx)) (fun x hx => by simpa using hlt x hx)

theorem fits_of {H : Type} {ts : List TypeId} {ds : List (DataW H)} (h : (DataW.weightsEach Tryd.prog ts ds).all (· ≤ reachBytes) = true) {j : Nat} {t : TypeId} {d : DataW H} (ht : ts[j]? = some t) (hd : ds[j]? = some d) : Fits t d := fun n hn => by
  have := List.all_eq_true.1 h _ (DataW.weights_mem_each ht hd n hn)
  simpa using this
theorem cells_one {v u : Value} (h : v.cells.toList = [u]) (hs : ∃ a n c, v = .slice a n c) : v = u := by
  obtain ⟨a, n, c, rfl⟩ := hs
  simpa [Value.cells] using h

set_option maxRecDepth 100000 in
theorem streams_lifted (os : Os) (started : os.Started) (H : Type) (enc : TypeId × Value → H) :
    ReturnsInHanded {} Tryd.checked os 5 .any (fun w args => (Rows.styxStreamsSpec.pre enc Tryd.prog Tryd.f5 [] false w args ∧ laidMetH Tryd.prog laidT w) ∧ sizedMet enc Tryd.prog Tryd.f5 (OpenSpec.ofChange Rows.styxStreamsSpec) false w args)
      (Rows.styxStreamsSpec.post enc Tryd.prog Tryd.f5 false true false false) := by
  refine returnsInHanded_of_change_and (C := Tryd.checked) (X := fun w _ => laidMetH Tryd.prog laidT w) (fun _ _ _ hh h => h.of_heap hh) ownKnob_ started (by kernel_rfl) Tryd.func5
    (ChangeSpec.witness_shaped (enc := enc) (C := Tryd.checked) (os := os) (X := fun w _ => laidMetH Tryd.prog laidT w) false (World.doorLaid Tryd.prog 79 os) #[.slice none 0 0, .slice none 0 0] 8 rfl (World.shaped_of_RefB (by kernel_rfl) (by kernel_rfl)) (by kernel_rfl) (by kernel_rfl) (by kernel_rfl) (door_met os _)) ?_
  intro W base args ds gs before hval0 hW _ hsz0 hL _
  have hval : ∀ (j : Nat) t v, Tryd.f5.params[j]? = some t → args[j]? = some v → Value.okWide Tryd.prog W .any base t v := hval0
  have hsz : (DataW.weightsEach Tryd.prog (Tryd.f5.params.toList ++ Rows.styxStreamsSpec.plain.varTypes Tryd.prog) (ds ++ gs)).all (· ≤ reachBytes) = true := hsz0
  have hlt0 := hW.lt
  have hW' := hW
  obtain ⟨p, q, hA0, hV, rfl, hfz, hnd⟩ := hW
  have hA : DataW.TrodAll enc Tryd.prog W 0 (fun _ => true) true Tryd.f5.params.toList args.toList ds p := hA0
  rw [Tryd.params5] at hA hval hsz
  obtain ⟨v0, v1, d0, d1, p0, p1, rfl, rfl, rfl, h0, h1⟩ := trodAll_two hA
  obtain ⟨rfl, rfl⟩ := trodVars_none hV
  have hf0 : Fits 41 d0 := fits_of hsz (j := 0) rfl rfl
  have hf1 : Fits 42 d1 := fits_of hsz (j := 1) rfl rfl
  obtain ⟨n0, t0⟩ := h0
  obtain ⟨n1, t1⟩ := h1
  obtain ⟨u0, l, e0, hm, hok⟩ := open_msgs t0 hf0 (fun b o hp => hfz b o (by simp [hp]))
  obtain ⟨u1, cs, e1, hc⟩ := open_cuts t1 hf1 (fun b o hp => hfz b o (by simp [hp]))
  have s0 := okWide_slice Tryd.underlying41 (hval 0 41 v0 rfl rfl)
  have s1 := okWide_slice Tryd.underlying42 (hval 1 42 v1 rfl rfl)
  obtain rfl := cells_one e0 s0
  obtain rfl := cells_one e1 s1
  refine (streams_any v0 v1 l cs W (words_of_laid hL) hm hok hc).mono fun e W' ⟨he, hf⟩ => ?_
  subst he
  have k1 : (Rows.styxStreamsSpec.fn H ([d0, d1] ++ [])).results = [.lit (.bool true)] := rfl
  have k2 : (Rows.styxStreamsSpec.fn H ([d0, d1] ++ [])).args = [d0, d1] := rfl
  refine ⟨_, rfl, _, _, _, [], p0 ++ p1, [], hW', ?_, ?_, ?_, hf.kept _, fun h => by cases h⟩
  · rw [k1]; exact trodAll_mk1 (shut_bool Tryd.underlying4 true)
  · rw [k2]
    exact trodAll_mk2 (hf.trod read41 row41 ⟨n0, t0⟩ (fun x hx => hlt0 x (by simp [hx]))) (hf.trod read42 row42 ⟨n1, t1⟩ (fun x hx => hlt0 x (by simp [hx])))
  · exact rfl

theorem streams_holds : Rows.StyxStreamsSaid :=
  OpenClaim.holds_of_wide 5 Tryd.f5 rfl rfl rfl rfl rfl rfl rfl ⟨rfl, rfl, rfl, rfl, rfl⟩ rfl rfl rfl rfl rfl (by kernel_rfl) Tryd.func5 (by kernel_rfl)
    (of_decide_eq_true (by kernel_rfl)) (by unfold Func.isWrapper; first | (rw [if_pos (by decide +kernel)]; kernel_rfl) | (rw [if_neg (by decide +kernel)]; exact ⟨rfl, rfl⟩))
    (fun os started H enc _ => streams_lifted os started H enc)
end Go.Proofs.YtggkebngkkddhaaDoor
