/- The walks through the blank's names, qids and dir. -/
import Derived.Test.YtggkebngkkddhaaDoorC2
namespace Go.Proofs.YtggkebngkkddhaaDoor
open Go.RowKit

theorem bl_names (b o : Nat) (x : Value) : VCall VBl 124 #[.agg #[], .pointer (some ⟨b, o, none⟩)] () ⟨b, o, none⟩ x (.slice none 0 0) () := by
  intro F w hi hb hx hz
  have x1 : (w.alloc (.cells #[] 118)).cell? ⟨b, o, none⟩ = some x := ((Fr.refl none_ w).alloc _).cell hx (fun x => x)
  have z1 : (w.alloc (.cells #[] 118)).frozen? ⟨b, o, none⟩ = false := ((Fr.refl none_ w).alloc _).frozen hx hz (fun x => x)
  have HG : Hid (VS VBl F w () (w.setCell ⟨b, o, none⟩ (.slice none 0 0)) ((w.alloc (.cells #[] 118)).setCell ⟨b, o, none⟩ (.slice none 0 0))) :=
    Lib.hid ⟨F, hi, fun _ x => .inl x, ((Fr.refl F w).alloc _).setCong _ hb, by simp [World.setCell]⟩
  clear hi hb hx hz
  go_enter Tryd.func124, Tryd.ntmps124
  go_wp2
  go_end0
  exact ⟨rfl, HG.out⟩

theorem bl_qids (b o : Nat) (x : Value) : VCall VBl 127 #[.agg #[], .pointer (some ⟨b, o, none⟩)] () ⟨b, o, none⟩ x (.slice none 0 0) () := by
  intro F w hi hb hx hz
  have x1 : (w.alloc (.cells #[] 118)).cell? ⟨b, o, none⟩ = some x := ((Fr.refl none_ w).alloc _).cell hx (fun x => x)
  have z1 : (w.alloc (.cells #[] 118)).frozen? ⟨b, o, none⟩ = false := ((Fr.refl none_ w).alloc _).frozen hx hz (fun x => x)
  have HG : Hid (VS VBl F w () (w.setCell ⟨b, o, none⟩ (.slice none 0 0)) ((w.alloc (.cells #[] 118)).setCell ⟨b, o, none⟩ (.slice none 0 0))) :=
    Lib.hid ⟨F, hi, fun _ x => .inl x, ((Fr.refl F w).alloc _).setCong _ hb, by simp [World.setCell]⟩
  clear hi hb hx hz
  go_enter Tryd.func127, Tryd.ntmps127
  go_wp2
  go_end0
  exact ⟨rfl, HG.out⟩

def DV0 : DV := ⟨⟨0, 0, 0⟩, 0, 0, 0, ⟨#[]⟩, ⟨#[]⟩, ⟨#[]⟩, ⟨#[]⟩⟩

theorem bl_dir (b o : Nat) (d : DV) (F : Nat → Prop) (w : World) (hi : VBl.inv () F w) (hb : ¬ F b) (hd : DAt w b o d) (hz : NoFrz w b) :
    Calls Tryd.prog 121 #[.agg #[], .pointer (some ⟨b, o, none⟩)] w (fun e w' => e = .returned (.tuple #[]) ∧ VS VBl F w () (setD w b o DV0) w') := by
  have hd1 := hd.fr ((Fr.refl none_ w).alloc (.cells #[] 118)) (fun x => x)
  have hlt : b < w.heap.size := cell_lt hd.mode
  have hz1 := hz.fr ((Fr.refl none_ w).alloc (.cells #[] 118)) hlt (fun x => x)
  have c0 := hd1.q.1
  have c1 := hd1.q.2.1
  have c2 := hd1.q.2.2
  have c3 := hd1.mode
  have c4 := hd1.time
  have c5 := hd1.len
  have c6 := hd1.name
  have c7 := hd1.owner
  have c8 := hd1.group
  have c9 := hd1.last
  have z0 := hz1 o
  have z1 := hz1 (o + 1)
  have z2 := hz1 (o + 2)
  have z3 := hz1 (o + 3)
  have z4 := hz1 (o + 4)
  have z5 := hz1 (o + 5)
  have z6 := hz1 (o + 6)
  have z7 := hz1 (o + 7)
  have z8 := hz1 (o + 8)
  have z9 := hz1 (o + 9)
  have HG : Hid (VS VBl F w () (setD w b o DV0) (setD (w.alloc (.cells #[] 118)) b o DV0)) :=
    Lib.hid ⟨F, hi, fun _ x => .inl x, ((Fr.refl F w).alloc _).congD o DV0 hb, by rw [size_setD]⟩
  clear hi hb hd hz hd1 hz1 hlt
  go_enter Tryd.func121, Tryd.ntmps121
  go_wp2
  go_end0
  exact ⟨rfl, HG.out⟩
end Go.Proofs.YtggkebngkkddhaaDoor
