/-
  Walk: pat.instances' closure: a tree under a match.
-/
import Derived.Test.YtlhnfdjidjgfgaaProg
import Derived.Test.YtlhnfdjidjgfgaaTr0
import Derived.Test.YtlhnfdjidjgfgaaXd
import Derived.RegionTactic
namespace Go.Proofs.Ytlhnfdjidjgfgaa
open Go.RowKit Go.Shelf
set_option linter.unusedVariables false
set_option maxHeartbeats 400000

set_option maxRecDepth 100000 in
set_option maxHeartbeats 4000000 in
theorem inst131 (t : T) (bs : List T) (p0 : Nat → Prop) (v : Value) (bo : Option Addr) (bc bg : Nat) (w : World) (hp0 : ∀ b, p0 b → b < w.heap.size) (hl : bs.length ≤ 1000) (ht : TreeP p0 w v t) (hr : RowP p0 w bo bs) (hlow : t.low) (hts : t.size ≤ 100000000) (hbs : ∀ i, i < bs.length → (gK bs i).size ≤ 100000000)
    (hbg : w.cell? ⟨bg, 0, none⟩ = some (.slice bo bs.length bc)) :
    Calls Try.prog 131 #[v, .pointer (some ⟨bg, 0, none⟩)] w fun e w' => ∃ u, e = .returned u ∧ TreeP (fun b => p0 b ∨ w.heap.size ≤ b) w' u (t.sub bs) ∧ Below w.heap.size w w' := by
  obtain ⟨k, sp, rfl⟩ := ht.at.form
  obtain ⟨bx, hbx⟩ : ∃ b, b = w.heap.size := ⟨_, rfl⟩
  have S1 := ((St.start w).box hbx.symm #[.int .i64 t.head, .slice k t.kids.length (t.kids.length + sp)] 38).box (b := bx + 1) (by simp [hbx]) #[.int .i64 0, .slice none 0 0] 38
  have hb1 := Below.cellOf S1.bel hbg
  have HP0 := Lib.hid hp0; have HT := Lib.hid ht; have HR := Lib.hid hr
  have HBX := Lib.hid hbx
  clear hbg hp0 ht hr
  go_enter Try.func131, Try.ntmps131
  go_wp2_with fail
  rw [← hbx]
  refine St.gen S1 (z := bx + 2) (by simp [hbx]) ?_
  intro w1 z1 S
  clear S1 hb1 hbx
  refine (apply45 bs t p0 _ bo bc w1 (fun b hb => by have := HP0.out b hb; have := HBX.out; omega) hl (HT.out.kept S.bel) (HR.out.kept S.bel) hlow hts hbs).mono ?_
  rintro e w2 ⟨u, rfl, hu, hb2⟩
  obtain ⟨ku, su, rfl⟩ := hu.at.form
  have S2 := S.step hb2
  obtain ⟨⟨x0, x1⟩, x2, x3⟩ := S2.two 1
  have hl1 := S2.lt 1
  have SG := Lib.hid (S2.set2 1 rfl (.int .i64 (t.sub bs).head) (.slice ku (t.sub bs).kids.length ((t.sub bs).kids.length + su)) (by have := HBX.out; omega) (by simp only [fsnoc, offs, offAll, Fct.box, and_true]; omega))
  have HU := Lib.hid hu
  clear S S2 hu hb2
  go_wp2_with fail
  refine bodyPost_ret (v := .agg #[.int .i64 (t.sub bs).head, .slice ku (t.sub bs).kids.length ((t.sub bs).kids.length + su)]) ?_ rfl ?_
  · obtain ⟨⟨z0, _⟩, z2, _⟩ := SG.out.two 1
    simp [results, Try.results131, go_sem, z0, z2]
  · refine ⟨_, rfl, ((HU.out.setCell (a := ⟨bx + 1, 0, none⟩) ?_ _).setCell (a := ⟨bx + 1, 1, none⟩) ?_ _).mono (fun b h _ => h.elim .inl (fun h => .inr (by have := HBX.out; omega))), SG.out.bel⟩
    · rintro (h | h)
      · have h2 : bx + 1 < w.heap.size := HP0.out _ h
        have := HBX.out; omega
      · have h2 : w1.heap.size ≤ bx + 1 := h
        omega
    · rintro (h | h)
      · have h2 : bx + 1 < w.heap.size := HP0.out _ h
        have := HBX.out; omega
      · have h2 : w1.heap.size ≤ bx + 1 := h
        omega
end Go.Proofs.Ytlhnfdjidjgfgaa
