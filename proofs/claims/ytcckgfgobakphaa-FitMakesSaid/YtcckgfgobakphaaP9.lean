/-
  Plain: the laws on matching.
-/
import Derived.Test.YtcckgfgobakphaaP8
import Derived.Test.YtcckgfgobakphaaT42
namespace Go.Proofs.Ytcckgfgobakphaa
open Go.RowKit Go.Shelf
set_option linter.unusedVariables false

theorem ok_okA {t : T} (h : (treeF t).1 = 0) : okA t := (treeF_ok.1 h).2.2
theorem fitF_iff {p t : T} (hp : (treeF p).1 = 0) (ht : (treeF t).1 = 0) : (fitF p t).isSome = true ↔ ∃ σ, p.inst σ = t := by
  rw [fitF_isSome]
  constructor
  · intro h
    obtain ⟨r, hr⟩ := Option.isSome_iff_exists.1 h
    exact ⟨r, (fit_sound p t _ r (ok_okA hp) (ok_okA ht).nz hr).1⟩
  · rintro ⟨σ, h⟩
    obtain ⟨r, hr, _⟩ := fit_full p t (fun _ => zeroT) σ (ok_okA hp) (ok_okA ht).nz h (fun i hi => by simp [zeroT, T.head] at hi)
    rw [hr]; rfl
theorem fitRow_law {a b c : T} {L1 L2 L3 L4 : List T} {x y z v : Bool} {d1 d2 d3 e d4 : Int} (h1 : fitD a b = (L1, x, 0, d1)) (h2 : fitD b c = (L2, y, 0, d2)) (h3 : fitD a c = (L3, z, 0, d3)) (h4 : fitD a a = (L4, v, e, d4)) :
    e = 0 ∧ v = true ∧ (x = true → y = true → z = true) := by
  obtain ⟨ha, hb, _, _, hx⟩ := fitD_ok h1
  obtain ⟨_, hc, _, _, hy⟩ := fitD_ok h2
  obtain ⟨_, _, _, _, hz⟩ := fitD_ok h3
  have he : e = 0 := by
    have h5 := congrArg (fun x => x.2.2) h4
    simp only [fitD_code] at h5
    rw [if_neg (by rw [ha]; simp), if_neg (by rw [ha]; simp)] at h5
    exact (congrArg Prod.fst h5).symm
  subst he
  obtain ⟨_, _, _, _, hv⟩ := fitD_ok h4
  refine ⟨rfl, ?_, fun hx1 hy1 => ?_⟩
  · rw [hv]; exact (fitF_iff ha ha).2 ⟨varT, inst_id a (ok_okA ha)⟩
  · rw [hx] at hx1; rw [hy] at hy1; rw [hz]
    obtain ⟨σ, h5⟩ := (fitF_iff ha hb).1 hx1
    obtain ⟨τ, h6⟩ := (fitF_iff hb hc).1 hy1
    exact (fitF_iff ha hc).2 ⟨fun i => (σ i).inst τ, by rw [← inst_inst, h5, h6]⟩
end Go.Proofs.Ytcckgfgobakphaa
