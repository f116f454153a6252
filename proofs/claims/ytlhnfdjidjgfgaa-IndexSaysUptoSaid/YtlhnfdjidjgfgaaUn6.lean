/-
  Plain: sides are no matter; what fits can be made one.
-/
import Derived.Test.YtlhnfdjidjgfgaaUn4
namespace Go.Proofs.Ytlhnfdjidjgfgaa
open Go.RowKit Go.Shelf
set_option linter.unusedVariables false
set_option maxHeartbeats 400000

def FitFull (p : T) : Prop := ∀ (t : T) (bs σ : Nat → T), okA p → nzA t → p.inst σ = t → (∀ i, (bs i).head ≠ 0 → bs i = σ i) → ∃ r, p.fit t bs = some r ∧ ∀ i, (r i).head ≠ 0 → r i = σ i
theorem fitL_full : ∀ (ks ts : List T), (∀ i, i < ks.length → FitFull (gK ks i)) → ∀ (bs σ : Nat → T), (∀ i, i < ks.length → okA (gK ks i)) → (∀ i, i < ts.length → nzA (gK ts i)) → instL σ ks = ts → (∀ i, (bs i).head ≠ 0 → bs i = σ i) →
    ∃ r, fitL ks ts bs = some r ∧ ∀ i, (r i).head ≠ 0 → r i = σ i
  | [], ts, _, bs, σ, _, _, h, hb => by rw [instL] at h; subst h; exact ⟨bs, by rw [fitL], hb⟩
  | k :: kr, ts, hP, bs, σ, hok, hnz, h, hb => by
    rw [instL] at h
    subst h
    have h0 := hP 0 (by simp); have o0 := hok 0 (by simp); have n0 := hnz 0 (by simp)
    simp only [gK, List.getD_cons_zero] at h0 o0 n0
    obtain ⟨b, hf, hb2⟩ := h0 _ bs σ o0 n0 rfl hb
    obtain ⟨r, hr, hr2⟩ := fitL_full kr _ (fun i hi => by have := hP (i + 1) (by simpa using hi); simpa only [gK, List.getD_cons_succ] using this) b σ
        (fun i hi => by have := hok (i + 1) (by simpa using hi); simpa only [gK, List.getD_cons_succ] using this) (fun i hi => by have := hnz (i + 1) (by simpa using hi); simpa only [gK, List.getD_cons_succ] using this) rfl hb2
    exact ⟨r, by rw [fitL, hf]; exact hr, hr2⟩
theorem fit_full (p : T) : FitFull p := by
  induction p using T.ind with
  | h p ih =>
    intro t bs σ hok hnz h hb
    rw [T.fit_eq]
    rw [T.inst_eq] at h
    by_cases hn : p.head < 0
    · rw [if_pos hn] at h ⊢
      by_cases hz : (bs (-p.head - 1).toNat).head = 0
      · rw [if_pos hz]
        refine ⟨_, rfl, fun i hi => ?_⟩
        by_cases h1 : i = (-p.head - 1).toNat
        · subst h1; simp only [setT, if_true]; exact h.symm
        · simp only [setT, if_neg h1] at hi ⊢; exact hb i hi
      · rw [if_neg hz, if_pos (by rw [hb _ hz]; exact h)]
        exact ⟨bs, rfl, hb⟩
    · rw [if_neg hn] at h ⊢
      subst h
      rw [if_pos ⟨rfl, by simp [T.kids, instL_length]⟩]
      exact fitL_full p.kids _ ih bs σ (fun i hi => hok.kid hi) (fun i hi => hnz.kid (t := .node p.head (instL σ p.kids)) hi) rfl hb

/-- one behind the other -/
theorem ok_okA {t : T} (h : (treeF t).1 = 0) : okA t := (treeF_ok.1 h).2.2
theorem fitF_iff {p t : T} (hp : (treeF p).1 = 0) (ht : (treeF t).1 = 0) : (fitF p t).isSome = true ↔ ∃ σ, p.inst σ = t := by
  rw [fitF_isSome]
  constructor
  · intro h
    obtain ⟨r, hr⟩ := Option.isSome_iff_exists.1 h
    exact ⟨r, (fit_sound p t _ r (ok_okA hp) (ok_okA ht).nz hr).1⟩
  · rintro ⟨σ, h⟩
    obtain ⟨r, hr, _⟩ := fit_full p t (fun _ => zeroT) σ (ok_okA hp) (ok_okA ht).nz h (fun i hi => by simp [zeroT, T.head] at hi)
    rw [hr]; rfl
theorem UAns.len {A B : T} {L : List T} {ok : Bool} {f : Int × Int} (h : UAns A B L ok f) : L.length ≤ 8 := by
  rcases h with ⟨_, rfl, _⟩ | ⟨_, _, rfl, _⟩ | ⟨hA, hB, h⟩
  · simp
  · simp
  · rcases h with ⟨rfl, _⟩ | ⟨rfl, _⟩ | ⟨σ, _, rfl, _⟩
    · simp
    · simp
    · have jA := treeF_ok.1 hA; have jB := treeF_ok.1 hB
      rw [listT_length]
      exact uN_le ⟨jA.2.2, by omega, by omega⟩ ⟨jB.2.2, by omega, by omega⟩
theorem uN_comm (A B : T) : uN A B = uN B A := by
  unfold uN; simp only [mostL]; congr 1; omega
theorem Canon.comm {A B : T} {σ : Nat → T} (h : Canon (fun θ => A.inst θ = B.inst θ) σ) : Canon (fun θ => B.inst θ = A.inst θ) σ := ⟨h.sol.symm, fun θ hθ => h.gen θ hθ.symm, h.lv, h.low⟩
/-- a term without variables is its own instance -/
theorem inst_closed {t : T} (h : t.most ≤ 0) (θ : Nat → T) : t.inst θ = t := by
  have key : ∀ t : T, (∀ z ∈ t.pre, ¬ z.head < 0) → t.inst θ = t := fun t => by
    induction t using T.ind with
    | h t ih =>
      intro hz
      rw [inst_node (hz t (self_pre t)), instL_map]
      conv => rhs; rw [← T.node_eta t]
      congr 1
      refine (List.map_congr_left (g := id) fun x hx => ?_).trans (List.map_id _)
      obtain ⟨i, hi, rfl⟩ := List.getElem_of_mem hx
      have := ih i hi (fun z hz' => hz z (by rw [T.pre_eq]; exact List.mem_cons_of_mem _ (kid_pre_mem hi hz')))
      rw [gK_get hi] at this
      exact this
  exact key t (fun z hz hn => by have := head_le_most t z hz; omega)
/-- what the law asks, told of both answers -/
theorem turned_law {A B : T} {L M : List T} {ok is : Bool} {f g : Int × Int} (h : UAns A B L ok f) (k : UAns B A M is g) :
    ((f.1 = 0 ↔ g.1 = 0) ∧ (f.1 = 0 → L = M ∧ ok = is ∧ (treeF A).1 = 0 ∧ (treeF B).1 = 0 ∧ (B.most ≤ 0 → ok = (fitF A B).isSome))) := by
  rcases h with ⟨hA, _, _, rfl⟩ | ⟨hA, hB, _, _, rfl⟩ | ⟨hA, hB, h⟩
  · rcases k with ⟨hB, _, _, rfl⟩ | ⟨hB, _, _, _, rfl⟩ | ⟨hB, hA', _⟩
    · exact ⟨⟨fun h => absurd h hA, fun h => absurd h hB⟩, fun h => absurd h hA⟩
    · exact ⟨⟨fun h => absurd h hA, fun h => absurd h hA⟩, fun h => absurd h hA⟩
    · exact absurd hA' hA
  · rcases k with ⟨_, _, _, rfl⟩ | ⟨hB', _, _, _, rfl⟩ | ⟨hB', _, _⟩
    · exact ⟨⟨fun h => absurd h hB, fun h => absurd h hB⟩, fun h => absurd h hB⟩
    · exact absurd hB' hB
    · exact absurd hB' hB
  · rcases k with ⟨hB', _⟩ | ⟨_, hA', _⟩ | ⟨_, _, k⟩
    · exact absurd hB hB'
    · exact absurd hA hA'
    · rcases h with ⟨rfl, rfl, rfl, hn⟩ | ⟨rfl, rfl, rfl, σ, hm⟩ | ⟨σ, hf, rfl, rfl, rfl⟩
      · have hk : M = [] ∧ is = false ∧ g = (0, 0) := by
          rcases k with ⟨k1, k2, k3, _⟩ | ⟨_, _, _, τ, hm⟩ | ⟨τ, hf, _⟩
          · exact ⟨k1, k2, k3⟩
          · exact absurd hm.can.sol.symm (hn τ)
          · exact absurd hf.can.sol.symm (hn τ)
        obtain ⟨rfl, rfl, rfl⟩ := hk
        refine ⟨Iff.rfl, fun _ => ⟨rfl, rfl, hA, hB, fun hc => ?_⟩⟩
        cases hi : (fitF A B).isSome with
        | false => rfl
        | true =>
          obtain ⟨θ, hθ⟩ := (fitF_iff hA hB).1 hi
          exact absurd (hθ.trans (inst_closed hc θ).symm) (hn θ)
      · rcases k with ⟨_, _, _, hn⟩ | ⟨_, _, rfl, _⟩ | ⟨τ, hf, _⟩
        · exact absurd hm.can.sol.symm (hn σ)
        · exact ⟨Iff.rfl, fun h => absurd h (by simp)⟩
        · obtain rfl := hm.can.unique hf.can.comm
          obtain ⟨x, _, h1, h2⟩ := hm.big
          exact absurd (hf.fit x h1) h2
      · have hk : M = listT (uN A B) (bnd σ) ∧ is = true ∧ g = (0, 0) := by
          rcases k with ⟨_, _, _, hn⟩ | ⟨_, _, _, τ, hm⟩ | ⟨τ, hf2, k1, k2, k3⟩
          · exact absurd hf.can.sol.symm (hn σ)
          · obtain rfl := hf.can.unique hm.can.comm
            obtain ⟨x, _, h1, h2⟩ := hm.big
            exact absurd (hf.fit x h1) h2
          · obtain rfl := hf.can.unique hf2.can.comm
            exact ⟨by rw [k1, uN_comm], k2, k3⟩
        obtain ⟨rfl, rfl, rfl⟩ := hk
        refine ⟨Iff.rfl, fun _ => ⟨rfl, rfl, hA, hB, fun hc => ?_⟩⟩
        exact ((fitF_iff hA hB).2 ⟨σ, hf.can.sol.trans (inst_closed hc σ)⟩).symm
end Go.Proofs.Ytlhnfdjidjgfgaa
