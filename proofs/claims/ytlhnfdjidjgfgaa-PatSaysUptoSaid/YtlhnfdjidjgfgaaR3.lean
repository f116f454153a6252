/-
  Walks: turn.Step.
-/
import Derived.Test.YtlhnfdjidjgfgaaProg
import Derived.Test.YtlhnfdjidjgfgaaR2
import Derived.Test.YtlhnfdjidjgfgaaXe
import Derived.Test.YtlhnfdjidjgfgaaXd
import Derived.Test.YtlhnfdjidjgfgaaG1
import Derived.Test.YtlhnfdjidjgfgaaM2
import Derived.Test.YtlhnfdjidjgfgaaSt3
namespace Go.Proofs.Ytlhnfdjidjgfgaa
open Go.RowKit Go.Shelf
set_option linter.unusedVariables false
set_option maxHeartbeats 400000

noncomputable def rootS : List Ru → T → Option T
  | [], _ => none
  | f :: r, t => match fitF f.1 t with | some b => some (f.2.sub b) | none => rootS r t
mutual
/-- one step, within first -/
noncomputable def T.step (rs : List Ru) : T → Option T
  | .node h ks => match stepL rs ks with | some l => some (.node h l) | none => rootS rs (.node h ks)
noncomputable def stepL (rs : List Ru) : List T → Option (List T)
  | [] => none
  | k :: r => match k.step rs with | some x => some (x :: r) | none => (match stepL rs r with | some l => some (k :: l) | none => none)
end
theorem T.step_eq (rs : List Ru) (t : T) : t.step rs = match stepL rs t.kids with | some l => some (.node t.head l) | none => rootS rs t := by cases t; rw [T.step]; rfl
theorem stepL_hit {rs : List Ru} : ∀ {ks : List T} {k : Nat} {x : T}, k < ks.length → (∀ j, j < k → (gK ks j).step rs = none) → (gK ks k).step rs = some x → stepL rs ks = some (ks.set k x)
  | [], k, x, h, _, _ => by simp at h
  | y :: r, 0, x, _, _, hx => by
    have hx : y.step rs = some x := by simpa [gK] using hx
    rw [stepL, hx]; rfl
  | y :: r, k + 1, x, h, hno, hx => by
    have h0 : y.step rs = none := by have := hno 0 (by omega); simpa [gK] using this
    have ih := stepL_hit (ks := r) (k := k) (x := x) (by simpa using h) (fun j hj => by have := hno (j + 1) (by omega); simpa [gK] using this) (by simpa [gK] using hx)
    rw [stepL, h0, ih]; rfl
theorem stepL_none {rs : List Ru} : ∀ {ks : List T}, (∀ j, j < ks.length → (gK ks j).step rs = none) → stepL rs ks = none
  | [], _ => by rw [stepL]
  | y :: r, hno => by
    have h0 : y.step rs = none := by have := hno 0 (by simp); simpa [gK] using this
    have ih := stepL_none (ks := r) (fun j hj => by have := hno (j + 1) (by simpa using hj); simpa [gK] using this)
    rw [stepL, h0, ih]
theorem rootS_hit {t : T} : ∀ {rs : List Ru} {k : Nat} {f : Ru} {b : List T}, (∀ (j : Nat) f, j < k → rs[j]? = some f → fitF f.1 t = none) → rs[k]? = some f → fitF f.1 t = some b → rootS rs t = some (f.2.sub b)
  | [], k, f, b, _, h, _ => by simp at h
  | x :: r, 0, f, b, _, h, hc => by simp at h; subst h; rw [rootS, hc]
  | x :: r, k + 1, f, b, hno, h, hc => by
    rw [rootS, hno 0 x (by omega) rfl]
    exact rootS_hit (k := k) (fun j f hj hf => hno (j + 1) f (by omega) (by simpa using hf)) (by simpa using h) hc
theorem rootS_none {t : T} : ∀ {rs : List Ru}, (∀ (j : Nat) f, j < rs.length → rs[j]? = some f → fitF f.1 t = none) → rootS rs t = none
  | [], _ => rfl
  | x :: r, hno => by
    rw [rootS, hno 0 x (by simp) rfl]
    exact rootS_none (fun j f hj hf => hno (j + 1) f (by simpa using hj) (by simpa using hf))
mutual
theorem T.fit_size {N : Nat} : ∀ {p t : T} {bs bs' : Nat → T}, p.fit t bs = some bs' → t.size ≤ N → (∀ i, (bs i).size ≤ N) → ∀ i, (bs' i).size ≤ N
  | .node h ks, t, bs, bs', hf, ht, hb => by
    rw [T.fit] at hf
    split at hf
    · split at hf
      · obtain rfl := Option.some.inj hf
        intro i; unfold setT; split
        · exact ht
        · exact hb i
      · split at hf
        · obtain rfl := Option.some.inj hf; exact hb
        · cases hf
    · split at hf
      · exact fitL_size hf (by have := t.size_eq; omega) hb
      · cases hf
theorem fitL_size {N : Nat} : ∀ {ks ts : List T} {bs bs' : Nat → T}, fitL ks ts bs = some bs' → sizeL ts ≤ N → (∀ i, (bs i).size ≤ N) → ∀ i, (bs' i).size ≤ N
  | [], ts, bs, bs', hf, ht, hb => by rw [fitL] at hf; obtain rfl := Option.some.inj hf; exact hb
  | k :: r, [], bs, bs', hf, ht, hb => by rw [fitL] at hf; cases hf
  | k :: r, u :: us, bs, bs', hf, ht, hb => by
    rw [fitL] at hf
    rw [sizeL] at ht
    split at hf
    · cases hf
    · rename_i b hb1
      exact fitL_size hf (by omega) (T.fit_size hb1 (by omega) hb)
end
theorem fitF_length {p t : T} {b : List T} (h : fitF p t = some b) : b.length = p.most.toNat := by
  unfold fitF at h
  obtain ⟨f, _, rfl⟩ := Option.map_eq_some_iff.1 h
  exact listT_length _ _
theorem fitLst_size {p t : T} {i : Nat} {N : Nat} (ht : t.size ≤ N) (hN : 1 ≤ N) : (gK (fitLst p t) i).size ≤ N := by
  unfold fitLst fitF
  cases hf : p.fit t (fun _ => zeroT) with
  | none => simp [gK]; exact hN
  | some bs =>
    simp only [Option.map_some, Option.getD_some]
    have h1 := T.fit_size hf ht (fun _ => hN)
    by_cases hi : i < p.most.toNat
    · rw [listT_gK hi]; exact h1 i
    · rw [show gK (listT p.most.toNat bs) i = default by simp [gK, listT, hi]]; exact hN
mutual
theorem T.sub_size {bs : List T} {N : Nat} (hN : 1 ≤ N) (hb : ∀ i, (gK bs i).size ≤ N) : ∀ t : T, (t.sub bs).size ≤ t.size * N
  | .node h ks => by
    have h0 := subL_size hN hb ks
    rw [T.sub]
    split
    · split
      · have := hb (-h - 1).toNat
        simp only [T.size]; rw [Nat.add_mul]; omega
      · have := sizeL_le_mul hN ks
        simp only [T.size]; rw [Nat.add_mul]; omega
    · simp only [T.size]; rw [Nat.add_mul]; omega
theorem subL_size {bs : List T} {N : Nat} (hN : 1 ≤ N) (hb : ∀ i, (gK bs i).size ≤ N) : ∀ ks : List T, sizeL (subL bs ks) ≤ sizeL ks * N
  | [] => by simp [subL, sizeL]
  | t :: r => by
    have h1 := T.sub_size hN hb t
    have h2 := subL_size hN hb r
    simp only [subL, sizeL]; rw [Nat.add_mul]; omega
theorem sizeL_le_mul {N : Nat} (hN : 1 ≤ N) (ks : List T) : sizeL ks ≤ sizeL ks * N := Nat.le_mul_of_pos_right _ (by omega)
end
theorem rootS_size {t x : T} : ∀ {rs : List Ru}, (∀ (i : Nat) f, rs[i]? = some f → f.2.size ≤ 40) → rootS rs t = some x → x.size ≤ 40 * t.size
  | [], _, h => by cases h
  | f :: r, hs, h => by
    rw [rootS] at h
    split at h
    · rename_i b hb
      obtain rfl := Option.some.inj h
      have h1 := T.sub_size (bs := b) (N := t.size) t.size_pos (fun i => by
        have := fitLst_size (p := f.1) (t := t) (i := i) (Nat.le_refl _) t.size_pos
        unfold fitLst at this; rw [hb] at this; exact this) f.2
      have h2 := hs 0 f rfl
      exact Nat.le_trans h1 (Nat.mul_le_mul_right _ h2)
    · exact rootS_size (fun i f hf => hs (i + 1) f (by simpa using hf)) h
mutual
theorem T.step_size {rs : List Ru} (hs : ∀ (i : Nat) f, rs[i]? = some f → f.2.size ≤ 40) : ∀ {t x : T}, t.step rs = some x → x.size ≤ 40 * t.size
  | .node h ks, x, hx => by
    rw [T.step] at hx
    split at hx
    · rename_i l hl
      obtain rfl := Option.some.inj hx
      have := stepL_size hs hl
      simp only [T.size]; omega
    · exact rootS_size hs hx
theorem stepL_size {rs : List Ru} (hs : ∀ (i : Nat) f, rs[i]? = some f → f.2.size ≤ 40) : ∀ {ks l : List T}, stepL rs ks = some l → sizeL l ≤ 40 * sizeL ks
  | [], l, h => by rw [stepL] at h; cases h
  | k :: r, l, h => by
    rw [stepL] at h
    split at h
    · rename_i x hx
      obtain rfl := Option.some.inj h
      have := T.step_size hs hx
      simp only [sizeL]; omega
    · split at h
      · rename_i l' hl
        obtain rfl := Option.some.inj h
        have := stepL_size hs hl
        simp only [sizeL]; omega
      · cases h
end
/-- what a step hands back -/
def RStepP (p0 : Nat → Prop) (R : T) (ok : Bool) (w : World) (e : Ending) (w' : World) : Prop :=
  ∃ u, e = .returned (.tuple #[u, .bool ok]) ∧ TreeP (fun b => p0 b ∨ w.heap.size ≤ b) w' u R ∧ Below w.heap.size w w'
theorem St.stepped {P : Program} {n : Nat} {a : Array Value} {w0 w : World} {l : List Fct} (S : St w0 w l) {p0 : Nat → Prop} {R : T} {ok : Bool} (h : Calls P n a w (RStepP p0 R ok w)) :
    Calls P n a w fun e w' => ∃ k sp, e = .returned (.tuple #[.agg #[.int .i64 R.head, .slice k R.kids.length (R.kids.length + sp)], .bool ok]) ∧ w.heap.size ≤ w'.heap.size ∧
      St w0 w' (fsnoc l (.treeP (fun b => (p0 b ∨ w.heap.size ≤ b) ∧ b < w'.heap.size) (.agg #[.int .i64 R.head, .slice k R.kids.length (R.kids.length + sp)]) R)) :=
  h.mono fun e w' ⟨u, h1, h2, h3⟩ => by
    obtain ⟨k, sp, rfl⟩ := h2.at.form
    exact ⟨k, sp, h1, h3.size, (S.step h3).add (.treeP _ _ _) (h2.mono fun b hb hl => ⟨hb, hl⟩)⟩
theorem take_set_at {ks : List T} {k j : Nat} {x : T} (hj : j < ks.length) : (ks.set k x).take (j + 1) = (ks.set k x).take j ++ [(ks.set k x)[j]'(by simpa using hj)] := List.take_succ_eq_append_getElem (by simpa using hj)
theorem ret_box2b {P : Program} {fn : Func} {R : Ending → World → Prop} {a : Act} {w : World} (x y z : Value) (b : Nat) (T : TypeId) (hb : w.heap[b]? = some (.cells #[x, y] T (0, 0)))
    (hres : ∀ w' : World, w'.cell? ⟨b, 0, none⟩ = some x → w'.cell? ⟨b, 1, none⟩ = some y → (results fn a.tmps).run P w' = .ok (.tuple #[.agg #[x, y], z]) w') (hd : a.defers = [])
    (hR : R (.returned (.tuple #[.agg #[x, y], z])) w) : bodyPost P fn R .ret a w := bodyPost_ret (hres w (box2 hb).1.1 (box2 hb).2.1) hd hR

end Go.Proofs.Ytlhnfdjidjgfgaa
