/-
  Walks: turn.Step.
-/
import Derived.Test.YteekoclfpehnpaaProg
import Derived.Test.YteekoclfpehnpaaR2
import Derived.Test.YteekoclfpehnpaaXe
import Derived.Test.YteekoclfpehnpaaXd
import Derived.Test.YteekoclfpehnpaaG1
import Derived.Test.YteekoclfpehnpaaE7
import Derived.Test.YteekoclfpehnpaaT20
namespace Go.Proofs.Yteekoclfpehnpaa
open Go.RowKit Go.Shelf
set_option linter.unusedVariables false
set_option maxHeartbeats 400000

noncomputable def rootS : List Ru → T → Option T
  | [], _ => none
  | f :: r, t => match fitF f.1 t with | some b => some (f.2.sub b) | none => rootS r t
mutual
/-- one step, within first -/
noncomputable def T.step (rs : List Ru) : T → Option T
  | .node h ks => match stepL rs ks with | some l => some (.node h l) | none => rootS rs (.node h ks)
noncomputable def stepL (rs : List Ru) : List T → Option (List T)
  | [] => none
  | k :: r => match k.step rs with | some x => some (x :: r) | none => (match stepL rs r with | some l => some (k :: l) | none => none)
end
theorem T.step_eq (rs : List Ru) (t : T) : t.step rs = match stepL rs t.kids with | some l => some (.node t.head l) | none => rootS rs t := by cases t; rw [T.step]; rfl
theorem stepL_hit {rs : List Ru} : ∀ {ks : List T} {k : Nat} {x : T}, k < ks.length → (∀ j, j < k → (gK ks j).step rs = none) → (gK ks k).step rs = some x → stepL rs ks = some (ks.set k x)
  | [], k, x, h, _, _ => by simp at h
  | y :: r, 0, x, _, _, hx => by
    have hx : y.step rs = some x := by simpa [gK] using hx
    rw [stepL, hx]; rfl
  | y :: r, k + 1, x, h, hno, hx => by
    have h0 : y.step rs = none := by have := hno 0 (by omega); simpa [gK] using this
    have ih := stepL_hit (ks := r) (k := k) (x := x) (by simpa using h) (fun j hj => by have := hno (j + 1) (by omega); simpa [gK] using this) (by simpa [gK] using hx)
    rw [stepL, h0, ih]; rfl
theorem stepL_none {rs : List Ru} : ∀ {ks : List T}, (∀ j, j < ks.length → (gK ks j).step rs = none) → stepL rs ks = none
  | [], _ => by rw [stepL]
  | y :: r, hno => by
    have h0 : y.step rs = none := by have := hno 0 (by simp); simpa [gK] using this
    have ih := stepL_none (ks := r) (fun j hj => by have := hno (j + 1) (by simpa using hj); simpa [gK] using this)
    rw [stepL, h0, ih]
theorem rootS_hit {t : T} : ∀ {rs : List Ru} {k : Nat} {f : Ru} {b : List T}, (∀ (j : Nat) f, j < k → rs[j]? = some f → fitF f.1 t = none) → rs[k]? = some f → fitF f.1 t = some b → rootS rs t = some (f.2.sub b)
  | [], k, f, b, _, h, _ => by simp at h
  | x :: r, 0, f, b, _, h, hc => by simp at h; subst h; rw [rootS, hc]
  | x :: r, k + 1, f, b, hno, h, hc => by
    rw [rootS, hno 0 x (by omega) rfl]
    exact rootS_hit (k := k) (fun j f hj hf => hno (j + 1) f (by omega) (by simpa using hf)) (by simpa using h) hc
theorem rootS_none {t : T} : ∀ {rs : List Ru}, (∀ (j : Nat) f, j < rs.length → rs[j]? = some f → fitF f.1 t = none) → rootS rs t = none
  | [], _ => rfl
  | x :: r, hno => by
    rw [rootS, hno 0 x (by simp) rfl]
    exact rootS_none (fun j f hj hf => hno (j + 1) f (by simpa using hj) (by simpa using hf))
mutual
theorem T.fit_size {N : Nat} : ∀ {p t : T} {bs bs' : Nat → T}, p.fit t bs = some bs' → t.size ≤ N → (∀ i, (bs i).size ≤ N) → ∀ i, (bs' i).size ≤ N
  | .node h ks, t, bs, bs', hf, ht, hb => by
    rw [T.fit] at hf
    split at hf
    · split at hf
      · obtain rfl := Option.some.inj hf
        intro i; unfold setT; split
        · exact ht
        · exact hb i
      · split at hf
        · obtain rfl := Option.some.inj hf; exact hb
        · cases hf
    · split at hf
      · exact fitL_size hf (by have := t.size_eq; omega) hb
      · cases hf
theorem fitL_size {N : Nat} : ∀ {ks ts : List T} {bs bs' : Nat → T}, fitL ks ts bs = some bs' → sizeL ts ≤ N → (∀ i, (bs i).size ≤ N) → ∀ i, (bs' i).size ≤ N
  | [], ts, bs, bs', hf, ht, hb => by rw [fitL] at hf; obtain rfl := Option.some.inj hf; exact hb
  | k :: r, [], bs, bs', hf, ht, hb => by rw [fitL] at hf; cases hf
  | k :: r, u :: us, bs, bs', hf, ht, hb => by
    rw [fitL] at hf
    rw [sizeL] at ht
    split at hf
    · cases hf
    · rename_i b hb1
      exact fitL_size hf (by omega) (T.fit_size hb1 (by omega) hb)
end
theorem fitF_length {p t : T} {b : List T} (h : fitF p t = some b) : b.length = p.most.toNat := by
  unfold fitF at h
  obtain ⟨f, _, rfl⟩ := Option.map_eq_some_iff.1 h
  exact listT_length _ _
theorem fitLst_size {p t : T} {i : Nat} {N : Nat} (ht : t.size ≤ N) (hN : 1 ≤ N) : (gK (fitLst p t) i).size ≤ N := by
  unfold fitLst fitF
  cases hf : p.fit t (fun _ => zeroT) with
  | none => simp [gK]; exact hN
  | some bs =>
    simp only [Option.map_some, Option.getD_some]
    have h1 := T.fit_size hf ht (fun _ => hN)
    by_cases hi : i < p.most.toNat
    · rw [listT_gK hi]; exact h1 i
    · rw [show gK (listT p.most.toNat bs) i = default by simp [gK, listT, hi]]; exact hN
mutual
theorem T.sub_size {bs : List T} {N : Nat} (hN : 1 ≤ N) (hb : ∀ i, (gK bs i).size ≤ N) : ∀ t : T, (t.sub bs).size ≤ t.size * N
  | .node h ks => by
    have h0 := subL_size hN hb ks
    rw [T.sub]
    split
    · split
      · have := hb (-h - 1).toNat
        simp only [T.size]; rw [Nat.add_mul]; omega
      · have := sizeL_le_mul hN ks
        simp only [T.size]; rw [Nat.add_mul]; omega
    · simp only [T.size]; rw [Nat.add_mul]; omega
theorem subL_size {bs : List T} {N : Nat} (hN : 1 ≤ N) (hb : ∀ i, (gK bs i).size ≤ N) : ∀ ks : List T, sizeL (subL bs ks) ≤ sizeL ks * N
  | [] => by simp [subL, sizeL]
  | t :: r => by
    have h1 := T.sub_size hN hb t
    have h2 := subL_size hN hb r
    simp only [subL, sizeL]; rw [Nat.add_mul]; omega
theorem sizeL_le_mul {N : Nat} (hN : 1 ≤ N) (ks : List T) : sizeL ks ≤ sizeL ks * N := Nat.le_mul_of_pos_right _ (by omega)
end
theorem rootS_size {t x : T} : ∀ {rs : List Ru}, (∀ (i : Nat) f, rs[i]? = some f → f.2.size ≤ 40) → rootS rs t = some x → x.size ≤ 40 * t.size
  | [], _, h => by cases h
  | f :: r, hs, h => by
    rw [rootS] at h
    split at h
    · rename_i b hb
      obtain rfl := Option.some.inj h
      have h1 := T.sub_size (bs := b) (N := t.size) t.size_pos (fun i => by
        have := fitLst_size (p := f.1) (t := t) (i := i) (Nat.le_refl _) t.size_pos
        unfold fitLst at this; rw [hb] at this; exact this) f.2
      have h2 := hs 0 f rfl
      exact Nat.le_trans h1 (Nat.mul_le_mul_right _ h2)
    · exact rootS_size (fun i f hf => hs (i + 1) f (by simpa using hf)) h
mutual
theorem T.step_size {rs : List Ru} (hs : ∀ (i : Nat) f, rs[i]? = some f → f.2.size ≤ 40) : ∀ {t x : T}, t.step rs = some x → x.size ≤ 40 * t.size
  | .node h ks, x, hx => by
    rw [T.step] at hx
    split at hx
    · rename_i l hl
      obtain rfl := Option.some.inj hx
      have := stepL_size hs hl
      simp only [T.size]; omega
    · exact rootS_size hs hx
theorem stepL_size {rs : List Ru} (hs : ∀ (i : Nat) f, rs[i]? = some f → f.2.size ≤ 40) : ∀ {ks l : List T}, stepL rs ks = some l → sizeL l ≤ 40 * sizeL ks
  | [], l, h => by rw [stepL] at h; cases h
  | k :: r, l, h => by
    rw [stepL] at h
    split at h
    · rename_i x hx
      obtain rfl := Option.some.inj h
      have := T.step_size hs hx
      simp only [sizeL]; omega
    · split at h
      · rename_i l' hl
        obtain rfl := Option.some.inj h
        have := stepL_size hs hl
        simp only [sizeL]; omega
      · cases h
end
/-- what a step hands back -/
def StepP (p0 : Nat → Prop) (R : T) (ok : Bool) (w : World) (e : Ending) (w' : World) : Prop :=
  ∃ u, e = .returned (.tuple #[u, .bool ok]) ∧ TreeP (fun b => p0 b ∨ w.heap.size ≤ b) w' u R ∧ Below w.heap.size w w'
theorem St.stepped {P : Program} {n : Nat} {a : Array Value} {w0 w : World} {l : List Fct} (S : St w0 w l) {p0 : Nat → Prop} {R : T} {ok : Bool} (h : Calls P n a w (StepP p0 R ok w)) :
    Calls P n a w fun e w' => ∃ k sp, e = .returned (.tuple #[.agg #[.int .i64 R.head, .slice k R.kids.length (R.kids.length + sp)], .bool ok]) ∧ w.heap.size ≤ w'.heap.size ∧
      St w0 w' (fsnoc l (.treeP (fun b => (p0 b ∨ w.heap.size ≤ b) ∧ b < w'.heap.size) (.agg #[.int .i64 R.head, .slice k R.kids.length (R.kids.length + sp)]) R)) :=
  h.mono fun e w' ⟨u, h1, h2, h3⟩ => by
    obtain ⟨k, sp, rfl⟩ := h2.at.form
    exact ⟨k, sp, h1, h3.size, (S.step h3).add (.treeP _ _ _) (h2.mono fun b hb hl => ⟨hb, hl⟩)⟩
theorem take_set_at {ks : List T} {k j : Nat} {x : T} (hj : j < ks.length) : (ks.set k x).take (j + 1) = (ks.set k x).take j ++ [(ks.set k x)[j]'(by simpa using hj)] := List.take_succ_eq_append_getElem (by simpa using hj)
theorem ret_box2b {P : Program} {fn : Func} {R : Ending → World → Prop} {a : Act} {w : World} (x y z : Value) (b : Nat) (T : TypeId) (hb : w.heap[b]? = some (.cells #[x, y] T (0, 0)))
    (hres : ∀ w' : World, w'.cell? ⟨b, 0, none⟩ = some x → w'.cell? ⟨b, 1, none⟩ = some y → (results fn a.tmps).run P w' = .ok (.tuple #[.agg #[x, y], z]) w') (hd : a.defers = [])
    (hR : R (.returned (.tuple #[.agg #[x, y], z])) w) : bodyPost P fn R .ret a w := bodyPost_ret (hres w (box2 hb).1.1 (box2 hb).2.1) hd hR

set_option maxRecDepth 100000 in
set_option maxHeartbeats 4000000 in
theorem step93 (rs : List Ru) (hok : ∀ (i : Nat) f, rs[i]? = some f → (treeF f.1).1 = 0 ∧ (treeF f.2).1 = 0) (hn : rs.length ≤ 1000000) (t : T) : ∀ (p0 : Nat → Prop) (v : Value) (ao : Option Addr) (c : Nat) (w : World), (∀ b, p0 b → b < w.heap.size) → ruleE.Row p0 w ao rs → TreeP p0 w v t → t.size ≤ 1000000 →
    Calls Try.prog 93 #[.slice ao rs.length c, v] w (StepP p0 ((t.step rs).getD t) (t.step rs).isSome w) := by
  induction t using T.ind with
  | h t ih =>
  intro p0 v ao c w hp hrow ht hsz
  obtain ⟨to_, sp, rfl, hr, hml⟩ := ht.open
  have hml : t.kids.length ≤ 9223372036854775807 := hml
  have HT := Lib.hid ht
  have HR := Lib.hid hr; have IH := Lib.hid ih; have HP := Lib.hid hp; have HW := Lib.hid hrow; have HOK := Lib.hid hok; have HSZ := Lib.hid hsz
  clear ht hr ih hp hrow hok hsz
  obtain ⟨i44, gi, gz0, gz1, gz2⟩ := info_parts info44
  obtain ⟨bx, hbx⟩ : ∃ b, b = w.heap.size := ⟨_, rfl⟩
  have S1 := ((St.start w).box hbx.symm #[.int .i64 t.head, .slice to_ t.kids.length (t.kids.length + sp)] 44).box (b := bx + 1) (by simp [hbx]) #[.int .i64 0, .slice none 0 0] 44
  have hsz1 : ((w.alloc (.cells #[.int .i64 t.head, .slice to_ t.kids.length (t.kids.length + sp)] 44)).alloc (.cells #[.int .i64 0, .slice none 0 0] 44)).heap.size = bx + 2 := by simp [hbx]
  go_enter Try.func93, Try.ntmps93
  go_wp2_with fail
  rw [← hbx]
  refine S1.genC (z := bx + 2) (by omega) ?_
  intro w1 z1 S
  have HBX := Lib.hid hbx
  clear S1 hbx hsz1
  go_loopw [20] (fun i wr => ∃ k : Nat, k ≤ t.kids.length ∧ i = .int .i64 k ∧ (∀ j, j < k → (gK t.kids j).step rs = none) ∧ bx + 2 ≤ wr.heap.size ∧ St w wr [.box bx #[.int .i64 t.head, .slice to_ t.kids.length (t.kids.length + sp)] 44, .box (bx + 1) #[.int .i64 0, .slice none 0 0] 44]) (fun i _ => t.kids.length - (intOf i).toNat)
  case atStart => exact ⟨0, by omega, rfl, fun j hj => by omega, z1, S⟩
  case round =>
    clear S
    obtain ⟨k, hk, rfl, hno, z2, S⟩ := hrel
    have HNO := Lib.hid hno
    clear hno
    by_cases hlt : k < t.kids.length
    · have hlti : (k : Int) < (t.kids.length : Int) := by omega
      obtain ⟨bb, off, ko, ksp, rfl, hpb, c0', c1', c2⟩ := HR.out k hlt
      have c0 := Below.cellOf S.bel c0'
      have c1 := Below.cellOf S.bel c1'
      have HTK := Lib.hid c2
      have HKS := Lib.hid (show (gK t.kids k).size ≤ 1000000 by have h1 := kid_size hlt; have h2 := HSZ.out; rw [T.size_eq] at h2; omega)
      obtain ⟨bk, hbk⟩ : ∃ b, b = wr.heap.size := ⟨_, rfl⟩
      have SK := S.box hbk.symm #[.int .i64 (gK t.kids k).head, .slice ko (gK t.kids k).kids.length ((gK t.kids k).kids.length + ksp)] 44
      clear S c0' c1' c2
      go_wp2_with fail
      rw [← hbk]
      refine SK.gen (z := bk + 1) (by simp [hbk]) ?_
      intro w2 z3 S
      have HBK := Lib.hid (show bx + 2 ≤ bk by omega)
      clear SK hbk c0 c1 z2
      obtain ⟨wv, hwv⟩ : ∃ W, W = wr := ⟨_, rfl⟩
      clear hwv
      have H := IH.out k hlt p0 (.agg #[.int .i64 (gK t.kids k).head, .slice ko (gK t.kids k).kids.length ((gK t.kids k).kids.length + ksp)]) ao c w2 (fun b hb => by have := HP.out b hb; have := S.bel.size; omega) (HW.out.kept S.bel) (HTK.out.kept S.bel) HKS.out
      cases hst : (gK t.kids k).step rs with
      | none =>
        rw [hst] at H
        refine (S.stepped H).mono ?_
        rintro e w3 ⟨xk, xs, rfl, z4, S3⟩
        have HN := Lib.hid (show ∀ j, j < k + 1 → (gK t.kids j).step rs = none from fun j hj => by
          rcases Nat.lt_succ_iff_lt_or_eq.1 hj with h | rfl
          · exact HNO.out j h
          · exact hst)
        have S5 := Lib.hid ((S3.alloc (.cells #[.int .i64 (Option.getD none (gK t.kids k)).head, .slice xk (Option.getD none (gK t.kids k)).kids.length ((Option.getD none (gK t.kids k)).kids.length + xs)] 44)).pick [0, 1])
        have z5 : bx + 2 ≤ (w3.alloc (.cells #[.int .i64 (Option.getD none (gK t.kids k)).head, .slice xk (Option.getD none (gK t.kids k)).kids.length ((Option.getD none (gK t.kids k)).kids.length + xs)] 44)).heap.size := by have := HBK.out; simp; omega
        clear S3 S H hst
        go_wp2_with fail
        go_roundw
        case rel => exact ⟨k + 1, by omega, by go_num, HN.out, z5, S5.out⟩
        case measure => simp [intOf] <;> omega
      | some x =>
        rw [hst] at H
        refine (S.stepped H).mono ?_
        simp only [Option.getD_some, Option.isSome_some]
        rintro e w3 ⟨xk, xs, rfl, z4, S3⟩
        have HST := Lib.hid (show t.step rs = some (.node t.head (t.kids.set k x)) by rw [T.step_eq, stepL_hit hlt HNO.out hst])
        have HXS := Lib.hid (show x.size ≤ 100000000 by
          have h1 := T.step_size (fun i f hf => (treeF_ok.1 (HOK.out i f hf).2).1) hst
          have h2 := HKS.out
          omega)
        obtain ⟨b8, hb8⟩ : ∃ b, b = w3.heap.size := ⟨_, rfl⟩
        obtain ⟨⟨x0, _⟩, _, _⟩ := S3.two 0
        have S7 := (((S3.box hb8.symm #[.int .i64 x.head, .slice xk x.kids.length (x.kids.length + xs)] 44).box (b := b8 + 1) (by simp [hb8]) #[.int .i64 t.head, .slice none 0 0] 44).add (.owns treeE (b8 + 2) (fun b => b8 + 2 ≤ b) (.slice none 0 0) []) (Elt.Own.nil _ _ _ _)).pick [0, 1, 4, 3, 5, 6]
        have hz7 : b8 + 2 ≤ ((w3.alloc (.cells #[.int .i64 x.head, .slice xk x.kids.length (x.kids.length + xs)] 44)).alloc (.cells #[.int .i64 t.head, .slice none 0 0] 44)).heap.size := by simp [hb8]
        have hl0 := S3.lt 0
        have HB8 := Lib.hid (show bk + 1 ≤ b8 ∧ b8 ≤ w3.heap.size ∧ w3.heap.size ≤ b8 by omega)
        clear S3 S H hst
        go_wp2_with fail
        rw [← hb8]
        refine S7.genC (z := b8 + 2) hz7 ?_
        intro w4 z7 S
        clear S7 hz7 x0 hl0 hb8
        obtain ⟨bo, hbo⟩ : ∃ b, b = b8 + 1 := ⟨_, rfl⟩
        have S : St w w4 [.box bx #[.int .i64 t.head, .slice (some ⟨bb, off, none⟩) t.kids.length (t.kids.length + sp)] 44, .box (bx + 1) #[.int .i64 0, .slice none 0 0] 44, .box b8 #[.int .i64 x.head, .slice xk x.kids.length (x.kids.length + xs)] 44, .treeP (fun b => (p0 b ∨ w2.heap.size ≤ b) ∧ b < w3.heap.size) (.agg #[.int .i64 x.head, .slice xk x.kids.length (x.kids.length + xs)]) x, .box bo #[.int .i64 t.head, .slice none 0 0] 44,
          .owns treeE (bo + 1) (fun b => bo + 1 ≤ b) (.slice none 0 0) []] := by rw [hbo]; exact S
        rw [← hbo]
        have HBO := Lib.hid (show bx + 2 ≤ bk ∧ bk + 1 ≤ b8 ∧ b8 + 1 = bo ∧ w3.heap.size ≤ b8 by have := HBK.out; have := HB8.out; omega)
        have z7 : bo + 1 ≤ w4.heap.size := by omega
        clear hbo
        go_loopw [39] (fun i wr => ∃ (j : Nat) (o : Value), j ≤ t.kids.length ∧ i = .int .i64 j ∧ bo + 1 ≤ wr.heap.size ∧ St w wr [.box bx #[.int .i64 t.head, .slice (some ⟨bb, off, none⟩) t.kids.length (t.kids.length + sp)] 44, .box (bx + 1) #[.int .i64 0, .slice none 0 0] 44, .box b8 #[.int .i64 x.head, .slice xk x.kids.length (x.kids.length + xs)] 44, .treeP (fun b => (p0 b ∨ w2.heap.size ≤ b) ∧ b < w3.heap.size) (.agg #[.int .i64 x.head, .slice xk x.kids.length (x.kids.length + xs)]) x, .box bo #[.int .i64 t.head, o] 44,
          .owns treeE (bo + 1) (fun b => bo + 1 ≤ b) o ((t.kids.set k x).take j)]) (fun i _ => t.kids.length - (intOf i).toNat)
        case atStart => exact ⟨0, _, by omega, rfl, z7, S⟩
        case round =>
          clear S
          obtain ⟨j, o, hj, rfl, z8, S⟩ := hrel
          by_cases hltj : j < t.kids.length
          · have hltji : (j : Int) < (t.kids.length : Int) := by omega
            obtain ⟨bb', off', jo, jsp, e0, hpj, d0', d1', d2⟩ := HR.out j hltj
            obtain ⟨rfl, rfl⟩ : bb = bb' ∧ off = off' := by simpa using e0
            have d0 := Below.cellOf S.bel d0'
            have d1 := Below.cellOf S.bel d1'
            have HTJ := Lib.hid (d2.kept S.bel)
            have HJS := Lib.hid (show (gK t.kids j).size ≤ 100000000 by have h1 := kid_size hltj; have h2 := HSZ.out; rw [T.size_eq] at h2; omega)
            have hlk : ((t.kids.set k x).take j).length = j := by simp; omega
            have hj6 : j ≤ 1000000 := by have h1 := length_le_sizeL t.kids; have h2 := HSZ.out; rw [T.size_eq] at h2; omega
            obtain ⟨b12, hb12⟩ : ∃ b, b = wr.heap.size := ⟨_, rfl⟩
            have HOW := Lib.hid (show ∀ c, o.ownBlock = some c → bo + 1 ≤ c ∧ c < b12 from fun c hc => by rw [hb12]; exact S.ownlt treeE 5 rfl c hc)
            clear d0' d1' d2 e0
            by_cases hjk : j = k
            · have hjb : ((j : Int) == (k : Int)) = true := by simp [hjk]
              have HTS := Lib.hid (show (t.kids.set k x).take (j + 1) = (t.kids.set k x).take j ++ [x] by rw [take_set_at hltj]; congr 2; simp [hjk])
              have HYT0 := (S.treeP 3).kept ((Below.refl _ wr).alloc (Nat.le_refl _) (.cells #[.int .i64 x.head, .slice xk x.kids.length (x.kids.length + xs)] 44))
              have SY := S.box hb12.symm #[.int .i64 x.head, .slice xk x.kids.length (x.kids.length + xs)] 44
              obtain ⟨⟨e0, _⟩, e1, _⟩ := S.two 2
              have hl2 := S.lt 2
              clear S hjk
              go_wp2_with fail
              rw [← hb12]
              have SY := SY.add (.treeP _ _ x) HYT0
              refine SY.genC (z := b12 + 1) (by simp [hb12]) ?_
              intro w5 z9 S
              have HB12 := Lib.hid (show bo + 1 ≤ b12 ∧ b12 + 1 ≤ w5.heap.size by omega)
              have HYT := Lib.hid (S.treeP 7)
              have HYS := HXS
              have SD : St w w5.drew [.box bx #[.int .i64 t.head, .slice (some ⟨bb, off, none⟩) t.kids.length (t.kids.length + sp)] 44, .box (bx + 1) #[.int .i64 0, .slice none 0 0] 44, .box b8 #[.int .i64 x.head, .slice xk x.kids.length (x.kids.length + xs)] 44, .treeP (fun b => (p0 b ∨ w2.heap.size ≤ b) ∧ b < w3.heap.size) (.agg #[.int .i64 x.head, .slice xk x.kids.length (x.kids.length + xs)]) x, .box bo #[.int .i64 t.head, o] 44, .owns treeE (bo + 1) (fun b => bo + 1 ≤ b) o ((t.kids.set k x).take j), .box b12 #[.int .i64 x.head, .slice xk x.kids.length (x.kids.length + xs)] 44] := (S.pick [0, 1, 2, 3, 4, 5, 6]).drew
              clear SY hb12 e0 e1 d0 d1 S HYT0 z8 hl2
              have hzd : w5.drew.heap.size = w5.heap.size := rfl
              refine wpG_region 7 (fun W => (W.cell? ⟨bo, 1, none⟩ = some o) ∧ W.cell? ⟨b12, 0, none⟩ = some (.int .i64 x.head) ∧ W.cell? ⟨b12, 1, none⟩ = some (.slice xk x.kids.length (x.kids.length + xs))) (by kernel_rfl) ?_
              have HS := And.intro ((SD.two 4).2.1) (And.intro (SD.two 6).1.1 (SD.two 6).2.1)
              refine wpG.take (i := 0) (by kernel_rfl) (by kernel_rfl) (by kernel_rfl) (by kernel_rfl) (by kernel_rfl) HS ?_
              intro oi ho
              simp only [List.getElem?_toArray, List.getElem?_cons_zero, Option.some.injEq] at ho
              subst ho
              refine ⟨?_, Or.inl ⟨by rfl, ?_⟩, fun _ _ _ h => h, ?_⟩
              rotate_left 1
              · intro W hW
                try dsimp only at hW
                go_simp
                try with_reducible rfl
              simp only [Act.put, List.setIfInBounds_toArray, List.set_cons_zero, List.set_cons_succ]
              refine wpG.take (i := 1) (by kernel_rfl) (by kernel_rfl) (by kernel_rfl) (by kernel_rfl) (by kernel_rfl) HS ?_
              intro oi ho
              simp only [List.getElem?_toArray, List.getElem?_cons_succ, List.getElem?_cons_zero, Option.some.injEq] at ho
              subst ho
              refine ⟨?_, Or.inl ⟨by rfl, ?_⟩, fun _ _ _ h => h, ?_⟩
              rotate_left 1
              · intro W hW
                try dsimp only at hW
                go_simp
                try with_reducible rfl
              simp only [Act.put, List.setIfInBounds_toArray, List.set_cons_zero, List.set_cons_succ]
              refine wpG.take (i := 2) (by kernel_rfl) (by kernel_rfl) (by kernel_rfl) (by kernel_rfl) (by kernel_rfl) HS ?_
              intro oi ho
              simp only [List.getElem?_toArray, List.getElem?_cons_succ, List.getElem?_cons_zero, Option.some.injEq] at ho
              subst ho
              refine ⟨?_, Or.inl ⟨by rfl, ?_⟩, fun _ _ _ h => h, ?_⟩
              rotate_left 1
              · intro W hW
                try dsimp only at hW
                go_simp
                try with_reducible rfl
              simp only [Act.put, List.setIfInBounds_toArray, List.set_cons_zero, List.set_cons_succ]
              refine wpG.one (i := 3) (by kernel_rfl) ?_
              intro oi ho
              simp only [List.getElem?_toArray, List.getElem?_cons_succ, List.getElem?_cons_zero, Option.some.injEq] at ho
              subst ho
              intro K hK
              have HK := Lib.hid hK
              have HSH := Lib.hid HS
              clear hK HS
              go_simp
              go_at_call 88
              refine (SD.made (copy50 x _ w5.drew (HYT.out.at.kept (Below.refl _ _).drew) HYS.out)).mono ?_
              rintro e w6 ⟨k6, s6, rfl, z6, S6⟩
              have z6 : w5.heap.size ≤ w6.heap.size := z6
              dsimp only
              refine HK.out _ _ (fun _ => And.intro ((S6.two 4).2.1) (And.intro (S6.two 6).1.1 (S6.two 6).2.1)) ?_
              have HS := And.intro ((S6.two 4).2.1) (And.intro (S6.two 6).1.1 (S6.two 6).2.1)
              try simp only [Act.put, List.setIfInBounds_toArray, List.set_cons_zero, List.set_cons_succ]
              refine wpG.one (i := 4) (by kernel_rfl) ?_
              intro oi ho
              simp only [List.getElem?_toArray, List.getElem?_cons_succ, List.getElem?_cons_zero, Option.some.injEq] at ho
              subst ho
              intro K hK
              have HK := Lib.hid hK
              have HSH := Lib.hid HS
              clear hK HS
              have SA := S6.alloc (.cells #[.int .i64 x.head, .slice k6 x.kids.length (x.kids.length + s6)] 44)
              go_simp
              refine HK.out _ _ (fun _ => And.intro ((SA.two 4).2.1) (And.intro (SA.two 6).1.1 (SA.two 6).2.1)) ?_
              have HS := And.intro ((SA.two 4).2.1) (And.intro (SA.two 6).1.1 (SA.two 6).2.1)
              try simp only [Act.put, List.setIfInBounds_toArray, List.set_cons_zero, List.set_cons_succ]
              refine wpG.one (i := 5) (by kernel_rfl) ?_
              intro oi ho
              simp only [List.getElem?_toArray, List.getElem?_cons_succ, List.getElem?_cons_zero, Option.some.injEq] at ho
              subst ho
              intro K hK
              have HK := Lib.hid hK
              have HSH := Lib.hid HS
              clear hK HS
              refine step_app (by rfl) (.tmp 49) (.tmp 52) 42 (by rfl) treeE S6 5 rfl (x := x) (q := fun b => w5.heap.size ≤ b ∧ b < w6.heap.size) (p' := fun b => bo + 1 ≤ b) ⟨k6, s6, rfl, S6.tree 7⟩ Try.underlying42 gi gz0 gz1 gz2 (by rfl) (by rfl) (by rfl) (by rfl) (by unfold maxLen; omega) (by omega) (by have := HB12.out; omega) (by have := HBX.out; have := HBO.out; omega)
                (fun bb h1 h2 h3 => by have h4 := HOW.out bb h1; simp only [fsnoc, offs, offAll, Fct.box, Fct.tree, Fct.treeP, and_true]; have := HBX.out; have := HBO.out; have := HB12.out; refine ⟨by omega, by omega, by omega, ?_, by omega, by omega, by omega⟩; intro h9; have := h9.2; omega) (fun bb h1 h2 => by have h4 := HOW.out bb h2; have := HB12.out; have h5 := h1.1; omega) (fun bb h1 => by have := HB12.out; rcases h1 with h1 | h1; exact h1; have h5 := h1.1; omega) ?_
              intro gg cap w7 S7 hs7 hgg hat7
              refine HK.out _ _ (fun _ => And.intro ((S7.two 4).2.1) (And.intro (S7.two 6).1.1 (S7.two 6).2.1)) ?_
              have HS := And.intro ((S7.two 4).2.1) (And.intro (S7.two 6).1.1 (S7.two 6).2.1)
              try simp only [Act.put, List.setIfInBounds_toArray, List.set_cons_zero, List.set_cons_succ]
              refine wpG.take (i := 6) (by kernel_rfl) (by kernel_rfl) (by kernel_rfl) (by kernel_rfl) (by kernel_rfl) HS ?_
              intro oi ho
              simp only [List.getElem?_toArray, List.getElem?_cons_succ, List.getElem?_cons_zero, Option.some.injEq] at ho
              subst ho
              refine ⟨?_, Or.inl ⟨by rfl, ?_⟩, fun _ _ _ h => h, ?_⟩
              rotate_left 1
              · intro W hW
                try dsimp only at hW
                go_simp
                try with_reducible rfl
              simp only [Act.put, List.setIfInBounds_toArray, List.set_cons_zero, List.set_cons_succ]
              refine wpG.one (i := 7) (by kernel_rfl) ?_
              intro oi ho
              simp only [List.getElem?_toArray, List.getElem?_cons_succ, List.getElem?_cons_zero, Option.some.injEq] at ho
              subst ho
              intro K hK
              have HK := Lib.hid hK
              have HSH := Lib.hid HS
              clear hK HS
              obtain ⟨⟨u0, u1⟩, u2, u3⟩ := S7.two 4
              have hl7 := S7.lt 4
              go_simp
              refine HK.out _ _ (fun h => absurd rfl h) ?_
              try simp only [Act.put, List.setIfInBounds_toArray, List.set_cons_zero, List.set_cons_succ]
              refine wpG.done (by kernel_rfl) ?_
              rw [hlk] at S7
              have S8 := (S7.set21 4 rfl (.slice (some ⟨gg, 0, none⟩) (j + 1) cap) (by have := HBX.out; have := HBO.out; omega) (by
                have h8 := (S7.ownlt treeE 5 rfl gg rfl).1
                simp only [fset, fsnoc, offs, offAll, Fct.box, Fct.tree, Fct.treeP, Fct.owns, and_true]; have := HBX.out; have := HBO.out; have := HB12.out
                refine ⟨by omega, by omega, by omega, fun h9 => (by have := h9.2; omega), fun e => ?_, by omega, by omega⟩
                rcases e with e | e
                · have e' : gg = bo := by simpa [Value.ownBlock] using e
                  omega
                · omega)).pick [0, 1, 2, 3, 4, 5]
              have S9 := Lib.hid (show St w (w7.setCell ⟨bo, 1, none⟩ (.slice (some ⟨gg, 0, none⟩) (j + 1) cap)) [.box bx #[.int .i64 t.head, .slice (some ⟨bb, off, none⟩) t.kids.length (t.kids.length + sp)] 44, .box (bx + 1) #[.int .i64 0, .slice none 0 0] 44, .box b8 #[.int .i64 x.head, .slice xk x.kids.length (x.kids.length + xs)] 44, .treeP (fun b => (p0 b ∨ w2.heap.size ≤ b) ∧ b < w3.heap.size) (.agg #[.int .i64 x.head, .slice xk x.kids.length (x.kids.length + xs)]) x, .box bo #[.int .i64 t.head, .slice (some ⟨gg, 0, none⟩) (j + 1) cap] 44,
                .owns treeE (bo + 1) (fun b => bo + 1 ≤ b) (.slice (some ⟨gg, 0, none⟩) (j + 1) cap) ((t.kids.set k x).take (j + 1))] by rw [HTS.out]; exact S8)
              have z9 : bo + 1 ≤ (w7.setCell ⟨bo, 1, none⟩ (.slice (some ⟨gg, 0, none⟩) (j + 1) cap)).heap.size := by have := HB12.out; simp; omega
              clear S8 S7 S6 SA SD u0 u1 u2 u3 hl7
              go_wp2_with fail
              go_roundw
              case rel => exact ⟨j + 1, _, by omega, by go_num, z9, S9.out⟩
              case measure => simp [intOf] <;> omega
            · have hjb : ((j : Int) == (k : Int)) = false := by simp; omega
              have HTS := Lib.hid (show (t.kids.set k x).take (j + 1) = (t.kids.set k x).take j ++ [gK t.kids j] by rw [take_set_at hltj]; congr 2; rw [List.getElem_set_ne (fun e => hjk e.symm), gK_get hltj])
              have HYT0 := HTJ.out.kept ((Below.refl _ wr).alloc (Nat.le_refl _) (.cells #[.int .i64 (gK t.kids j).head, .slice jo (gK t.kids j).kids.length ((gK t.kids j).kids.length + jsp)] 44))
              have SY := S.box hb12.symm #[.int .i64 (gK t.kids j).head, .slice jo (gK t.kids j).kids.length ((gK t.kids j).kids.length + jsp)] 44
              clear S hjk
              go_wp2_with fail
              rw [← hb12]
              have SY := SY.add (.treeP _ _ (gK t.kids j)) HYT0
              refine SY.genC (z := b12 + 1) (by simp [hb12]) ?_
              intro w5 z9 S
              have HB12 := Lib.hid (show bo + 1 ≤ b12 ∧ b12 + 1 ≤ w5.heap.size by omega)
              have HYT := Lib.hid (S.treeP 7)
              have HYS := HJS
              have SD : St w w5.drew [.box bx #[.int .i64 t.head, .slice (some ⟨bb, off, none⟩) t.kids.length (t.kids.length + sp)] 44, .box (bx + 1) #[.int .i64 0, .slice none 0 0] 44, .box b8 #[.int .i64 x.head, .slice xk x.kids.length (x.kids.length + xs)] 44, .treeP (fun b => (p0 b ∨ w2.heap.size ≤ b) ∧ b < w3.heap.size) (.agg #[.int .i64 x.head, .slice xk x.kids.length (x.kids.length + xs)]) x, .box bo #[.int .i64 t.head, o] 44, .owns treeE (bo + 1) (fun b => bo + 1 ≤ b) o ((t.kids.set k x).take j), .box b12 #[.int .i64 (gK t.kids j).head, .slice jo (gK t.kids j).kids.length ((gK t.kids j).kids.length + jsp)] 44] := (S.pick [0, 1, 2, 3, 4, 5, 6]).drew
              clear SY hb12 d0 d1 S HYT0 z8
              have hzd : w5.drew.heap.size = w5.heap.size := rfl
              refine wpG_region 7 (fun W => (W.cell? ⟨bo, 1, none⟩ = some o) ∧ W.cell? ⟨b12, 0, none⟩ = some (.int .i64 (gK t.kids j).head) ∧ W.cell? ⟨b12, 1, none⟩ = some (.slice jo (gK t.kids j).kids.length ((gK t.kids j).kids.length + jsp))) (by kernel_rfl) ?_
              have HS := And.intro ((SD.two 4).2.1) (And.intro (SD.two 6).1.1 (SD.two 6).2.1)
              refine wpG.take (i := 0) (by kernel_rfl) (by kernel_rfl) (by kernel_rfl) (by kernel_rfl) (by kernel_rfl) HS ?_
              intro oi ho
              simp only [List.getElem?_toArray, List.getElem?_cons_zero, Option.some.injEq] at ho
              subst ho
              refine ⟨?_, Or.inl ⟨by rfl, ?_⟩, fun _ _ _ h => h, ?_⟩
              rotate_left 1
              · intro W hW
                try dsimp only at hW
                go_simp
                try with_reducible rfl
              simp only [Act.put, List.setIfInBounds_toArray, List.set_cons_zero, List.set_cons_succ]
              refine wpG.take (i := 1) (by kernel_rfl) (by kernel_rfl) (by kernel_rfl) (by kernel_rfl) (by kernel_rfl) HS ?_
              intro oi ho
              simp only [List.getElem?_toArray, List.getElem?_cons_succ, List.getElem?_cons_zero, Option.some.injEq] at ho
              subst ho
              refine ⟨?_, Or.inl ⟨by rfl, ?_⟩, fun _ _ _ h => h, ?_⟩
              rotate_left 1
              · intro W hW
                try dsimp only at hW
                go_simp
                try with_reducible rfl
              simp only [Act.put, List.setIfInBounds_toArray, List.set_cons_zero, List.set_cons_succ]
              refine wpG.take (i := 2) (by kernel_rfl) (by kernel_rfl) (by kernel_rfl) (by kernel_rfl) (by kernel_rfl) HS ?_
              intro oi ho
              simp only [List.getElem?_toArray, List.getElem?_cons_succ, List.getElem?_cons_zero, Option.some.injEq] at ho
              subst ho
              refine ⟨?_, Or.inl ⟨by rfl, ?_⟩, fun _ _ _ h => h, ?_⟩
              rotate_left 1
              · intro W hW
                try dsimp only at hW
                go_simp
                try with_reducible rfl
              simp only [Act.put, List.setIfInBounds_toArray, List.set_cons_zero, List.set_cons_succ]
              refine wpG.one (i := 3) (by kernel_rfl) ?_
              intro oi ho
              simp only [List.getElem?_toArray, List.getElem?_cons_succ, List.getElem?_cons_zero, Option.some.injEq] at ho
              subst ho
              intro K hK
              have HK := Lib.hid hK
              have HSH := Lib.hid HS
              clear hK HS
              go_simp
              go_at_call 88
              refine (SD.made (copy50 (gK t.kids j) _ w5.drew (HYT.out.at.kept (Below.refl _ _).drew) HYS.out)).mono ?_
              rintro e w6 ⟨k6, s6, rfl, z6, S6⟩
              have z6 : w5.heap.size ≤ w6.heap.size := z6
              dsimp only
              refine HK.out _ _ (fun _ => And.intro ((S6.two 4).2.1) (And.intro (S6.two 6).1.1 (S6.two 6).2.1)) ?_
              have HS := And.intro ((S6.two 4).2.1) (And.intro (S6.two 6).1.1 (S6.two 6).2.1)
              try simp only [Act.put, List.setIfInBounds_toArray, List.set_cons_zero, List.set_cons_succ]
              refine wpG.one (i := 4) (by kernel_rfl) ?_
              intro oi ho
              simp only [List.getElem?_toArray, List.getElem?_cons_succ, List.getElem?_cons_zero, Option.some.injEq] at ho
              subst ho
              intro K hK
              have HK := Lib.hid hK
              have HSH := Lib.hid HS
              clear hK HS
              have SA := S6.alloc (.cells #[.int .i64 (gK t.kids j).head, .slice k6 (gK t.kids j).kids.length ((gK t.kids j).kids.length + s6)] 44)
              go_simp
              refine HK.out _ _ (fun _ => And.intro ((SA.two 4).2.1) (And.intro (SA.two 6).1.1 (SA.two 6).2.1)) ?_
              have HS := And.intro ((SA.two 4).2.1) (And.intro (SA.two 6).1.1 (SA.two 6).2.1)
              try simp only [Act.put, List.setIfInBounds_toArray, List.set_cons_zero, List.set_cons_succ]
              refine wpG.one (i := 5) (by kernel_rfl) ?_
              intro oi ho
              simp only [List.getElem?_toArray, List.getElem?_cons_succ, List.getElem?_cons_zero, Option.some.injEq] at ho
              subst ho
              intro K hK
              have HK := Lib.hid hK
              have HSH := Lib.hid HS
              clear hK HS
              refine step_app (by rfl) (.tmp 49) (.tmp 52) 42 (by rfl) treeE S6 5 rfl (x := (gK t.kids j)) (q := fun b => w5.heap.size ≤ b ∧ b < w6.heap.size) (p' := fun b => bo + 1 ≤ b) ⟨k6, s6, rfl, S6.tree 7⟩ Try.underlying42 gi gz0 gz1 gz2 (by rfl) (by rfl) (by rfl) (by rfl) (by unfold maxLen; omega) (by omega) (by have := HB12.out; omega) (by have := HBX.out; have := HBO.out; omega)
                (fun bb h1 h2 h3 => by have h4 := HOW.out bb h1; simp only [fsnoc, offs, offAll, Fct.box, Fct.tree, Fct.treeP, and_true]; have := HBX.out; have := HBO.out; have := HB12.out; refine ⟨by omega, by omega, by omega, ?_, by omega, by omega, by omega⟩; intro h9; have := h9.2; omega) (fun bb h1 h2 => by have h4 := HOW.out bb h2; have := HB12.out; have h5 := h1.1; omega) (fun bb h1 => by have := HB12.out; rcases h1 with h1 | h1; exact h1; have h5 := h1.1; omega) ?_
              intro gg cap w7 S7 hs7 hgg hat7
              refine HK.out _ _ (fun _ => And.intro ((S7.two 4).2.1) (And.intro (S7.two 6).1.1 (S7.two 6).2.1)) ?_
              have HS := And.intro ((S7.two 4).2.1) (And.intro (S7.two 6).1.1 (S7.two 6).2.1)
              try simp only [Act.put, List.setIfInBounds_toArray, List.set_cons_zero, List.set_cons_succ]
              refine wpG.take (i := 6) (by kernel_rfl) (by kernel_rfl) (by kernel_rfl) (by kernel_rfl) (by kernel_rfl) HS ?_
              intro oi ho
              simp only [List.getElem?_toArray, List.getElem?_cons_succ, List.getElem?_cons_zero, Option.some.injEq] at ho
              subst ho
              refine ⟨?_, Or.inl ⟨by rfl, ?_⟩, fun _ _ _ h => h, ?_⟩
              rotate_left 1
              · intro W hW
                try dsimp only at hW
                go_simp
                try with_reducible rfl
              simp only [Act.put, List.setIfInBounds_toArray, List.set_cons_zero, List.set_cons_succ]
              refine wpG.one (i := 7) (by kernel_rfl) ?_
              intro oi ho
              simp only [List.getElem?_toArray, List.getElem?_cons_succ, List.getElem?_cons_zero, Option.some.injEq] at ho
              subst ho
              intro K hK
              have HK := Lib.hid hK
              have HSH := Lib.hid HS
              clear hK HS
              obtain ⟨⟨u0, u1⟩, u2, u3⟩ := S7.two 4
              have hl7 := S7.lt 4
              go_simp
              refine HK.out _ _ (fun h => absurd rfl h) ?_
              try simp only [Act.put, List.setIfInBounds_toArray, List.set_cons_zero, List.set_cons_succ]
              refine wpG.done (by kernel_rfl) ?_
              rw [hlk] at S7
              have S8 := (S7.set21 4 rfl (.slice (some ⟨gg, 0, none⟩) (j + 1) cap) (by have := HBX.out; have := HBO.out; omega) (by
                have h8 := (S7.ownlt treeE 5 rfl gg rfl).1
                simp only [fset, fsnoc, offs, offAll, Fct.box, Fct.tree, Fct.treeP, Fct.owns, and_true]; have := HBX.out; have := HBO.out; have := HB12.out
                refine ⟨by omega, by omega, by omega, fun h9 => (by have := h9.2; omega), fun e => ?_, by omega, by omega⟩
                rcases e with e | e
                · have e' : gg = bo := by simpa [Value.ownBlock] using e
                  omega
                · omega)).pick [0, 1, 2, 3, 4, 5]
              have S9 := Lib.hid (show St w (w7.setCell ⟨bo, 1, none⟩ (.slice (some ⟨gg, 0, none⟩) (j + 1) cap)) [.box bx #[.int .i64 t.head, .slice (some ⟨bb, off, none⟩) t.kids.length (t.kids.length + sp)] 44, .box (bx + 1) #[.int .i64 0, .slice none 0 0] 44, .box b8 #[.int .i64 x.head, .slice xk x.kids.length (x.kids.length + xs)] 44, .treeP (fun b => (p0 b ∨ w2.heap.size ≤ b) ∧ b < w3.heap.size) (.agg #[.int .i64 x.head, .slice xk x.kids.length (x.kids.length + xs)]) x, .box bo #[.int .i64 t.head, .slice (some ⟨gg, 0, none⟩) (j + 1) cap] 44,
                .owns treeE (bo + 1) (fun b => bo + 1 ≤ b) (.slice (some ⟨gg, 0, none⟩) (j + 1) cap) ((t.kids.set k x).take (j + 1))] by rw [HTS.out]; exact S8)
              have z9 : bo + 1 ≤ (w7.setCell ⟨bo, 1, none⟩ (.slice (some ⟨gg, 0, none⟩) (j + 1) cap)).heap.size := by have := HB12.out; simp; omega
              clear S8 S7 S6 SA SD u0 u1 u2 u3 hl7
              go_wp2_with fail
              go_roundw
              case rel => exact ⟨j + 1, _, by omega, by go_num, z9, S9.out⟩
              case measure => simp [intOf] <;> omega
          · obtain rfl : j = t.kids.length := by omega
            rw [show (t.kids.set k x).take t.kids.length = t.kids.set k x from by rw [List.take_of_length_le (by simp)]] at S
            obtain ⟨ro, rsp, rfl, hrow, hml2⟩ := (S.owns treeE 5).row (fun b h => h)
            have HTR := Lib.hid hrow
            have SB := Lib.hid S
            obtain ⟨⟨y0, y1⟩, y2, y3⟩ := S.two 1
            obtain ⟨⟨v0, _⟩, v1, _⟩ := S.two 4
            have hl1 := S.lt 1
            clear hrow S
            go_wp2_with fail
            refine ret_box2b (.int .i64 t.head) (.slice ro t.kids.length (t.kids.length + rsp)) (.bool true) (bx + 1) 44 (box2_set (SB.out.block 1) _ _) (fun w' q0 q1 => by simp [results, Try.results93, go_sem, q0, q1]) rfl ?_
            have hx := HBX.out; have ho := HBO.out
            rw [HST.out]
            refine ⟨_, rfl, ?_, (SB.out.bel.setCell (p := ⟨bx + 1, 0, none⟩) (by show w.heap.size ≤ bx + 1; omega) _).setCell (p := ⟨bx + 1, 1, none⟩) (by show w.heap.size ≤ bx + 1; omega) _⟩
            have h8 := TreeP.close (h := t.head) (sp := rsp) HTR.out.rowP hml2
            rw [List.length_set] at h8
            exact ((h8.setCell (a := ⟨bx + 1, 0, none⟩) (by show ¬ bo + 1 ≤ bx + 1; omega) _).setCell (a := ⟨bx + 1, 1, none⟩) (by show ¬ bo + 1 ≤ bx + 1; omega) _).mono (fun b h _ => .inr (by have h : bo + 1 ≤ b := h; omega))
    · obtain rfl : k = t.kids.length := by omega
      have HS0 := Lib.hid (show t.step rs = rootS rs t by rw [T.step_eq, stepL_none HNO.out])
      go_wp2_with fail
      obtain ⟨wv, hwv⟩ : ∃ W, W = wr := ⟨_, rfl⟩
      subst hwv
      go_loopw [60] (fun i wr => ∃ q : Nat, q ≤ rs.length ∧ i = .int .i64 q ∧ (∀ (j : Nat) f, j < q → rs[j]? = some f → fitF f.1 t = none) ∧ bx + 2 ≤ wr.heap.size ∧ St w wr [.box bx #[.int .i64 t.head, .slice to_ t.kids.length (t.kids.length + sp)] 44, .box (bx + 1) #[.int .i64 0, .slice none 0 0] 44]) (fun i _ => rs.length - (intOf i).toNat)
      case atStart => exact ⟨0, by omega, rfl, fun j f hj _ => by omega, z2, S⟩
      case round =>
        clear S
        obtain ⟨q, hq, rfl, hnr, z5, S⟩ := hrel
        have HNR := Lib.hid hnr
        clear hnr
        by_cases hltq : q < rs.length
        · have hltqi : (q : Int) < (rs.length : Int) := by omega
          obtain ⟨bb, off, ka, sa, kb, sb, rfl, hpb, c0, c1, c2, c3, t1, t2⟩ := (HW.out.kept S.bel).rule hltq
          obtain ⟨X, hX⟩ : ∃ X, X = rs[q].1 := ⟨_, rfl⟩
          obtain ⟨Y, hY⟩ : ∃ Y, Y = rs[q].2 := ⟨_, rfl⟩
          have HXY := Lib.hid (show rs[q]? = some (X, Y) by rw [hX, hY]; exact List.getElem?_eq_getElem hltq)
          rw [← hX] at c0 c1 t1
          rw [← hY] at c2 c3 t2
          have HXO := Lib.hid (treeF_ok.1 (HOK.out q _ HXY.out).1)
          have HYO := Lib.hid (treeF_ok.1 (HOK.out q _ HXY.out).2)
          obtain ⟨br, hbr⟩ : ∃ b, b = wr.heap.size := ⟨_, rfl⟩
          have S2 := ((S.box hbr.symm #[.int .i64 X.head, .slice ka X.kids.length (X.kids.length + sa), .int .i64 Y.head, .slice kb Y.kids.length (Y.kids.length + sb)] 86).add (.treeP p0 (.agg #[.int .i64 X.head, .slice ka X.kids.length (X.kids.length + sa)]) X) (t1.kept ((Below.refl _ wr).alloc (Nat.le_refl _) _))).add (.treeP p0 (.agg #[.int .i64 Y.head, .slice kb Y.kids.length (Y.kids.length + sb)]) Y) (t2.kept ((Below.refl _ wr).alloc (Nat.le_refl _) _))
          obtain ⟨⟨x0, _⟩, x1, _⟩ := S.two 0
          have hl0 := S.lt 0
          clear hX hY t1 t2 S
          go_wp2_with fail
          rw [← hbr]
          refine S2.gen (z := br + 1) (by simp [hbr]) ?_
          intro w3 z6 S3
          have HBR := Lib.hid (show bx + 2 ≤ br by omega)
          clear S2 hbr c0 c1 c2 c3 x0 x1 hl0
          have H := match55 X t _ _ w3 (S3.treeP 3).at (HT.out.kept S3.bel).at HXO.out.2.2 (by have := HXO.out.1; omega) (by have := HXO.out.2.1; omega) (by have := HSZ.out; omega)
          cases hf : fitF X t with
          | none =>
            refine H.mono ?_
            rintro e w4 ⟨ro, rc, rfl, hmr, hb⟩
            rw [hf]
            have HN := Lib.hid (show ∀ (j : Nat) f, j < q + 1 → rs[j]? = some f → fitF f.1 t = none from fun j f hj hfj => by
              rcases Nat.lt_succ_iff_lt_or_eq.1 hj with h | rfl
              · exact HNR.out j f h hfj
              · rw [HXY.out] at hfj; obtain rfl := Option.some.inj hfj
                exact hf)
            have S5 := Lib.hid ((S3.step hb).pick [0, 1])
            have z7 : bx + 2 ≤ w4.heap.size := by have := hb.size; have := HBR.out; omega
            clear S3 H hf hmr hb
            go_wp2_with fail
            go_roundw
            case rel => exact ⟨q + 1, by omega, by go_num, HN.out, z7, S5.out⟩
            case measure => simp [intOf] <;> omega
          | some bs =>
            refine H.mono ?_
            rintro e w4 ⟨ro, rc, rfl, hmr, hb⟩
            have hfl : fitLst X t = bs := by unfold fitLst; rw [hf]; rfl
            have HFS := Lib.hid (fun i => fitLst_size (p := X) (t := t) (i := i) (N := 1000000) HSZ.out (by omega))
            rw [hfl] at hmr HFS
            rw [hf, hfl]
            have HST := Lib.hid (show t.step rs = some (Y.sub bs) by rw [HS0.out, rootS_hit HNR.out HXY.out hf])
            have HBL := Lib.hid (show bs.length ≤ 1000 by rw [fitF_length hf]; have := most_le X HXO.out.2.2; omega)
            have S4 := S3.step hb
            obtain ⟨e2, _⟩ := S4.cell 2 2 rfl
            obtain ⟨e3, _⟩ := S4.cell 2 3 rfl
            have HMR := Lib.hid hmr
            have z7 : br + 1 ≤ w4.heap.size := by have := hb.size; omega
            clear S3 H hf hmr hb hfl
            go_wp2_with fail
            refine (apply45 bs Y (fun c => p0 c ∨ (w3.heap.size ≤ c ∧ c < w4.heap.size)) _ ro rc w4 (fun b hb => by rcases hb with hb | hb; have := HP.out b hb; have := S4.bel.size; omega; exact hb.2) HBL.out ((S4.treeP 4).mono (fun b h _ => .inl h)) (RowP.mono HMR.out (fun b h _ => .inr h)) (low_of_pre Y HYO.out.2.2) (by have := HYO.out.1; omega) (fun i _ => by have := HFS.out i; omega)).mono ?_
            rintro e w5 ⟨u, rfl, hu, hb5⟩
            obtain ⟨uk, us, rfl⟩ := hu.at.form
            have S5 := S4.step hb5
            obtain ⟨⟨y0, y1⟩, y2, y3⟩ := S5.two 1
            have hl1 := S5.lt 1
            have HU := Lib.hid hu
            have SB := Lib.hid S5
            clear S4 S5 hu hb5 e2 e3
            go_wp2_with fail
            refine ret_box2b (.int .i64 (Y.sub bs).head) (.slice uk (Y.sub bs).kids.length ((Y.sub bs).kids.length + us)) (.bool true) (bx + 1) 44 (box2_set (SB.out.block 1) _ _) (fun w' q0 q1 => by simp [results, Try.results93, go_sem, q0, q1]) rfl ?_
            have hx := HBX.out; have hr := HBR.out
            rw [HST.out]
            refine ⟨_, rfl, ?_, (SB.out.bel.setCell (p := ⟨bx + 1, 0, none⟩) (by show w.heap.size ≤ bx + 1; omega) _).setCell (p := ⟨bx + 1, 1, none⟩) (by show w.heap.size ≤ bx + 1; omega) _⟩
            have h8 := HU.out.mono (q := fun b => (p0 b ∨ w.heap.size ≤ b) ∧ b ≠ bx + 1) (fun b h _ => by
              rcases h with (h | h) | h
              · have := HP.out b h; exact ⟨.inl h, by omega⟩
              · exact ⟨.inr (by omega), by omega⟩
              · exact ⟨.inr (by omega), by omega⟩)
            exact ((h8.setCell (a := ⟨bx + 1, 0, none⟩) (fun h => h.2 rfl) _).setCell (a := ⟨bx + 1, 1, none⟩) (fun h => h.2 rfl) _).mono (fun b h _ => h.1)
        · obtain rfl : q = rs.length := by omega
          have HST := Lib.hid (show t.step rs = none by rw [HS0.out, rootS_none HNR.out])
          obtain ⟨⟨x0, _⟩, x1, _⟩ := S.two 0
          obtain ⟨⟨y0, y1⟩, y2, y3⟩ := S.two 1
          have hl1 := S.lt 1
          have SB := Lib.hid S
          clear S
          go_wp2_with fail
          refine ret_box2b (.int .i64 t.head) (.slice to_ t.kids.length (t.kids.length + sp)) (.bool false) (bx + 1) 44 (box2_set (SB.out.block 1) _ _) (fun w' q0 q1 => by simp [results, Try.results93, go_sem, q0, q1]) rfl ?_
          have hx := HBX.out
          rw [HST.out]
          refine ⟨_, rfl, ?_, (SB.out.bel.setCell (p := ⟨bx + 1, 0, none⟩) (by show w.heap.size ≤ bx + 1; omega) _).setCell (p := ⟨bx + 1, 1, none⟩) (by show w.heap.size ≤ bx + 1; omega) _⟩
          have h8 := (HT.out.kept SB.out.bel).mono (q := fun b => (p0 b ∨ w.heap.size ≤ b) ∧ b ≠ bx + 1) (fun b h _ => by have := HP.out b h; exact ⟨.inl h, by omega⟩)
          exact ((h8.setCell (a := ⟨bx + 1, 0, none⟩) (fun h => h.2 rfl) _).setCell (a := ⟨bx + 1, 1, none⟩) (fun h => h.2 rfl) _).mono (fun b h _ => h.1)
end Go.Proofs.Yteekoclfpehnpaa
