/-
  Walks: the document's unification.
-/
import Derived.Test.YtlhnfdjidjgfgaaProg
import Derived.Test.YtlhnfdjidjgfgaaPb3
import Derived.Test.YtlhnfdjidjgfgaaMo
import Derived.Test.YtlhnfdjidjgfgaaT33h
import Derived.Test.YtlhnfdjidjgfgaaNk3
import Derived.Test.YtlhnfdjidjgfgaaPa4
import Derived.Test.YtlhnfdjidjgfgaaMx
import Derived.Test.YtlhnfdjidjgfgaaG4
import Derived.Deep.RegionLaw
import Derived.RegionTactic
import Derived.Deep.DeepCutAuto
namespace Go.Proofs.Ytlhnfdjidjgfgaa
open Go.RowKit Go.Shelf
set_option linter.unusedVariables false
set_option maxHeartbeats 400000

abbrev eqE : Elt (T × T) := pairE 124
theorem info124 : (Try.prog.info? 124).map (fun i => (i.zero, i.size, i.bytes)) = some (some (.agg #[.int .i64 0, .slice none 0 0, .int .i64 0, .slice none 0 0]), 4, 64) := by kernel_rfl
theorem Elt.Row.pre {α : Type} {E : Elt α} {p : Nat → Prop} {w : World} {ao : Option Addr} {xs ys : List α} (h : E.Row p w ao (xs ++ ys)) : E.Row p w ao xs := fun i x hi => h i x (by rw [List.getElem?_append_left (List.getElem?_eq_some_iff.1 hi).1]; exact hi)
theorem St.four {w0 w : World} {l : List Fct} (S : St w0 w l) (i : Nat) {b : Nat} {x y z u : Value} {T : TypeId} (hi : Fct.at l i = Fct.box b #[x, y, z, u] T := by rfl) :
    w.cell? ⟨b, 0, Option.none⟩ = some x ∧ w.cell? ⟨b, 1, Option.none⟩ = some y ∧ w.cell? ⟨b, 2, Option.none⟩ = some z ∧ w.cell? ⟨b, 3, Option.none⟩ = some u := by
  have h := S.block i hi
  simp [World.cell?, h]
theorem own_to_row {ty : TypeId} {p : Nat → Prop} {B g : Nat} {w : World} {av : Option Addr} {n ac : Nat} {xs : List (T × T)} (h : (pairE ty).Own p B w (.slice av n ac) xs) (hp : ∀ b, p b → b ≠ g) (hB : g < B) : (pairE ty).Row (fun b => b < w.heap.size ∧ b ≠ g) w av xs ∧ xs.length ≤ ac := by
  obtain ⟨css, hcl, ho, hk⟩ := h
  obtain ⟨ao, sp, h1, h2, _⟩ := Elt.Own.row (E := pairE ty) (p := fun b => b ≠ g) ⟨css, hcl, ho, fun i cs x h1 h2 => (pairE ty).keep (fun b hb _ => ⟨rfl, hp b hb.1, hb.2⟩) (hk i cs x h1 h2)⟩ (fun b hb => by omega)
  simp only [Value.slice.injEq] at h1
  obtain ⟨rfl, _, rfl⟩ := h1
  exact ⟨h2.mono (fun b h1 h2 => ⟨h2, h1⟩), by omega⟩
def MguAns (A B : T) (N : Nat) (L : List T) (c : Nat) : Prop :=
  (c = 0 ∧ L = [] ∧ ∀ θ, A.inst θ ≠ B.inst θ) ∨ (c = 3 ∧ L = []) ∨ ∃ τ, MG N A B [] τ ∧ ((c = 1 ∧ L = listT N (bnd τ) ∧ ∀ x, x < N → τ x ≠ vT x → (τ x).size ≤ 40 ∧ (τ x).deep ≤ 12) ∨ (c = 2 ∧ L = [] ∧ ∃ x, x < N ∧ τ x ≠ vT x ∧ ¬ ((τ x).size ≤ 40 ∧ (τ x).deep ≤ 12)))
def MguP (A B : T) (N : Nat) (w : World) (e : Ending) (w' : World) : Prop :=
  ∃ (L : List T) (c : Nat) (ro : Option Addr) (rc : Nat), e = .returned (.tuple #[.slice ro L.length rc, .int .i64 c]) ∧ MguAns A B N L c ∧ RowP (fun b => b < w'.heap.size) w' ro L ∧ Below w.heap.size w w'
theorem own_form {ty : TypeId} {p : Nat → Prop} {B : Nat} {w : World} {o : Value} {xs : List (T × T)} (h : (pairE ty).Own p B w o xs) : ∃ av ac, o = .slice av xs.length ac := by
  obtain ⟨css, hcl, ho, hk⟩ := h
  rcases ho.2 with ⟨h1, h2⟩ | ⟨gg, cap, cur, h, _⟩
  · exact ⟨none, 0, by rw [h1, h2]⟩
  · exact ⟨_, cap, h⟩
theorem zip_take {xs ys : List T} {k : Nat} (h1 : k < xs.length) (h2 : k < ys.length) : (xs.zip ys).take (k + 1) = (xs.zip ys).take k ++ [(gK xs k, gK ys k)] := by
  rw [List.take_succ_eq_append_getElem (by simp; omega), List.getElem_zip, gK_get h1, gK_get h2]
theorem mguP_0 {A B : T} {N : Nat} {w w' : World} {r : Nat × (Nat → T)} {σ : Nat → T} (hs : (r.1 = 0 ∧ ∀ θ, A.inst θ ≠ B.inst θ) ∨ (r.1 = 1 ∧ MG N A B [] r.2) ∨ r.1 = 3) (hr : r = (0, σ)) (hb : Below w.heap.size w w') : MguP A B N w (.returned (.tuple #[.slice none 0 0, .int .i64 0])) w' := by
  subst hr
  rcases hs with h | h | h
  · exact ⟨[], 0, none, 0, rfl, .inl ⟨rfl, rfl, h.2⟩, (fun i hi => by simp at hi), hb⟩
  · simp at h
  · simp at h
theorem mguP_2 {A B : T} {N : Nat} {w w' : World} {r : Nat × (Nat → T)} {σ : Nat → T} (hs : (r.1 = 0 ∧ ∀ θ, A.inst θ ≠ B.inst θ) ∨ (r.1 = 1 ∧ MG N A B [] r.2) ∨ r.1 = 3) (hr : r = (1, σ)) (hx : ∃ x, x < N ∧ σ x ≠ vT x ∧ ¬ ((σ x).size ≤ 40 ∧ (σ x).deep ≤ 12)) (hb : Below w.heap.size w w') : MguP A B N w (.returned (.tuple #[.slice none 0 0, .int .i64 2])) w' := by
  subst hr
  rcases hs with h | h | h
  · simp at h
  · exact ⟨[], 2, none, 0, rfl, .inr (.inr ⟨σ, h.2, .inr ⟨rfl, rfl, hx⟩⟩), (fun i hi => by simp at hi), hb⟩
  · simp at h
theorem mguP_1 {A B : T} {N : Nat} {w w' : World} {r : Nat × (Nat → T)} {σ : Nat → T} {g : Nat} (hs : (r.1 = 0 ∧ ∀ θ, A.inst θ ≠ B.inst θ) ∨ (r.1 = 1 ∧ MG N A B [] r.2) ∨ r.1 = 3) (hr : r = (1, σ)) (hx : ∀ x, x < N → σ x ≠ vT x → (σ x).size ≤ 40 ∧ (σ x).deep ≤ 12)
    (hrow : RowP (fun b => b < w'.heap.size) w' (some ⟨g, 0, none⟩) (listT N (bnd σ))) (hb : Below w.heap.size w w') : MguP A B N w (.returned (.tuple #[.slice (some ⟨g, 0, none⟩) N N, .int .i64 1])) w' := by
  subst hr
  rcases hs with h | h | h
  · simp at h
  · exact ⟨listT N (bnd σ), 1, some ⟨g, 0, none⟩, N, by rw [listT_length]; rfl, .inr (.inr ⟨σ, h.2, .inl ⟨rfl, rfl, hx⟩⟩), hrow, hb⟩
  · simp at h
def BigP (σ : Nat → T) (k : Nat) (bb : Bool) : Prop := bb = true ↔ ∃ j, j < k ∧ σ j ≠ vT j ∧ ¬ ((σ j).size ≤ 40 ∧ (σ j).deep ≤ 12)
theorem big_skip {σ : Nat → T} {k : Nat} {bb : Bool} (h : BigP σ k bb) (hs : σ k = vT k ∨ ((σ k).size ≤ 40 ∧ (σ k).deep ≤ 12)) : BigP σ (k + 1) bb := by
  unfold BigP at h ⊢
  rw [h]
  constructor
  · rintro ⟨j, h1, h2⟩; exact ⟨j, by omega, h2⟩
  · rintro ⟨j, h1, h2, h3⟩
    by_cases e : j = k
    · subst e
      rcases hs with hs | hs
      · exact absurd hs h2
      · exact absurd hs h3
    · exact ⟨j, by omega, h2, h3⟩
theorem big_hit {σ : Nat → T} {k : Nat} (h2 : σ k ≠ vT k) (h3 : ¬ ((σ k).size ≤ 40 ∧ (σ k).deep ≤ 12)) : BigP σ (k + 1) true := ⟨fun _ => ⟨k, by omega, h2, h3⟩, fun _ => rfl⟩
theorem mguP_3 {A B : T} {N : Nat} {w w' : World} (hb : Below w.heap.size w w') : MguP A B N w (.returned (.tuple #[.slice none 0 0, .int .i64 3])) w' :=
  ⟨[], 3, none, 0, rfl, .inr (.inl ⟨rfl, rfl⟩), (fun i hi => by simp at hi), hb⟩

set_option maxRecDepth 100000 in
set_option maxHeartbeats 4000000 in
theorem mgu34 (A B : T) (N : Nat) (va vb : Value) (w : World) (hA : TreeAt w va A) (hB : TreeAt w vb B) (hN : N ≤ 100) (hg : MG N A B [(A, B)] vT) (hz : NZ A B) (h40 : Sml A B) :
    Calls Try.prog 34 #[va, vb, .int .i64 N] w (MguP A B N w) := by
  obtain ⟨ka, sa, rfl⟩ := hA.form
  obtain ⟨kb, sb, rfl⟩ := hB.form
  have TA := Lib.hid hA; have TB := Lib.hid hB; have HG := Lib.hid hg; have HZ := Lib.hid hz; have H40 := Lib.hid h40
  obtain ⟨bx, hbx⟩ : ∃ b, b = w.heap.size := ⟨_, rfl⟩
  have S1 := ((St.start w).box hbx.symm #[.int .i64 A.head, .slice ka A.kids.length (A.kids.length + sa)] 38).box (b := bx + 1) (by simp [hbx]) #[.int .i64 B.head, .slice kb B.kids.length (B.kids.length + sb)] 38
  have hsz2 : ((w.alloc (.cells #[.int .i64 A.head, .slice ka A.kids.length (A.kids.length + sa)] 38)).alloc (.cells #[.int .i64 B.head, .slice kb B.kids.length (B.kids.length + sb)] 38)).heap.size = bx + 2 := by simp [hbx]
  clear hA hB hg hz h40
  obtain ⟨⟨x0, _⟩, x1, _⟩ := S1.two 0
  obtain ⟨⟨y0, _⟩, y1, _⟩ := S1.two 1
  obtain ⟨i24, gi, gz0, gz1, gz2⟩ := info_parts info24
  go_enter Try.func34, Try.ntmps34
  go_wp2_with (at_make; refine wpList_make_full _ rfl (.tmp 23) (.tmp 23) 33 rfl (w.heap.size + 3) 38 i24 (.agg #[.int .i64 0, .slice none 0 0]) 2 Try.underlying33 gi gz0 gz1 .i64 .i64 _ _ N rfl rfl rfl rfl ?m1 ?m2 ?m3 ?_)
  case m1 => rw [gz2]; omega
  case m2 => unfold maxLen; omega
  case m3 => simp
  intro w2 hown hgrow
  have S2 := S1.box (b := bx + 2) (by omega) #[.int .i64 A.head, .slice ka A.kids.length (A.kids.length + sa), .int .i64 B.head, .slice kb B.kids.length (B.kids.length + sb)] 124
  have hz3 : (((w.alloc (.cells #[.int .i64 A.head, .slice ka A.kids.length (A.kids.length + sa)] 38)).alloc (.cells #[.int .i64 B.head, .slice kb B.kids.length (B.kids.length + sb)] 38)).alloc (.cells #[.int .i64 A.head, .slice ka A.kids.length (A.kids.length + sa), .int .i64 B.head, .slice kb B.kids.length (B.kids.length + sb)] 124)).heap.size = bx + 3 := by simp [hbx]
  have hb3 := (Below.refl _ _).grown hgrow (Nat.le_refl _) (fun q hq => by cases hq)
  have z3 := hb3.size
  rw [hz3] at z3
  rw [← hbx] at hown
  have S3 := (S2.step hb3).cons (.rset (fun b => False) (bx + 3) (bx + 3) N (fun _ => zeroT)) (RowSet.made (w := w2) hown _)
  have hgl := (S3.rset 0).lt.2
  rw [← hbx]
  have HBX := Lib.hid hbx
  clear S1 S2 hsz2 hz3 hb3 hown hgrow x0 x1 y0 y1 hbx
  have hrow : eqE.Row (fun b => b < w2.heap.size ∧ b ≠ bx + 3) w2 (some ⟨bx + 2, 0, none⟩) [(A, B)] := fun i x hi => by
    match i with
    | 0 =>
      simp at hi; subst hi
      have hb := S3.block 3
      refine ⟨bx + 2, 0, _, rfl, ⟨by omega, by omega⟩, fun j u hu => ?_, ka, sa, kb, sb, rfl, ?_, ?_⟩
      · simp only [World.cell?, hb, Option.isSome_none]
        simpa using hu
      · exact (TA.out.foot.kept S3.bel).mono (fun b h hlt => ⟨hlt, by have := HBX.out; omega⟩)
      · exact (TB.out.foot.kept S3.bel).mono (fun b h hlt => ⟨hlt, by have := HBX.out; omega⟩)
    | i + 1 => simp at hi
  have S4 := ((S3.rmono (p' := fun b => b < w2.heap.size ∧ b ≠ bx + 3) (fun b h _ => h.elim)).pick [0]).add (.rowE eqE (fun b => b < w2.heap.size ∧ b ≠ bx + 3) (some ⟨bx + 2, 0, none⟩) [(A, B)]) hrow
  change St w w2 [.rset (fun b => b < w2.heap.size ∧ b ≠ bx + 3) (bx + 3) (bx + 3) N (fun _ => zeroT), .rowE eqE (fun b => b < w2.heap.size ∧ b ≠ bx + 3) (some ⟨bx + 2, 0, none⟩) [(A, B)]] at S4
  have e0 : (fun _ : Nat => zeroT) = bnd vT := by funext x; unfold bnd; rw [if_pos rfl]
  rw [e0] at S4
  obtain ⟨n0, r0, hr0⟩ := mrun_ends HZ.out _ _ _ _ HG.out (Nat.le_refl _) (Nat.le_refl _)
  obtain ⟨c0, τ0⟩ := r0
  have HR0 := Lib.hid hr0
  have HSAY := Lib.hid (mrun_says HZ.out _ _ _ _ _ HG.out hr0)
  clear S3 hrow e0 hr0
  go_wp2_with fail
  obtain ⟨g, hgd⟩ : ∃ g, g = bx + 2 + 1 := ⟨_, rfl⟩
  rw [show bx + 3 = g from hgd.symm] at S4 hgl
  rw [← hgd]
  have HGD := Lib.hid hgd
  obtain ⟨i124, hi, hz0, hz1, hz2⟩ := info_parts info124
  clear hgd z3
  go_loopg [8] n0 (fun n eo wr => ∃ (l : List (T × T)) (σ : Nat → T) (ao : Option Addr) (cap : Nat), eo = .slice ao l.length cap ∧ Hid (l.length ≤ cap) ∧ Hid (MS N A B l σ) ∧ Hid (mrun n l σ = some (c0, τ0)) ∧ g < wr.heap.size ∧ St w wr [.rset (fun b => b < wr.heap.size ∧ b ≠ g) g g N (bnd σ), .rowE eqE (fun b => b < wr.heap.size ∧ b ≠ g) ao l])
  case atStart => exact ⟨[(A, B)], vT, _, _, rfl, Lib.hid (by simp), Lib.hid (MS.start HG.out), HR0, hgl, S4⟩
  case round =>
    clear S4 hgl
    obtain ⟨l0, σ, ao, cap, rfl, HC, HM, HRN, zr, S⟩ := hrel
    by_cases hl : l0 = []
    · as_aux_lemma =>
      subst hl
      obtain ⟨n, rfl⟩ : ∃ n, gk = n + 1 := by
        cases gk with
        | zero => exact (mr_zero HRN.out).elim
        | succ n => exact ⟨n, rfl⟩
      have HE := Lib.hid (mr_nil HRN.out)
      have HMG := Lib.hid HM.out.mg
      have HSZ := Lib.hid (show ∀ k, σ k ≠ vT k → (σ k).size ≤ 205891132094649 ∧ (σ k).head ≠ 0 from fun k hk => by
        rcases HM.out.mg.stm k with h | h
        · exact absurd h hk
        · exact ⟨MS.tsize (l := []) H40.out h.2.1, h.2.1.nz HZ.out⟩)
      have S1 := (S.rmono (p' := fun b => b ≠ g) (fun b h _ => h.2)).pick [0]
      change St w wr [.rset (fun b => b ≠ g) g g N (bnd σ)] at S1
      clear S HC HRN HM zr
      go_wp2_with fail
      go_loopw [10, 18] (fun bg i wr => ∃ (k : Nat) (bb : Bool), k ≤ N ∧ i = .int .i64 k ∧ bg = .bool bb ∧ Hid (BigP σ k bb) ∧ St w wr [.rset (fun b => b ≠ g) g g N (bnd σ)]) (fun _ i _ => N - (intOf i).toNat)
      case atStart => exact ⟨0, false, by omega, rfl, rfl, ⟨fun h => Bool.noConfusion h, fun ⟨j, h, _⟩ => by omega⟩, S1⟩
      case round =>
        clear S1
        obtain ⟨k, bb, hk, rfl, hbb, HB, S⟩ := hrel
        subst hbb
        by_cases hlt : k < N
        · have hlti : (k : Int) < (N : Int) := by omega
          obtain ⟨kq, sq, q0, q1, _, _, qt⟩ := (S.rset 0).get hlt
          obtain ⟨Z, hZ⟩ : ∃ Z, Z = bnd σ k := ⟨_, rfl⟩
          rw [← hZ] at q0 q1 qt
          have HZE := Lib.hid hZ
          clear hZ
          by_cases hz : Z.head = 0
          · have hzb : (Z.head != 0) = false := by simp [hz]
            have HB2 := Lib.hid (big_skip (σ := σ) (k := k) HB.out (by
              refine .inl (Classical.byContradiction fun h => ?_)
              have h1 := (HSZ.out k h).2
              rw [HZE.out] at hz; unfold bnd at hz; rw [if_neg h] at hz; exact h1 hz))
            clear hz
            go_wp2_with fail
            go_roundw
            case rel => exact ⟨k + 1, bb, by omega, by go_num, rfl, HB2, S⟩
            case measure => simp [intOf] <;> omega
          · have hzb : (Z.head != 0) = true := by simp [hz]
            have hsk : σ k ≠ vT k := fun e => hz (by rw [HZE.out]; unfold bnd; rw [if_pos e]; rfl)
            have hZs : Z = σ k := by rw [HZE.out]; exact if_neg hsk
            have HSK := Lib.hid hsk; have HZS := Lib.hid hZs
            have hsz := (HSZ.out k hsk).1
            rw [← hZs] at hsz
            have HSI := Lib.hid hsz
            clear hz hsk hZs hsz
            go_wp2_with fail
            refine (S.quiet (size41 Z _ wr (by have := HSI.out; omega) qt.at)).mono ?_
            rintro e w3 ⟨rfl, z3, S3⟩
            clear S q0 q1 qt
            obtain ⟨kq, sq, q0, q1, _, _, qt⟩ := (S3.rset 0).get hlt
            rw [← HZE.out] at q0 q1 qt
            by_cases h40 : 40 < Z.size
            · have h40i : (40 : Int) < (Z.size : Int) := by omega
              have HB2 := Lib.hid (big_hit (σ := σ) (k := k) HSK.out (by rw [← HZS.out]; intro h; omega))
              clear h40
              go_wp2_with fail
              go_roundw
              case rel => ((repeat apply Exists.intro); exact ⟨⟨k + 1, true, by omega, by go_num, rfl, HB2, S3⟩, rfl⟩)
              case measure => simp [intOf] <;> omega
            · have h40i : ¬ (40 : Int) < (Z.size : Int) := by omega
              have h40b : Z.size ≤ 40 := by omega
              have HDL := Lib.hid (deep_le Z)
              go_wp2_with fail
              refine (S3.quiet (deep43 Z _ w3 (by have := HDL.out; omega) qt.at)).mono ?_
              rintro e w5 ⟨rfl, z5, S5⟩
              clear S3 q0 q1 qt
              by_cases h12 : 12 < Z.deep
              · have h12i : (12 : Int) < (Z.deep : Int) := by omega
                have HB2 := Lib.hid (big_hit (σ := σ) (k := k) HSK.out (by rw [← HZS.out]; intro h; omega))
                clear h40 h12
                go_wp2_with fail
                go_roundw
                case rel => ((repeat apply Exists.intro); exact ⟨⟨k + 1, true, by omega, by go_num, rfl, HB2, S5⟩, rfl⟩)
                case measure => simp [intOf] <;> omega
              · have h12i : ¬ (12 : Int) < (Z.deep : Int) := by omega
                have HB2 := Lib.hid (big_skip (σ := σ) (k := k) HB.out (by right; rw [← HZS.out]; omega))
                clear h40 h12
                go_wp2_with fail
                go_roundw
                case rel => ((repeat apply Exists.intro); exact ⟨⟨k + 1, bb, by omega, by go_num, rfl, HB2, S5⟩, rfl⟩)
                case measure => simp [intOf] <;> omega
        · obtain rfl : k = N := by omega
          have HROW := Lib.hid ((S.rset 0).row)
          have HBE := Lib.hid S.bel
          have hgl := (S.rset 0).lt.2
          have HGL := Lib.hid hgl
          clear S
          cases bb with
          | true =>
            go_wp2_with fail
            go_ret2
            exact mguP_2 (r := (c0, τ0)) HSAY.out HE.out (HB.out.1 rfl) HBE.out
          | false =>
            go_wp2_with fail
            go_ret2
            exact mguP_1 (r := (c0, τ0)) HSAY.out HE.out (fun x hx hs => Classical.byContradiction fun h => absurd (HB.out.2 ⟨x, hx, hs, h⟩) (by simp)) (HROW.out.mono (fun b _ h => h)) HBE.out
    · obtain ⟨l, ⟨a, b⟩, rfl⟩ : ∃ l' e, l0 = l' ++ [e] := ⟨l0.dropLast, l0.getLast hl, (List.dropLast_concat_getLast hl).symm⟩
      obtain ⟨be, off, ka1, sa1, kb1, sb1, rfl, hbe, c0a, c1a, c2a, c3a, ta1, tb1⟩ := (S.rowE eqE 1).pair (i := l.length) (f := (a, b)) (by simp)
      have HTA1 := Lib.hid ta1; have HTB1 := Lib.hid tb1
      have hln : (l ++ [(a, b)]).length = l.length + 1 := by simp
      rw [hln] at HC ⊢
      have hgt : (0 : Int) < (l.length : Int) + 1 := by omega
      have hpos : (0 : Int) ≤ (l.length : Int) := by omega
      have hcapl := HC.out
      have hl241 : l.length ≤ 240 := by have := HM.out.length H40.out; rw [hln] at this; omega
      clear ta1 tb1 hl
      dsimp only at c0a c1a c2a c3a
      have S1 := S.box (b := wr.heap.size) rfl #[.int .i64 a.head, .slice ka1 a.kids.length (a.kids.length + sa1), .int .i64 b.head, .slice kb1 b.kids.length (b.kids.length + sb1)] 124
      obtain ⟨css, hcl, hfl, hel, hcell, hone⟩ := ((S1.rowE eqE 1).pre).cells
      have HCL := Lib.hid hcl; have HFL := Lib.hid hfl; have HEL := Lib.hid hel; have HCELL := Lib.hid hcell; have HONE := Lib.hid hone
      clear hcl hfl hel hcell hone
      go_wp2_with (at_builtin; refine wpList_append_own_any rfl (.tmp 34) (.tmp 39) 125 rfl (wr.heap.size + 1) 124 i124 (.agg #[.int .i64 0, .slice none 0 0, .int .i64 0, .slice none 0 0]) 4 64 Try.underlying125 hi hz0 hz1 hz2 rfl (by decide) (.slice none 0 0) 0 [] rfl (World.ownsRow_nil _ _ _ _) (some ⟨be, off, none⟩) l.length cap css.flatten rfl (fun h => by cases h) HFL.out HCELL.out HONE.out ?c3 ?c4 (by simp) ?_)
      case c3 => unfold maxLen; omega
      case c4 => omega
      intro v' w3 hown hgrow
      have hbg := (Below.refl _ _).grown hgrow (Nat.le_refl _) (fun q hq => by cases hq)
      try simp only [Nat.zero_add, List.nil_append] at hown
      have S2 := (S1.step hbg).add (.owns eqE (wr.heap.size + 1) (fun b => b < wr.heap.size ∧ b ≠ g) v' l) (Elt.Own.copied (E := eqE) HCL.out HEL.out hown (fun b _ hlt => hbg.block b hlt) (by simp))
      have zg := hbg.size
      obtain ⟨eb, heb⟩ : ∃ b, b = wr.heap.size := ⟨_, rfl⟩
      obtain ⟨av, ac, rfl⟩ : ∃ av ac, v' = .slice av l.length ac := by
        rcases hown.2 with ⟨h1, h2⟩ | ⟨gg, cap, cur, h, _⟩
        · exact ⟨none, 0, by rw [h1, show l.length = 0 from h2]⟩
        · exact ⟨_, cap, h⟩
      rw [World.size_alloc, ← heb] at zg
      change St w w3 [.rset (fun b => b < wr.heap.size ∧ b ≠ g) g g N (bnd σ), .rowE eqE (fun b => b < wr.heap.size ∧ b ≠ g) (some ⟨be, off, none⟩) (l ++ [(a, b)]), .box wr.heap.size #[.int .i64 a.head, .slice ka1 a.kids.length (a.kids.length + sa1), .int .i64 b.head, .slice kb1 b.kids.length (b.kids.length + sb1)] 124, .owns eqE (wr.heap.size + 1) (fun b => b < wr.heap.size ∧ b ≠ g) (.slice av l.length ac) l] at S2
      rw [← heb] at S2 zr hbe ⊢
      have HTA2 := Lib.hid ((HTA1.out.kept ((Below.refl _ wr).alloc (Nat.le_refl _) _)).kept hbg)
      have HTB2 := Lib.hid ((HTB1.out.kept ((Below.refl _ wr).alloc (Nat.le_refl _) _)).kept hbg)
      have S2 := (S2.add (.treeP (fun b => b < eb ∧ b ≠ g) (.agg #[.int .i64 a.head, .slice ka1 a.kids.length (a.kids.length + sa1)]) a) (heb ▸ HTA2.out)).add (.treeP (fun b => b < eb ∧ b ≠ g) (.agg #[.int .i64 b.head, .slice kb1 b.kids.length (b.kids.length + sb1)]) b) (heb ▸ HTB2.out)
      clear S S1 HCL HFL HEL HCELL HONE hown hgrow hbg heb c0a c1a c2a c3a HTA1 HTB1 hgt
      have x4 := S2.four 2
      obtain ⟨x0, x1, x2, x3⟩ := x4
      obtain ⟨n, rfl⟩ : ∃ n, gk = n + 1 := by
        cases gk with
        | zero => exact (mr_zero HRN.out).elim
        | succ n => exact ⟨n, rfl⟩
      go_wp2_with fail
      refine (S2.quiet (same22 a b _ _ _ (St.treeP S2 4 rfl).at (St.treeP S2 5 rfl).at)).mono ?_
      rintro e w4 ⟨rfl, z4, S4⟩
      clear S2 x0 x1 x2 x3 HTA2 HTB2
      by_cases hab : a = b
      · as_aux_lemma =>
        rw [show decide (a = b) = true from decide_eq_true hab]
        have HR2 := Lib.hid (mr_same HRN.out hab)
        have HM2 := Lib.hid (MS.same (hab ▸ HM.out : MS N A B (l ++ [(b, b)]) σ))
        obtain ⟨hro, hac⟩ := own_to_row (g := g) (p := fun b => b < eb ∧ b ≠ g) (St.owns S4 eqE 3 rfl) (fun b h => h.2) (by omega)
        have S5 := ((S4.rmono (p' := fun b => b < w4.heap.size ∧ b ≠ g) (fun b h hlt => ⟨hlt, h.2⟩)).pick [0]).add (.rowE eqE (fun b => b < w4.heap.size ∧ b ≠ g) av l) hro
        have HAC := Lib.hid hac
        clear hro hac S4 hab
        go_wp2_with fail
        go_roundg n
        case measure => omega
        case rel => exact ⟨l, σ, av, ac, rfl, HAC, HM2, HR2, by omega, S5⟩
      · rw [show decide (a = b) = false by simp [hab]]
        have HAB := Lib.hid hab
        clear hab
        obtain ⟨x0, x1, x2, x3⟩ := S4.four 2
        by_cases hpp : 0 < a.head ∧ 0 < b.head
        · have h1 := hpp.1
          have h2 := hpp.2
          clear hpp
          by_cases hc : a.head = b.head ∧ a.kids.length = b.kids.length
          · as_aux_lemma =>
            obtain ⟨h3, h4⟩ := hc
            have HR4 := Lib.hid (mr_dec HRN.out HAB.out ⟨h1, h2⟩ h3 h4)
            have HM4 := Lib.hid (MS.dec H40.out (by omega) (by omega) h3 h4 HM.out)
            have hk3 : a.kids.length ≤ 3 := (HM.out.mg.tm (a, b) (by simp)).1.kids3 H40.out a (self_pre a)
            have HRA := Lib.hid (St.treeP S4 4 rfl).row.1
            have HRB := Lib.hid (St.treeP S4 5 rfl).row.1
            have SW := Lib.hid S4.bel
            have HK4 := Lib.hid h4
            have HL := Lib.hid hl241
            have S5 := S4.pick [0, 2, 3, 4, 5]
            change St w w4 [.rset (fun b => b < eb ∧ b ≠ g) g g N (bnd σ), .box eb #[.int .i64 a.head, .slice ka1 a.kids.length (a.kids.length + sa1), .int .i64 b.head, .slice kb1 b.kids.length (b.kids.length + sb1)] 124, .owns eqE (eb + 1) (fun b => b < eb ∧ b ≠ g) (.slice av l.length ac) l, .treeP (fun b => b < eb ∧ b ≠ g) (.agg #[.int .i64 a.head, .slice ka1 a.kids.length (a.kids.length + sa1)]) a, .treeP (fun b => b < eb ∧ b ≠ g) (.agg #[.int .i64 b.head, .slice kb1 b.kids.length (b.kids.length + sb1)]) b] at S5
            have hgeb : g < eb := zr
            clear S4 hcapl
            go_wp2_with fail
            clear x0 x1 x2 x3
            go_loopw [12, 13] (fun ov i wr => ∃ (k : Nat) (o : Value), ov = o ∧ k ≤ a.kids.length ∧ i = .int .i64 k ∧ eb + 1 ≤ wr.heap.size ∧ St w wr [.rset (fun b => b < eb ∧ b ≠ g) g g N (bnd σ), .box eb #[.int .i64 a.head, .slice ka1 a.kids.length (a.kids.length + sa1), .int .i64 b.head, .slice kb1 b.kids.length (b.kids.length + sb1)] 124, .owns eqE (eb + 1) (fun b => b < eb ∧ b ≠ g) o (l ++ (a.kids.zip b.kids).take k), .treeP (fun b => b < eb ∧ b ≠ g) (.agg #[.int .i64 a.head, .slice ka1 a.kids.length (a.kids.length + sa1)]) a, .treeP (fun b => b < eb ∧ b ≠ g) (.agg #[.int .i64 b.head, .slice kb1 b.kids.length (b.kids.length + sb1)]) b]) (fun _ i _ => a.kids.length - (intOf i).toNat)
            case atStart => exact ⟨0, _, rfl, by omega, rfl, by omega, by rw [List.take_zero, List.append_nil]; exact S5⟩
            case round =>
              clear S5
              obtain ⟨k, o, ho, hk, rfl, zw, S⟩ := hrel
              replace ho := ho.symm
              subst ho
              obtain ⟨x0, x1, x2, x3⟩ := S.four 1
              by_cases hlt : k < a.kids.length
              · as_aux_lemma =>
                have hltb : k < b.kids.length := by have := HK4.out; omega
                have hlti : (k : Int) < (a.kids.length : Int) := by omega
                have hltbi : (k : Int) < (b.kids.length : Int) := by omega
                obtain ⟨ba, offa, kka, kspa, rfl, _, p0, p1, pt⟩ := (St.treeP S 3 rfl).row.1 k hlt
                obtain ⟨bb, offb, kkb, kspb, rfl, _, q0, q1, qt⟩ := (St.treeP S 4 rfl).row.1 k hltb
                have HPT := Lib.hid pt; have HQT := Lib.hid qt
                have HZT := Lib.hid (zip_take hlt hltb)
                have hlk : (l ++ (a.kids.zip b.kids).take k).length = l.length + k := by simp; omega
                have HLK := Lib.hid hlk
                clear pt qt hlk
                go_wp2_with fail
                have SD := S.drew
                change St w wr.drew [.rset (fun b => b < eb ∧ b ≠ g) g g N (bnd σ), .box eb #[.int .i64 a.head, .slice (some ⟨ba, offa, none⟩) a.kids.length (a.kids.length + sa1), .int .i64 b.head, .slice (some ⟨bb, offb, none⟩) b.kids.length (b.kids.length + sb1)] 124, .owns eqE (eb + 1) (fun b => b < eb ∧ b ≠ g) o (l ++ (a.kids.zip b.kids).take k), .treeP (fun b => b < eb ∧ b ≠ g) (.agg #[.int .i64 a.head, .slice (some ⟨ba, offa, none⟩) a.kids.length (a.kids.length + sa1)]) a, .treeP (fun b => b < eb ∧ b ≠ g) (.agg #[.int .i64 b.head, .slice (some ⟨bb, offb, none⟩) b.kids.length (b.kids.length + sb1)]) b] at SD
                have HPD := Lib.hid (HPT.out.kept (w' := wr.drew) (Below.refl _ _).drew)
                have HQD := Lib.hid (HQT.out.kept (w' := wr.drew) (Below.refl _ _).drew)
                have FC := Lib.hid (fun W (hb : Below wr.heap.size wr W) => (⟨Below.cellOf hb x1, Below.cellOf hb x3, Below.cellOf hb p0, Below.cellOf hb p1, Below.cellOf hb q0, Below.cellOf hb q1⟩ : _ ∧ _ ∧ _ ∧ _ ∧ _ ∧ _))
                have zd : eb + 1 ≤ wr.drew.heap.size := zw
                clear S x0 x1 x2 x3 p0 p1 q0 q1
                refine wpH_region [15, 16] (fun W => W.cell? ⟨eb, 1, none⟩ = some (.slice (some ⟨ba, offa, none⟩) a.kids.length (a.kids.length + sa1)) ∧ W.cell? ⟨eb, 3, none⟩ = some (.slice (some ⟨bb, offb, none⟩) b.kids.length (b.kids.length + sb1)) ∧ W.cell? ⟨ba, offa + k * 2, none⟩ = some (.int .i64 (gK a.kids k).head) ∧ W.cell? ⟨ba, offa + k * 2 + 1, none⟩ = some (.slice kka (gK a.kids k).kids.length ((gK a.kids k).kids.length + kspa)) ∧ W.cell? ⟨bb, offb + k * 2, none⟩ = some (.int .i64 (gK b.kids k).head) ∧ W.cell? ⟨bb, offb + k * 2 + 1, none⟩ = some (.slice kkb (gK b.kids k).kids.length ((gK b.kids k).kids.length + kspb))) (by kernel_rfl) ?_
                have HS := FC.out _ (Below.refl _ wr).drew
                refine wpH.take (i := 0) (by kernel_rfl) (by kernel_rfl) (by kernel_rfl) (by kernel_rfl) (by kernel_rfl) HS ?_
                intro oi ho
                simp only [List.getElem?_toArray, List.getElem?_cons_zero, Option.some.injEq] at ho
                subst ho
                refine ⟨?_, Or.inl ⟨by rfl, ?_⟩, fun _ _ _ h => h, ?_⟩
                rotate_left 1
                · intro W hW
                  try dsimp only at hW
                  go_simp
                  try with_reducible rfl
                simp only [Act.put, List.setIfInBounds_toArray, List.set_cons_zero, List.set_cons_succ]
                refine wpH.take (i := 1) (by kernel_rfl) (by kernel_rfl) (by kernel_rfl) (by kernel_rfl) (by kernel_rfl) HS ?_
                intro oi ho
                simp only [List.getElem?_toArray, List.getElem?_cons_succ, List.getElem?_cons_zero, Option.some.injEq] at ho
                subst ho
                refine ⟨?_, Or.inl ⟨by rfl, ?_⟩, fun _ _ _ h => h, ?_⟩
                rotate_left 1
                · intro W hW
                  try dsimp only at hW
                  go_simp
                  try with_reducible rfl
                simp only [Act.put, List.setIfInBounds_toArray, List.set_cons_zero, List.set_cons_succ]
                refine wpH.take (i := 2) (by kernel_rfl) (by kernel_rfl) (by kernel_rfl) (by kernel_rfl) (by kernel_rfl) HS ?_
                intro oi ho
                simp only [List.getElem?_toArray, List.getElem?_cons_succ, List.getElem?_cons_zero, Option.some.injEq] at ho
                subst ho
                refine ⟨?_, Or.inl ⟨by rfl, ?_⟩, fun _ _ _ h => h, ?_⟩
                rotate_left 1
                · intro W hW
                  try dsimp only at hW
                  go_simp
                  try with_reducible rfl
                simp only [Act.put, List.setIfInBounds_toArray, List.set_cons_zero, List.set_cons_succ]
                refine wpH.take (i := 3) (by kernel_rfl) (by kernel_rfl) (by kernel_rfl) (by kernel_rfl) (by kernel_rfl) HS ?_
                intro oi ho
                simp only [List.getElem?_toArray, List.getElem?_cons_succ, List.getElem?_cons_zero, Option.some.injEq] at ho
                subst ho
                refine ⟨?_, Or.inl ⟨by rfl, ?_⟩, fun _ _ _ h => h, ?_⟩
                rotate_left 1
                · intro W hW
                  try dsimp only at hW
                  go_simp
                  try with_reducible rfl
                simp only [Act.put, List.setIfInBounds_toArray, List.set_cons_zero, List.set_cons_succ]
                refine wpH.take (i := 4) (by kernel_rfl) (by kernel_rfl) (by kernel_rfl) (by kernel_rfl) (by kernel_rfl) HS ?_
                intro oi ho
                simp only [List.getElem?_toArray, List.getElem?_cons_succ, List.getElem?_cons_zero, Option.some.injEq] at ho
                subst ho
                refine ⟨?_, Or.inl ⟨by rfl, ?_⟩, fun _ _ _ h => h, ?_⟩
                rotate_left 1
                · intro W hW
                  try dsimp only at hW
                  go_simp
                  try with_reducible rfl
                simp only [Act.put, List.setIfInBounds_toArray, List.set_cons_zero, List.set_cons_succ]
                refine wpH.take (i := 5) (by kernel_rfl) (by kernel_rfl) (by kernel_rfl) (by kernel_rfl) (by kernel_rfl) HS ?_
                intro oi ho
                simp only [List.getElem?_toArray, List.getElem?_cons_succ, List.getElem?_cons_zero, Option.some.injEq] at ho
                subst ho
                refine ⟨?_, Or.inl ⟨by rfl, ?_⟩, fun _ _ _ h => h, ?_⟩
                rotate_left 1
                · intro W hW
                  try dsimp only at hW
                  go_simp
                  try with_reducible rfl
                simp only [Act.put, List.setIfInBounds_toArray, List.set_cons_zero, List.set_cons_succ]
                refine wpH.take (i := 6) (by kernel_rfl) (by kernel_rfl) (by kernel_rfl) (by kernel_rfl) (by kernel_rfl) HS ?_
                intro oi ho
                simp only [List.getElem?_toArray, List.getElem?_cons_succ, List.getElem?_cons_zero, Option.some.injEq] at ho
                subst ho
                refine ⟨?_, Or.inl ⟨by rfl, ?_⟩, fun _ _ _ h => h, ?_⟩
                rotate_left 1
                · intro W hW
                  try dsimp only at hW
                  go_simp
                  try with_reducible rfl
                simp only [Act.put, List.setIfInBounds_toArray, List.set_cons_zero, List.set_cons_succ]
                refine wpH.take (i := 7) (by kernel_rfl) (by kernel_rfl) (by kernel_rfl) (by kernel_rfl) (by kernel_rfl) HS ?_
                intro oi ho
                simp only [List.getElem?_toArray, List.getElem?_cons_succ, List.getElem?_cons_zero, Option.some.injEq] at ho
                subst ho
                refine ⟨?_, Or.inl ⟨by rfl, ?_⟩, fun _ _ _ h => h, ?_⟩
                rotate_left 1
                · intro W hW
                  try dsimp only at hW
                  go_simp
                  try with_reducible rfl
                simp only [Act.put, List.setIfInBounds_toArray, List.set_cons_zero, List.set_cons_succ]
                refine wpH.take (i := 8) (by kernel_rfl) (by kernel_rfl) (by kernel_rfl) (by kernel_rfl) (by kernel_rfl) HS ?_
                intro oi ho
                simp only [List.getElem?_toArray, List.getElem?_cons_succ, List.getElem?_cons_zero, Option.some.injEq] at ho
                subst ho
                refine ⟨?_, Or.inl ⟨by rfl, ?_⟩, fun _ _ _ h => h, ?_⟩
                rotate_left 1
                · intro W hW
                  try dsimp only at hW
                  go_simp
                  try with_reducible rfl
                simp only [Act.put, List.setIfInBounds_toArray, List.set_cons_zero, List.set_cons_succ]
                refine wpH.take (i := 9) (by kernel_rfl) (by kernel_rfl) (by kernel_rfl) (by kernel_rfl) (by kernel_rfl) HS ?_
                intro oi ho
                simp only [List.getElem?_toArray, List.getElem?_cons_succ, List.getElem?_cons_zero, Option.some.injEq] at ho
                subst ho
                refine ⟨?_, Or.inl ⟨by rfl, ?_⟩, fun _ _ _ h => h, ?_⟩
                rotate_left 1
                · intro W hW
                  try dsimp only at hW
                  go_simp
                  try with_reducible rfl
                simp only [Act.put, List.setIfInBounds_toArray, List.set_cons_zero, List.set_cons_succ]
                refine wpH.take (i := 10) (by kernel_rfl) (by kernel_rfl) (by kernel_rfl) (by kernel_rfl) (by kernel_rfl) HS ?_
                intro oi ho
                simp only [List.getElem?_toArray, List.getElem?_cons_succ, List.getElem?_cons_zero, Option.some.injEq] at ho
                subst ho
                refine ⟨?_, Or.inl ⟨by rfl, ?_⟩, fun _ _ _ h => h, ?_⟩
                rotate_left 1
                · intro W hW
                  try dsimp only at hW
                  go_simp
                  try with_reducible rfl
                simp only [Act.put, List.setIfInBounds_toArray, List.set_cons_zero, List.set_cons_succ]
                refine wpH.take (i := 11) (by kernel_rfl) (by kernel_rfl) (by kernel_rfl) (by kernel_rfl) (by kernel_rfl) HS ?_
                intro oi ho
                simp only [List.getElem?_toArray, List.getElem?_cons_succ, List.getElem?_cons_zero, Option.some.injEq] at ho
                subst ho
                refine ⟨?_, Or.inl ⟨by rfl, ?_⟩, fun _ _ _ h => h, ?_⟩
                rotate_left 1
                · intro W hW
                  try dsimp only at hW
                  go_simp
                  try with_reducible rfl
                simp only [Act.put, List.setIfInBounds_toArray, List.set_cons_zero, List.set_cons_succ]
                refine wpH.take (i := 12) (by kernel_rfl) (by kernel_rfl) (by kernel_rfl) (by kernel_rfl) (by kernel_rfl) HS ?_
                intro oi ho
                simp only [List.getElem?_toArray, List.getElem?_cons_succ, List.getElem?_cons_zero, Option.some.injEq] at ho
                subst ho
                refine ⟨?_, Or.inl ⟨by rfl, ?_⟩, fun _ _ _ h => h, ?_⟩
                rotate_left 1
                · intro W hW
                  try dsimp only at hW
                  go_simp
                  try with_reducible rfl
                simp only [Act.put, List.setIfInBounds_toArray, List.set_cons_zero, List.set_cons_succ]
                refine wpH.take (i := 13) (by kernel_rfl) (by kernel_rfl) (by kernel_rfl) (by kernel_rfl) (by kernel_rfl) HS ?_
                intro oi ho
                simp only [List.getElem?_toArray, List.getElem?_cons_succ, List.getElem?_cons_zero, Option.some.injEq] at ho
                subst ho
                refine ⟨?_, Or.inl ⟨by rfl, ?_⟩, fun _ _ _ h => h, ?_⟩
                rotate_left 1
                · intro W hW
                  try dsimp only at hW
                  go_simp
                  try with_reducible rfl
                simp only [Act.put, List.setIfInBounds_toArray, List.set_cons_zero, List.set_cons_succ]
                refine wpH.one (i := 14) (by kernel_rfl) ?_
                intro oi ho
                simp only [List.getElem?_toArray, List.getElem?_cons_succ, List.getElem?_cons_zero, Option.some.injEq] at ho
                subst ho
                intro K hK
                have HK := Lib.hid hK
                have HSH := Lib.hid HS
                clear hK HS
                go_simp
                refine HK.out _ _ (fun _ => FC.out _ ((Below.refl _ wr).drew.alloc (Nat.le_refl _) (.cells #[.int .i64 (gK a.kids k).head, .slice kka (gK a.kids k).kids.length ((gK a.kids k).kids.length + kspa), .int .i64 (gK b.kids k).head, .slice kkb (gK b.kids k).kids.length ((gK b.kids k).kids.length + kspb)] 124))) ?_
                have HS := trivial
                try simp only [Act.put, List.setIfInBounds_toArray, List.set_cons_zero, List.set_cons_succ]
                refine wpH.one (i := 15) (by kernel_rfl) ?_
                intro oi ho
                simp only [List.getElem?_toArray, List.getElem?_cons_succ, List.getElem?_cons_zero, Option.some.injEq] at ho
                subst ho
                intro K hK
                have HK := Lib.hid hK
                have HSH := Lib.hid HS
                clear hK HS
                refine step_app (by rfl) (.tmp 83) (.tmp 97) 125 (by rfl) eqE SD 2 rfl (x := (gK a.kids k, gK b.kids k)) (q := fun b => b < eb ∧ b ≠ g) (p' := fun b => b < eb ∧ b ≠ g) ⟨kka, kspa, kkb, kspb, rfl, HPD.out, HQD.out⟩ Try.underlying125 hi hz0 hz1 hz2 (by rfl) (by rfl) (by rfl) (by rfl) (by rw [HLK.out]; unfold maxLen; omega) (by rw [HLK.out]; omega) (by omega) (by have := HBX.out; have := HGD.out; omega) (fun b h1 h2 h3 => by simp only [offs, offAll, Fct.rset, Fct.box, Fct.treeP, and_true]; omega) (fun b h1 h2 => by have := (SD.ownlt eqE 2 rfl b h2).1; have := h1.1; omega) (fun b h => by rcases h with h | h <;> exact h) ?_
                intro gg cap2 w5 S6 hs6 hgg hat
                rw [HLK.out] at S6 ⊢
                refine HK.out _ _ (fun h => absurd h (by decide)) ?_
                have HS := trivial
                try simp only [Act.put, List.setIfInBounds_toArray, List.set_cons_zero, List.set_cons_succ]
                refine wpH.one (i := 16) (by kernel_rfl) ?_
                intro oi ho
                simp only [List.getElem?_toArray, List.getElem?_cons_succ, List.getElem?_cons_zero, Option.some.injEq] at ho
                subst ho
                intro K hK
                have HK := Lib.hid hK
                have HSH := Lib.hid HS
                clear hK HS
                go_simp
                refine HK.out _ _ (fun h => absurd h (by decide)) ?_
                try simp only [Act.put, List.setIfInBounds_toArray, List.set_cons_zero, List.set_cons_succ]
                refine wpH.done (by kernel_rfl) ?_
                have S7 : St w w5 [.rset (fun b => b < eb ∧ b ≠ g) g g N (bnd σ), .box eb #[.int .i64 a.head, .slice (some ⟨ba, offa, none⟩) a.kids.length (a.kids.length + sa1), .int .i64 b.head, .slice (some ⟨bb, offb, none⟩) b.kids.length (b.kids.length + sb1)] 124, .owns eqE (eb + 1) (fun b => b < eb ∧ b ≠ g) (.slice (some ⟨gg, 0, none⟩) (l.length + k + 1) cap2) (l ++ (a.kids.zip b.kids).take (k + 1)), .treeP (fun b => b < eb ∧ b ≠ g) (.agg #[.int .i64 a.head, .slice (some ⟨ba, offa, none⟩) a.kids.length (a.kids.length + sa1)]) a, .treeP (fun b => b < eb ∧ b ≠ g) (.agg #[.int .i64 b.head, .slice (some ⟨bb, offb, none⟩) b.kids.length (b.kids.length + sb1)]) b] := by rw [HZT.out, ← List.append_assoc]; exact S6
                have S8 := Lib.hid S7
                clear SD S6 S7
                go_wp2_with fail
                go_roundw
                case rel => exact ⟨k + 1, _, rfl, by omega, by go_num, by omega, S8.out⟩
                case measure => simp [intOf] <;> omega
              · as_aux_lemma =>
                obtain rfl : k = a.kids.length := by omega
                rw [List.take_of_length_le (by simp; omega)] at S
                obtain ⟨av2, ac2, ho⟩ := own_form (St.owns S eqE 2 rfl)
                subst ho
                obtain ⟨hro, hac⟩ := own_to_row (g := g) (p := fun b => b < eb ∧ b ≠ g) (St.owns S eqE 2 rfl) (fun b h => h.2) (by omega)
                have S9 := ((S.rmono (p' := fun b => b < wr.heap.size ∧ b ≠ g) (fun b h hlt => ⟨hlt, h.2⟩)).pick [0]).add (.rowE eqE (fun b => b < wr.heap.size ∧ b ≠ g) av2 (l ++ a.kids.zip b.kids)) hro
                have HAC := Lib.hid hac
                clear hro hac S
                go_wp2_with fail
                go_roundg n
                case measure => omega
                case rel => exact ⟨l ++ a.kids.zip b.kids, σ, av2, ac2, rfl, HAC, HM4, HR4, by omega, S9⟩
          · as_aux_lemma =>
            have HE := Lib.hid (mr_clash HRN.out HAB.out ⟨h1, h2⟩ (by
              by_cases h : a.head = b.head
              · exact .inr fun h' => hc ⟨h, h'⟩
              · exact .inl h))
            have hq : a.head = b.head → a.kids.length = b.kids.length → False := fun h h' => hc ⟨h, h'⟩
            have HB4 := Lib.hid S4.bel
            clear hc
            by_cases h3 : a.head = b.head
            · have h4 : ¬ (a.kids.length : Int) = (b.kids.length : Int) := fun h => hq h3 (by omega)
              clear hq hcapl
              go_wp2_with fail
              go_ret2
              exact mguP_0 (r := (c0, τ0)) HSAY.out HE.out HB4.out
            · clear hq hcapl
              go_wp2_with fail
              go_ret2
              exact mguP_0 (r := (c0, τ0)) HSAY.out HE.out HB4.out
        · as_aux_lemma =>
          have hab0 := HM.out.mg.tm (a, b) (by simp)
          have haz : a.head ≠ 0 := hab0.1.nz HZ.out
          have hbz : b.head ≠ 0 := hab0.2.nz HZ.out
          obtain ⟨s1, s2, s3, _⟩ := HM.out.mg.step HZ.out HAB.out hpp
          have HS1 := Lib.hid s1; have HGO := Lib.hid s2; have HNE := Lib.hid s3; have HPP := Lib.hid hpp
          have S5 := S4.pick [0, 2, 3, 4, 5]
          change St w w4 [.rset (fun b => b < eb ∧ b ≠ g) g g N (bnd σ), .box eb #[.int .i64 a.head, .slice ka1 a.kids.length (a.kids.length + sa1), .int .i64 b.head, .slice kb1 b.kids.length (b.kids.length + sb1)] 124, .owns eqE (eb + 1) (fun b => b < eb ∧ b ≠ g) (.slice av l.length ac) l, .treeP (fun b => b < eb ∧ b ≠ g) (.agg #[.int .i64 a.head, .slice ka1 a.kids.length (a.kids.length + sa1)]) a, .treeP (fun b => b < eb ∧ b ≠ g) (.agg #[.int .i64 b.head, .slice kb1 b.kids.length (b.kids.length + sb1)]) b] at S5
          have zw4 : eb + 1 ≤ w4.heap.size := by omega
          clear s1 s2 s3 hab0 S4 hcapl z4 zg
          go_upto_region 10 with fail
          go_cut [56] (fun t56 W => t56 = .bool false ∧ eb + 1 ≤ W.heap.size ∧ St w W [.rset (fun b => b < eb ∧ b ≠ g) g g N (bnd σ), .box eb #[.int .i64 a.head, .slice ka1 a.kids.length (a.kids.length + sa1), .int .i64 b.head, .slice kb1 b.kids.length (b.kids.length + sb1)] 124, .owns eqE (eb + 1) (fun b => b < eb ∧ b ≠ g) (.slice av l.length ac) l, .treeP (fun b => b < eb ∧ b ≠ g) (.agg #[.int .i64 a.head, .slice ka1 a.kids.length (a.kids.length + sa1)]) a, .treeP (fun b => b < eb ∧ b ≠ g) (.agg #[.int .i64 b.head, .slice kb1 b.kids.length (b.kids.length + sb1)]) b])
          case first =>
            as_aux_lemma =>
            by_cases ha : 0 < a.head
            · have hb : ¬ 0 < b.head := fun h => hpp ⟨ha, h⟩
              clear hpp
              go_wp2_with fail
              go_meet
              case rel => exact ⟨rfl, zw4, S5⟩
            · clear hpp
              go_wp2_with fail
              go_meet
              case rel => exact ⟨rfl, zw4, S5⟩
          case rest =>
            clear x0 x1 x2 x3 S5 zw4 hpp
            obtain ⟨ht56, zwc, SC⟩ := hcut
            subst ht56
            have HAV0 := SC.ownlt eqE 2
            obtain ⟨xb, hxb⟩ : ∃ q, q = wc.heap.size := ⟨_, rfl⟩
            have HAV := Lib.hid (show ∀ q, (Value.slice av l.length ac).ownBlock = some q → eb + 1 ≤ q ∧ q < xb from fun q hq => by rw [hxb]; exact HAV0 q hq)
            have S6 := (SC.box (b := xb) hxb.symm #[.int .i64 a.head, .slice ka1 a.kids.length (a.kids.length + sa1)] 38).box (b := xb + 1) (by simp [hxb]) #[.int .i64 b.head, .slice kb1 b.kids.length (b.kids.length + sb1)] 38
            have hz6 : ((wc.alloc (.cells #[.int .i64 a.head, .slice ka1 a.kids.length (a.kids.length + sa1)] 38)).alloc (.cells #[.int .i64 b.head, .slice kb1 b.kids.length (b.kids.length + sb1)] 38)).heap.size = xb + 2 := by simp [hxb]
            have HXB := Lib.hid (show eb + 1 ≤ xb by omega)
            obtain ⟨x0, x1, x2, x3⟩ := SC.four 1
            have HW0 := Lib.hid (show w.heap.size ≤ xb ∧ w.heap.size < eb ∧ w.heap.size ≤ g by have := HBX.out; have := HGD.out; omega)
            have hleb := SC.lt 1
            clear HAV0
            go_upto_region 20 with fail
            rw [← hxb]
            refine S6.genC (z := xb + 2) (by omega) ?_
            intro wd zd S7
            clear SC S6 hz6 hxb x0 x1 x2 x3 zwc hleb
            change St w wd [.rset (fun b => b < eb ∧ b ≠ g) g g N (bnd σ), .box eb #[.int .i64 a.head, .slice ka1 a.kids.length (a.kids.length + sa1), .int .i64 b.head, .slice kb1 b.kids.length (b.kids.length + sb1)] 124, .owns eqE (eb + 1) (fun b => b < eb ∧ b ≠ g) (.slice av l.length ac) l, .treeP (fun b => b < eb ∧ b ≠ g) (.agg #[.int .i64 a.head, .slice ka1 a.kids.length (a.kids.length + sa1)]) a, .treeP (fun b => b < eb ∧ b ≠ g) (.agg #[.int .i64 b.head, .slice kb1 b.kids.length (b.kids.length + sb1)]) b, .box xb #[.int .i64 a.head, .slice ka1 a.kids.length (a.kids.length + sa1)] 38, .box (xb + 1) #[.int .i64 b.head, .slice kb1 b.kids.length (b.kids.length + sb1)] 38] at S7
            go_cut [118] (fun t118 W => ∃ cB : Bool, t118 = .bool cB ∧ Hid ((cB = true ∧ pick a b = (b, a)) ∨ (cB = false ∧ pick a b = (a, b))) ∧ xb + 2 ≤ W.heap.size ∧ St w W [.rset (fun b => b < eb ∧ b ≠ g) g g N (bnd σ), .box eb #[.int .i64 a.head, .slice ka1 a.kids.length (a.kids.length + sa1), .int .i64 b.head, .slice kb1 b.kids.length (b.kids.length + sb1)] 124, .owns eqE (eb + 1) (fun b => b < eb ∧ b ≠ g) (.slice av l.length ac) l, .treeP (fun b => b < eb ∧ b ≠ g) (.agg #[.int .i64 a.head, .slice ka1 a.kids.length (a.kids.length + sa1)]) a, .treeP (fun b => b < eb ∧ b ≠ g) (.agg #[.int .i64 b.head, .slice kb1 b.kids.length (b.kids.length + sb1)]) b, .box xb #[.int .i64 a.head, .slice ka1 a.kids.length (a.kids.length + sa1)] 38, .box (xb + 1) #[.int .i64 b.head, .slice kb1 b.kids.length (b.kids.length + sb1)] 38])
            case first =>
              as_aux_lemma =>
              obtain ⟨⟨u0, _⟩, u1, _⟩ := S7.two 5
              obtain ⟨⟨v0, _⟩, v1, _⟩ := S7.two 6
              by_cases ha : 0 < a.head
              · have HPK := Lib.hid (show pick a b = (b, a) from if_pos (.inl ha))
                go_wp2_with fail
                go_meet
                case rel => exact ⟨true, rfl, .inl ⟨rfl, HPK.out⟩, zd, S7⟩
              · by_cases hb : b.head < 0
                · by_cases hba : b.head < a.head
                  · have HPK := Lib.hid (show pick a b = (b, a) from if_pos (.inr ⟨hb, hba⟩))
                    go_wp2_with fail
                    go_meet
                    case rel => exact ⟨true, rfl, .inl ⟨rfl, HPK.out⟩, zd, S7⟩
                  · have HPK := Lib.hid (show pick a b = (a, b) from if_neg (by omega))
                    go_wp2_with fail
                    go_meet
                    case rel => exact ⟨false, rfl, .inr ⟨rfl, HPK.out⟩, zd, S7⟩
                · have HPK := Lib.hid (show pick a b = (a, b) from if_neg (by omega))
                  go_wp2_with fail
                  go_meet
                  case rel => exact ⟨false, rfl, .inr ⟨rfl, HPK.out⟩, zd, S7⟩
            case rest =>
            clear S7 zd
            obtain ⟨cB, ht118, hcB, zd, S7⟩ := hcut
            subst ht118
            have HCB := Lib.hid hcB
            clear hcB
            go_step
            go_cut [] (fun W => ∃ (X Y : T) (kx : Option Addr) (sx : Nat) (ky : Option Addr) (sy : Nat), Hid (X = (pick a b).1 ∧ Y = (pick a b).2) ∧ xb + 2 ≤ W.heap.size ∧ St w W [.rset (fun b => b < eb ∧ b ≠ g) g g N (bnd σ), .owns eqE (eb + 1) (fun b => b < eb ∧ b ≠ g) (.slice av l.length ac) l, .box xb #[.int .i64 X.head, .slice kx X.kids.length (X.kids.length + sx)] 38, .box (xb + 1) #[.int .i64 Y.head, .slice ky Y.kids.length (Y.kids.length + sy)] 38, .treeP (fun b => b < eb ∧ b ≠ g) (.agg #[.int .i64 Y.head, .slice ky Y.kids.length (Y.kids.length + sy)]) Y])
            case first =>
              as_aux_lemma =>
              obtain ⟨x0, x1, x2, x3⟩ := S7.four 1
              obtain ⟨⟨u0, _⟩, u1, _⟩ := S7.two 5
              obtain ⟨⟨v0, _⟩, v1, _⟩ := S7.two 6
              have hlx := S7.lt 5
              have hlt := S7.lt 6
              have HSW := Lib.hid (show pick a b = (b, a) → xb + 2 ≤ (((((wc.setCell ⟨xb, 0, none⟩ (.int .i64 b.head)).setCell ⟨xb, 1, none⟩ (.slice kb1 b.kids.length (b.kids.length + sb1))).setCell ⟨xb + 1, 0, none⟩ (.int .i64 a.head)).setCell ⟨xb + 1, 1, none⟩ (.slice ka1 a.kids.length (a.kids.length + sa1)))).heap.size ∧ St w (((((wc.setCell ⟨xb, 0, none⟩ (.int .i64 b.head)).setCell ⟨xb, 1, none⟩ (.slice kb1 b.kids.length (b.kids.length + sb1))).setCell ⟨xb + 1, 0, none⟩ (.int .i64 a.head)).setCell ⟨xb + 1, 1, none⟩ (.slice ka1 a.kids.length (a.kids.length + sa1)))) [.rset (fun b => b < eb ∧ b ≠ g) g g N (bnd σ), .owns eqE (eb + 1) (fun b => b < eb ∧ b ≠ g) (.slice av l.length ac) l, .box xb #[.int .i64 b.head, .slice kb1 b.kids.length (b.kids.length + sb1)] 38, .box (xb + 1) #[.int .i64 a.head, .slice ka1 a.kids.length (a.kids.length + sa1)] 38, .treeP (fun b => b < eb ∧ b ≠ g) (.agg #[.int .i64 a.head, .slice ka1 a.kids.length (a.kids.length + sa1)]) a] from fun _ => ⟨by simp; omega,
                ((S7.set2 5 rfl (.int .i64 b.head) (.slice kb1 b.kids.length (b.kids.length + sb1)) HW0.out.1 (by
                  have := HXB.out
                  simp only [offs, offAll, Fct.rset, Fct.box, Fct.owns, Fct.treeP, and_true]
                  refine ⟨by omega, by omega, fun e => ?_, by omega, by omega, by omega⟩
                  rcases e with e | e
                  · have := (HAV.out _ e).2; omega
                  · omega)).set2 6 rfl (.int .i64 a.head) (.slice ka1 a.kids.length (a.kids.length + sa1)) (by have := HW0.out; omega) (by
                  have := HXB.out
                  simp only [fset, offs, offAll, Fct.rset, Fct.box, Fct.owns, Fct.treeP, and_true]
                  refine ⟨by omega, by omega, fun e => ?_, by omega, by omega, by omega⟩
                  rcases e with e | e
                  · have := (HAV.out _ e).2; omega
                  · omega)).pick [0, 2, 5, 6, 3]⟩)
              have hne1 : ¬ xb = eb := by have := HXB.out; omega
              have hne2 : ¬ xb + 1 = eb := by have := HXB.out; omega
              have hne3 : ¬ eb = xb := by have := HXB.out; omega
              have hne4 : ¬ eb = xb + 1 := by have := HXB.out; omega
              cases cB with
              | true =>
                have HPK := Lib.hid (show pick a b = (b, a) by rcases HCB.out with h | h; exact h.2; exact Bool.noConfusion h.1)
                have HF := Lib.hid (HSW.out HPK.out)
                clear S7 HSW
                go_wp2_with fail
                go_meet
                case rel => exact ⟨b, a, kb1, sb1, ka1, sa1, ⟨by rw [HPK.out], by rw [HPK.out]⟩, HF.out.1, HF.out.2⟩
              | false =>
                have HPK := Lib.hid (show pick a b = (a, b) by rcases HCB.out with h | h; exact Bool.noConfusion h.1; exact h.2)
                have HF := Lib.hid (S7.pick [0, 2, 5, 6, 4])
                clear S7 HSW
                go_wp2_with fail
                go_meet
                case rel => exact ⟨a, b, ka1, sa1, kb1, sb1, ⟨by rw [HPK.out], by rw [HPK.out]⟩, zd, HF.out⟩
            case rest =>
              clear S7 zd
              obtain ⟨X, Y, kx, sx, ky, sy, HXY, zf, SC⟩ := hcut
              go_step
              obtain ⟨x, hx⟩ : ∃ x, x = vI X := ⟨_, rfl⟩
              have HP := Lib.hid (stp_of (r := (c0, τ0)) HZ.out H40.out HM.out HRN.out HAB.out HPP.out HXY.out)
              rw [← hx] at HP
              have HLVS := Lib.hid HM.out.mg.slv
              have HLOW := Lib.hid HM.out.mg.low
              have HSTM := Lib.hid HM.out.mg.stm
              have hX1 : -101 ≤ X.head ∧ X.head < 0 := by have := HP.out.go.x0; have := HP.out.head; omega
              have HYS := Lib.hid HP.out.size
              clear hx HRN HM HPP HGO HNE HS1 HXY HAB hbz haz
              obtain ⟨⟨u0, _⟩, u1, _⟩ := SC.two 2
              obtain ⟨⟨v0, _⟩, v1, _⟩ := SC.two 3
              go_wp2_with fail
              refine (SC.quiet (times31 X.head Y _ wc (by have := HYS.out; omega) (St.treeP SC 4 rfl).at)).mono ?_
              rintro e w5 ⟨rfl, z5, S5⟩
              clear SC u0 u1 v0 v1
              by_cases ho : 0 < Y.times X.head
              · as_aux_lemma =>
                have hoi : (0 : Int) < (Y.times X.head : Int) := by omega
                have HB5 := Lib.hid S5.bel
                have HO := Lib.hid ho
                clear S5 ho
                go_wp2_with fail
                go_ret2
                exact mguP_0 (r := (c0, τ0)) HSAY.out (HP.out.occ (HP.out.has.2 HO.out)) HB5.out
              · as_aux_lemma =>
                have hoi : ¬ (0 : Int) < (Y.times X.head : Int) := by omega
                have HO := Lib.hid (show ¬ Y.has x from fun h => ho (HP.out.has.1 h))
                clear ho
                obtain ⟨⟨u0, _⟩, u1, _⟩ := S5.two 2
                obtain ⟨⟨v0, _⟩, v1, _⟩ := S5.two 3
                go_wp2_with fail
                refine (S5.quiet (size41 Y _ w5 (by have := HYS.out; omega) (St.treeP S5 4 rfl).at)).mono ?_
                rintro e w6 ⟨rfl, z6, S6⟩
                clear S5 u0 u1 v0 v1
                by_cases hs : 4000 < Y.size
                · have hsi : (4000 : Int) < (Y.size : Int) := by omega
                  have HB6 := Lib.hid S6.bel
                  clear S6 hs
                  go_wp2_with fail
                  go_ret2
                  exact mguP_3 HB6.out
                · have hsi : ¬ (4000 : Int) < (Y.size : Int) := by omega
                  have HRN := Lib.hid (HP.out.eli HO.out hs)
                  have HM := Lib.hid (HP.out.ms HO.out)
                  have z6' : xb + 2 ≤ w6.heap.size := by omega
                  have hown7 : eqE.Own (fun b => b ≠ g) (eb + 1) w6 (.slice av l.length ac) ((l.take 0).map (subP x Y) ++ l.drop 0) := by
                    rw [List.take_zero, List.map_nil, List.nil_append, List.drop_zero]
                    exact own_mono (p := fun b => b < eb ∧ b ≠ g) (St.owns S6 eqE 1 rfl) (fun b h => h.2)
                  have S7 := (S6.pick [0, 2, 3, 4]).add (.owns eqE (eb + 1) (fun b => b ≠ g) (.slice av l.length ac) ((l.take 0).map (subP x Y) ++ l.drop 0)) hown7
                  change St w w6 [.rset (fun b => b < eb ∧ b ≠ g) g g N (bnd σ), .box xb #[.int .i64 X.head, .slice kx X.kids.length (X.kids.length + sx)] 38, .box (xb + 1) #[.int .i64 Y.head, .slice ky Y.kids.length (Y.kids.length + sy)] 38, .treeP (fun b => b < eb ∧ b ≠ g) (.agg #[.int .i64 Y.head, .slice ky Y.kids.length (Y.kids.length + sy)]) Y, .owns eqE (eb + 1) (fun b => b ≠ g) (.slice av l.length ac) ((l.take 0).map (subP x Y) ++ l.drop 0)] at S7
                  clear S6 hs hoi hown7
                  go_wp2_with fail
                  go_loopw [16] (fun i wr => ∃ k : Nat, k ≤ l.length ∧ i = .int .i64 k ∧ xb + 2 ≤ wr.heap.size ∧ St w wr [.rset (fun b => b < eb ∧ b ≠ g) g g N (bnd σ), .box xb #[.int .i64 X.head, .slice kx X.kids.length (X.kids.length + sx)] 38, .box (xb + 1) #[.int .i64 Y.head, .slice ky Y.kids.length (Y.kids.length + sy)] 38, .treeP (fun b => b < eb ∧ b ≠ g) (.agg #[.int .i64 Y.head, .slice ky Y.kids.length (Y.kids.length + sy)]) Y, .owns eqE (eb + 1) (fun b => b ≠ g) (.slice av l.length ac) ((l.take k).map (subP x Y) ++ l.drop k)]) (fun i _ => l.length - (intOf i).toNat)
                  case atStart => exact ⟨0, by omega, rfl, z6', S7⟩
                  case round =>
                    clear S7
                    obtain ⟨k, hk, rfl, zr2, S⟩ := hrel
                    by_cases hlt : k < l.length
                    · as_aux_lemma =>
                      have hlti : (k : Int) < (l.length : Int) := by omega
                      obtain ⟨gl, rfl, _, _, hgl3⟩ := own_addr (St.owns S eqE 4 rfl) (fun h => by have h2 := congrArg List.length h; rw [← list_len, List.length_nil] at h2; omega)
                      have HGL := Lib.hid (show gl ≠ g ∧ eb + 1 ≤ gl ∧ gl < xb by have := HAV.out gl rfl; omega)
                      obtain ⟨P, R, hPR⟩ : ∃ P R, l[k] = (P, R) := ⟨_, _, rfl⟩
                      have hat := list_at (subP x Y) l k hlt
                      rw [hPR] at hat
                      have HAT := Lib.hid hat
                      have HTT := HP.out.tms k (P, R) (by rw [List.getElem?_eq_getElem hlt, hPR])
                      have HPI := Lib.hid (outT_inst (t := Y) HP.out.hX P HTT.1.lv)
                      have HRI := Lib.hid (outT_inst (t := Y) HP.out.hX R HTT.2.lv)
                      have HTHP := Lib.hid (show P.thin from fun z hz => by have := HTT.1.kids3 H40.out z hz; omega)
                      have HTHR := Lib.hid (show R.thin from fun z hz => by have := HTT.2.kids3 H40.out z hz; omega)
                      have HLP := Lib.hid (list_put' (subP x Y) l k hlt hPR)
                      clear HTT hPR hat
                      obtain ⟨kp, spp, kr, spr, ⟨e0, e1, e2, e3⟩, _, tp, tr⟩ := own_pair (St.owns S eqE 4 rfl) HAT.out
                      dsimp only at e0 e1 e2 e3
                      obtain ⟨⟨u0, _⟩, u1, _⟩ := S.two 1
                      obtain ⟨⟨v0, _⟩, v1, _⟩ := S.two 2
                      have HTPd := Lib.hid ((TreeP.kept (Below.refl _ wr).drew tp).mono (q := fun b => (b ≠ g ∧ b ≠ gl) ∧ b < wr.heap.size) (fun b h h2 => ⟨h, h2⟩))
                      have HYd := Lib.hid ((TreeP.kept (Below.refl _ wr).drew (St.treeP S 3 rfl)).mono (q := fun b => (b ≠ g ∧ b ≠ gl) ∧ b < wr.heap.size) (fun b h h2 => ⟨⟨h.2, by have := HGL.out; have := h.1; omega⟩, h2⟩))
                      have SD : St w wr.drew [.rset (fun b => b < eb ∧ b ≠ g) g g N (bnd σ), .box xb #[.int .i64 X.head, .slice kx X.kids.length (X.kids.length + sx)] 38, .box (xb + 1) #[.int .i64 Y.head, .slice ky Y.kids.length (Y.kids.length + sy)] 38, .treeP (fun b => b < eb ∧ b ≠ g) (.agg #[.int .i64 Y.head, .slice ky Y.kids.length (Y.kids.length + sy)]) Y, .owns eqE (eb + 1) (fun b => b ≠ g) (.slice (some ⟨gl, 0, none⟩) l.length ac) ((l.take k).map (subP x Y) ++ l.drop k), .treeP (fun b => b ≠ g ∧ b ≠ gl) (.agg #[.int .i64 R.head, .slice kr R.kids.length (R.kids.length + spr)]) R] := S.drew.add (.treeP (fun b => b ≠ g ∧ b ≠ gl) (.agg #[.int .i64 R.head, .slice kr R.kids.length (R.kids.length + spr)]) R) (TreeP.kept (Below.refl _ wr).drew tr)
                      have FC := Lib.hid (fun W (hb : Below wr.heap.size wr W) => (⟨Below.cellOf hb e0, Below.cellOf hb e1, Below.cellOf hb e2, Below.cellOf hb e3, Below.cellOf hb u0, Below.cellOf hb v0, Below.cellOf hb v1⟩ : _ ∧ _ ∧ _ ∧ _ ∧ _ ∧ _ ∧ _))
                      clear tp tr S
                      go_wp2_with fail
                      clear e0 e1 e2 e3 u0 u1 v0 v1
                      refine wpH_region [22] (fun W => W.cell? ⟨gl, k * 4, none⟩ = some (.int .i64 P.head) ∧ W.cell? ⟨gl, k * 4 + 1, none⟩ = some (.slice kp P.kids.length (P.kids.length + spp)) ∧ W.cell? ⟨gl, k * 4 + 2, none⟩ = some (.int .i64 R.head) ∧ W.cell? ⟨gl, k * 4 + 3, none⟩ = some (.slice kr R.kids.length (R.kids.length + spr)) ∧ W.cell? ⟨xb, 0, none⟩ = some (.int .i64 X.head) ∧ W.cell? ⟨xb + 1, 0, none⟩ = some (.int .i64 Y.head) ∧ W.cell? ⟨xb + 1, 1, none⟩ = some (.slice ky Y.kids.length (Y.kids.length + sy))) (by kernel_rfl) ?_
                      have HS := FC.out _ (Below.refl _ wr).drew
                      refine wpH.take (i := 0) (by kernel_rfl) (by kernel_rfl) (by kernel_rfl) (by kernel_rfl) (by kernel_rfl) HS ?_
                      intro oi ho
                      simp only [List.getElem?_toArray, List.getElem?_cons_zero, Option.some.injEq] at ho
                      subst ho
                      refine ⟨?_, Or.inl ⟨by rfl, ?_⟩, fun _ _ _ h => h, ?_⟩
                      rotate_left 1
                      · intro W hW
                        try dsimp only at hW
                        go_simp
                        try with_reducible rfl
                      simp only [Act.put, List.setIfInBounds_toArray, List.set_cons_zero, List.set_cons_succ]
                      refine wpH.take (i := 1) (by kernel_rfl) (by kernel_rfl) (by kernel_rfl) (by kernel_rfl) (by kernel_rfl) HS ?_
                      intro oi ho
                      simp only [List.getElem?_toArray, List.getElem?_cons_succ, List.getElem?_cons_zero, Option.some.injEq] at ho
                      subst ho
                      refine ⟨?_, Or.inl ⟨by rfl, ?_⟩, fun _ _ _ h => h, ?_⟩
                      rotate_left 1
                      · intro W hW
                        try dsimp only at hW
                        go_simp
                        try with_reducible rfl
                      simp only [Act.put, List.setIfInBounds_toArray, List.set_cons_zero, List.set_cons_succ]
                      refine wpH.take (i := 2) (by kernel_rfl) (by kernel_rfl) (by kernel_rfl) (by kernel_rfl) (by kernel_rfl) HS ?_
                      intro oi ho
                      simp only [List.getElem?_toArray, List.getElem?_cons_succ, List.getElem?_cons_zero, Option.some.injEq] at ho
                      subst ho
                      refine ⟨?_, Or.inl ⟨by rfl, ?_⟩, fun _ _ _ h => h, ?_⟩
                      rotate_left 1
                      · intro W hW
                        try dsimp only at hW
                        go_simp
                        try with_reducible rfl
                      simp only [Act.put, List.setIfInBounds_toArray, List.set_cons_zero, List.set_cons_succ]
                      refine wpH.take (i := 3) (by kernel_rfl) (by kernel_rfl) (by kernel_rfl) (by kernel_rfl) (by kernel_rfl) HS ?_
                      intro oi ho
                      simp only [List.getElem?_toArray, List.getElem?_cons_succ, List.getElem?_cons_zero, Option.some.injEq] at ho
                      subst ho
                      refine ⟨?_, Or.inl ⟨by rfl, ?_⟩, fun _ _ _ h => h, ?_⟩
                      rotate_left 1
                      · intro W hW
                        try dsimp only at hW
                        go_simp
                        try with_reducible rfl
                      simp only [Act.put, List.setIfInBounds_toArray, List.set_cons_zero, List.set_cons_succ]
                      refine wpH.take (i := 4) (by kernel_rfl) (by kernel_rfl) (by kernel_rfl) (by kernel_rfl) (by kernel_rfl) HS ?_
                      intro oi ho
                      simp only [List.getElem?_toArray, List.getElem?_cons_succ, List.getElem?_cons_zero, Option.some.injEq] at ho
                      subst ho
                      refine ⟨?_, Or.inl ⟨by rfl, ?_⟩, fun _ _ _ h => h, ?_⟩
                      rotate_left 1
                      · intro W hW
                        try dsimp only at hW
                        go_simp
                        try with_reducible rfl
                      simp only [Act.put, List.setIfInBounds_toArray, List.set_cons_zero, List.set_cons_succ]
                      refine wpH.take (i := 5) (by kernel_rfl) (by kernel_rfl) (by kernel_rfl) (by kernel_rfl) (by kernel_rfl) HS ?_
                      intro oi ho
                      simp only [List.getElem?_toArray, List.getElem?_cons_succ, List.getElem?_cons_zero, Option.some.injEq] at ho
                      subst ho
                      refine ⟨?_, Or.inl ⟨by rfl, ?_⟩, fun _ _ _ h => h, ?_⟩
                      rotate_left 1
                      · intro W hW
                        try dsimp only at hW
                        go_simp
                        try with_reducible rfl
                      simp only [Act.put, List.setIfInBounds_toArray, List.set_cons_zero, List.set_cons_succ]
                      refine wpH.take (i := 6) (by kernel_rfl) (by kernel_rfl) (by kernel_rfl) (by kernel_rfl) (by kernel_rfl) HS ?_
                      intro oi ho
                      simp only [List.getElem?_toArray, List.getElem?_cons_succ, List.getElem?_cons_zero, Option.some.injEq] at ho
                      subst ho
                      refine ⟨?_, Or.inl ⟨by rfl, ?_⟩, fun _ _ _ h => h, ?_⟩
                      rotate_left 1
                      · intro W hW
                        try dsimp only at hW
                        go_simp
                        try with_reducible rfl
                      simp only [Act.put, List.setIfInBounds_toArray, List.set_cons_zero, List.set_cons_succ]
                      refine wpH.take (i := 7) (by kernel_rfl) (by kernel_rfl) (by kernel_rfl) (by kernel_rfl) (by kernel_rfl) HS ?_
                      intro oi ho
                      simp only [List.getElem?_toArray, List.getElem?_cons_succ, List.getElem?_cons_zero, Option.some.injEq] at ho
                      subst ho
                      refine ⟨?_, Or.inl ⟨by rfl, ?_⟩, fun _ _ _ h => h, ?_⟩
                      rotate_left 1
                      · intro W hW
                        try dsimp only at hW
                        go_simp
                        try with_reducible rfl
                      simp only [Act.put, List.setIfInBounds_toArray, List.set_cons_zero, List.set_cons_succ]
                      refine wpH.take (i := 8) (by kernel_rfl) (by kernel_rfl) (by kernel_rfl) (by kernel_rfl) (by kernel_rfl) HS ?_
                      intro oi ho
                      simp only [List.getElem?_toArray, List.getElem?_cons_succ, List.getElem?_cons_zero, Option.some.injEq] at ho
                      subst ho
                      refine ⟨?_, Or.inl ⟨by rfl, ?_⟩, fun _ _ _ h => h, ?_⟩
                      rotate_left 1
                      · intro W hW
                        try dsimp only at hW
                        go_simp
                        try with_reducible rfl
                      simp only [Act.put, List.setIfInBounds_toArray, List.set_cons_zero, List.set_cons_succ]
                      refine wpH.take (i := 9) (by kernel_rfl) (by kernel_rfl) (by kernel_rfl) (by kernel_rfl) (by kernel_rfl) HS ?_
                      intro oi ho
                      simp only [List.getElem?_toArray, List.getElem?_cons_succ, List.getElem?_cons_zero, Option.some.injEq] at ho
                      subst ho
                      refine ⟨?_, Or.inl ⟨by rfl, ?_⟩, fun _ _ _ h => h, ?_⟩
                      rotate_left 1
                      · intro W hW
                        try dsimp only at hW
                        go_simp
                        try with_reducible rfl
                      simp only [Act.put, List.setIfInBounds_toArray, List.set_cons_zero, List.set_cons_succ]
                      refine wpH.take (i := 11) (by kernel_rfl) (by kernel_rfl) (by kernel_rfl) (by kernel_rfl) (by kernel_rfl) HS ?_
                      intro oi ho
                      simp only [List.getElem?_toArray, List.getElem?_cons_succ, List.getElem?_cons_zero, Option.some.injEq] at ho
                      subst ho
                      refine ⟨?_, Or.inl ⟨by rfl, ?_⟩, fun _ _ _ h => h, ?_⟩
                      rotate_left 1
                      · intro W hW
                        try dsimp only at hW
                        go_simp
                        try with_reducible rfl
                      simp only [Act.put, List.setIfInBounds_toArray, List.set_cons_zero, List.set_cons_succ]
                      refine wpH.take (i := 12) (by kernel_rfl) (by kernel_rfl) (by kernel_rfl) (by kernel_rfl) (by kernel_rfl) HS ?_
                      intro oi ho
                      simp only [List.getElem?_toArray, List.getElem?_cons_succ, List.getElem?_cons_zero, Option.some.injEq] at ho
                      subst ho
                      refine ⟨?_, Or.inl ⟨by rfl, ?_⟩, fun _ _ _ h => h, ?_⟩
                      rotate_left 1
                      · intro W hW
                        try dsimp only at hW
                        go_simp
                        try with_reducible rfl
                      simp only [Act.put, List.setIfInBounds_toArray, List.set_cons_zero, List.set_cons_succ]
                      refine wpH.take (i := 13) (by kernel_rfl) (by kernel_rfl) (by kernel_rfl) (by kernel_rfl) (by kernel_rfl) HS ?_
                      intro oi ho
                      simp only [List.getElem?_toArray, List.getElem?_cons_succ, List.getElem?_cons_zero, Option.some.injEq] at ho
                      subst ho
                      refine ⟨?_, Or.inl ⟨by rfl, ?_⟩, fun _ _ _ h => h, ?_⟩
                      rotate_left 1
                      · intro W hW
                        try dsimp only at hW
                        go_simp
                        try with_reducible rfl
                      simp only [Act.put, List.setIfInBounds_toArray, List.set_cons_zero, List.set_cons_succ]
                      refine wpH.take (i := 14) (by kernel_rfl) (by kernel_rfl) (by kernel_rfl) (by kernel_rfl) (by kernel_rfl) HS ?_
                      intro oi ho
                      simp only [List.getElem?_toArray, List.getElem?_cons_succ, List.getElem?_cons_zero, Option.some.injEq] at ho
                      subst ho
                      refine ⟨?_, Or.inl ⟨by rfl, ?_⟩, fun _ _ _ h => h, ?_⟩
                      rotate_left 1
                      · intro W hW
                        try dsimp only at hW
                        go_simp
                        try with_reducible rfl
                      simp only [Act.put, List.setIfInBounds_toArray, List.set_cons_zero, List.set_cons_succ]
                      refine wpH.take (i := 15) (by kernel_rfl) (by kernel_rfl) (by kernel_rfl) (by kernel_rfl) (by kernel_rfl) HS ?_
                      intro oi ho
                      simp only [List.getElem?_toArray, List.getElem?_cons_succ, List.getElem?_cons_zero, Option.some.injEq] at ho
                      subst ho
                      refine ⟨?_, Or.inl ⟨by rfl, ?_⟩, fun _ _ _ h => h, ?_⟩
                      rotate_left 1
                      · intro W hW
                        try dsimp only at hW
                        go_simp
                        try with_reducible rfl
                      simp only [Act.put, List.setIfInBounds_toArray, List.set_cons_zero, List.set_cons_succ]
                      refine wpH.take (i := 16) (by kernel_rfl) (by kernel_rfl) (by kernel_rfl) (by kernel_rfl) (by kernel_rfl) HS ?_
                      intro oi ho
                      simp only [List.getElem?_toArray, List.getElem?_cons_succ, List.getElem?_cons_zero, Option.some.injEq] at ho
                      subst ho
                      refine ⟨?_, Or.inl ⟨by rfl, ?_⟩, fun _ _ _ h => h, ?_⟩
                      rotate_left 1
                      · intro W hW
                        try dsimp only at hW
                        go_simp
                        try with_reducible rfl
                      simp only [Act.put, List.setIfInBounds_toArray, List.set_cons_zero, List.set_cons_succ]
                      refine wpH.take (i := 17) (by kernel_rfl) (by kernel_rfl) (by kernel_rfl) (by kernel_rfl) (by kernel_rfl) HS ?_
                      intro oi ho
                      simp only [List.getElem?_toArray, List.getElem?_cons_succ, List.getElem?_cons_zero, Option.some.injEq] at ho
                      subst ho
                      refine ⟨?_, Or.inl ⟨by rfl, ?_⟩, fun _ _ _ h => h, ?_⟩
                      rotate_left 1
                      · intro W hW
                        try dsimp only at hW
                        go_simp
                        try with_reducible rfl
                      simp only [Act.put, List.setIfInBounds_toArray, List.set_cons_zero, List.set_cons_succ]
                      refine wpH.take (i := 18) (by kernel_rfl) (by kernel_rfl) (by kernel_rfl) (by kernel_rfl) (by kernel_rfl) HS ?_
                      intro oi ho
                      simp only [List.getElem?_toArray, List.getElem?_cons_succ, List.getElem?_cons_zero, Option.some.injEq] at ho
                      subst ho
                      refine ⟨?_, Or.inl ⟨by rfl, ?_⟩, fun _ _ _ h => h, ?_⟩
                      rotate_left 1
                      · intro W hW
                        try dsimp only at hW
                        go_simp
                        try with_reducible rfl
                      simp only [Act.put, List.setIfInBounds_toArray, List.set_cons_zero, List.set_cons_succ]
                      refine wpH.one (i := 10) (by kernel_rfl) ?_
                      intro oi ho
                      simp only [List.getElem?_toArray, List.getElem?_cons_succ, List.getElem?_cons_zero, Option.some.injEq] at ho
                      subst ho
                      intro K hK
                      have HK := Lib.hid hK
                      have HSH := Lib.hid HS
                      clear hK HS
                      go_simp
                      go_at_call 86
                      refine (out86 X.head Y (fun b => (b ≠ g ∧ b ≠ gl) ∧ b < wr.drew.heap.size) P _ _ wr.drew (fun b h => h.2) HTPd.out HYd.out HTHP.out).mono ?_
                      rintro e w7 ⟨u1, rfl, hu, hb⟩
                      obtain ⟨k1, s1, rfl⟩ := hu.at.form
                      have S8a := (SD.step hb).add (.treeP (fun b => b ≠ g ∧ b ≠ gl) (.agg #[.int .i64 (outT X.head Y P).head, .slice k1 (outT X.head Y P).kids.length ((outT X.head Y P).kids.length + s1)]) (outT X.head Y P)) (hu.mono (fun b h _ => by rcases h with h | h; exact h.1; have h8 := HGL.out; have h9 : wr.heap.size ≤ b := h; exact ⟨by omega, by omega⟩))
                      have HB7 := Lib.hid (Below.step (Below.refl _ wr).drew hb)
                      have w7z : wr.heap.size ≤ w7.heap.size := hb.size
                      clear hu hb
                      dsimp only
                      refine HK.out _ _ (fun _ => FC.out _ HB7.out) ?_
                      have HS := FC.out _ HB7.out
                      try simp only [Act.put, List.setIfInBounds_toArray, List.set_cons_zero, List.set_cons_succ]
                      refine wpH.one (i := 19) (by kernel_rfl) ?_
                      intro oi ho
                      simp only [List.getElem?_toArray, List.getElem?_cons_succ, List.getElem?_cons_zero, Option.some.injEq] at ho
                      subst ho
                      intro K hK
                      have HK := Lib.hid hK
                      have HSH := Lib.hid HS
                      clear hK HS
                      go_simp
                      go_at_call 86
                      refine (out86 X.head Y (fun b => (b ≠ g ∧ b ≠ gl) ∧ b < w7.heap.size) R _ _ w7 (fun b h => h.2) ((St.treeP S8a 5 (p := fun b => b ≠ g ∧ b ≠ gl) rfl).mono (q := fun b => (b ≠ g ∧ b ≠ gl) ∧ b < w7.heap.size) (fun b h h2 => ⟨h, h2⟩)) ((St.treeP S8a 3 (p := fun b => b < eb ∧ b ≠ g) rfl).mono (q := fun b => (b ≠ g ∧ b ≠ gl) ∧ b < w7.heap.size) (fun b h h2 => ⟨⟨h.2, by have := HGL.out; have := h.1; omega⟩, h2⟩)) HTHR.out).mono ?_
                      rintro e w8 ⟨u2, rfl, hu, hb⟩
                      obtain ⟨k2, s2, rfl⟩ := hu.at.form
                      have S8b := (S8a.step hb).add (.treeP (fun b => b ≠ g ∧ b ≠ gl) (.agg #[.int .i64 (outT X.head Y R).head, .slice k2 (outT X.head Y R).kids.length ((outT X.head Y R).kids.length + s2)]) (outT X.head Y R)) (hu.mono (fun b h _ => by rcases h with h | h; exact h.1; have h8 := HGL.out; have h9 : w7.heap.size ≤ b := h; exact ⟨by omega, by omega⟩))
                      have HB8 := Lib.hid (Below.step HB7.out hb)
                      have w8z : w7.heap.size ≤ w8.heap.size := hb.size
                      clear hu hb
                      dsimp only
                      refine HK.out _ _ (fun _ => FC.out _ HB8.out) ?_
                      have HS := FC.out _ HB8.out
                      try simp only [Act.put, List.setIfInBounds_toArray, List.set_cons_zero, List.set_cons_succ]
                      refine wpH.take (i := 20) (by kernel_rfl) (by kernel_rfl) (by kernel_rfl) (by kernel_rfl) (by kernel_rfl) HS ?_
                      intro oi ho
                      simp only [List.getElem?_toArray, List.getElem?_cons_succ, List.getElem?_cons_zero, Option.some.injEq] at ho
                      subst ho
                      refine ⟨?_, Or.inl ⟨by rfl, ?_⟩, fun _ _ _ h => h, ?_⟩
                      rotate_left 1
                      · intro W hW
                        try dsimp only at hW
                        go_simp
                        try with_reducible rfl
                      simp only [Act.put, List.setIfInBounds_toArray, List.set_cons_zero, List.set_cons_succ]
                      refine wpH.take (i := 21) (by kernel_rfl) (by kernel_rfl) (by kernel_rfl) (by kernel_rfl) (by kernel_rfl) HS ?_
                      intro oi ho
                      simp only [List.getElem?_toArray, List.getElem?_cons_succ, List.getElem?_cons_zero, Option.some.injEq] at ho
                      subst ho
                      refine ⟨?_, Or.inl ⟨by rfl, ?_⟩, fun _ _ _ h => h, ?_⟩
                      rotate_left 1
                      · intro W hW
                        try dsimp only at hW
                        go_simp
                        try with_reducible rfl
                      simp only [Act.put, List.setIfInBounds_toArray, List.set_cons_zero, List.set_cons_succ]
                      refine wpH.one (i := 22) (by kernel_rfl) ?_
                      intro oi ho
                      simp only [List.getElem?_toArray, List.getElem?_cons_succ, List.getElem?_cons_zero, Option.some.injEq] at ho
                      subst ho
                      intro K hK
                      have HK := Lib.hid hK
                      have HSH := Lib.hid HS
                      clear hK HS
                      obtain ⟨_, _, _, _, ⟨e0, e1, e2, e3⟩, ⟨f0, f1, f2, f3⟩, _, _⟩ := own_pair (St.owns S8b eqE 4 rfl) HAT.out
                      have hgl8 : gl < w8.heap.size := by have := HGL.out; omega
                      go_simp
                      refine HK.out _ _ (fun h => absurd h (by decide)) ?_
                      clear e0 e1 e2 e3 f0 f1 f2 f3
                      have HS := trivial
                      try simp only [Act.put, List.setIfInBounds_toArray, List.set_cons_zero, List.set_cons_succ]
                      refine wpH.done (by kernel_rfl) ?_
                      have hput := S8b.pset' 4 rfl (list_len (subP x Y) l k) (j := k) (by rw [← list_len]; exact hlt) (f := (outT X.head Y P, outT X.head Y R)) (St.treeP S8b 6 rfl) (St.treeP S8b 7 rfl) (by have := HW0.out; have := HGL.out; omega) (by
                        have h9 := HGL.out
                        simp only [fsnoc, offs, offAll, Fct.rset, Fct.box, Fct.treeP, and_true]
                        refine ⟨by omega, by omega, by omega, by omega, fun h => h.2 rfl, fun h => h.2 rfl, fun h => h.2 rfl⟩)
                      rw [HPI.out, HRI.out, HLP.out, ← HPI.out, ← HRI.out] at hput
                      have S9 := Lib.hid (hput.pick [0, 1, 2, 3, 4])
                      clear hput S8b SD
                      go_wp2_with fail
                      go_roundw
                      case rel => exact ⟨k + 1, by omega, by go_num, by simp; omega, S9.out⟩
                      case measure => simp [intOf] <;> omega
                    · as_aux_lemma =>
                      obtain rfl : k = l.length := by omega
                      rw [List.take_length, List.drop_length, List.append_nil] at S
                      obtain ⟨σ', hσ'⟩ : ∃ s : Nat → T, s = fun y => (σ y).inst (upd x Y) := ⟨_, rfl⟩
                      have HBN := Lib.hid (HP.out.go.bnd' HP.out.ne HLVS.out HLOW.out hσ')
                      rw [← hσ'] at HRN HM
                      have S1 : St w wr [.rset (fun b => b ≠ g) g g N (bsK σ σ' x 0), .box xb #[.int .i64 X.head, .slice kx X.kids.length (X.kids.length + sx)] 38, .box (xb + 1) #[.int .i64 Y.head, .slice ky Y.kids.length (Y.kids.length + sy)] 38, .treeP (fun b => b < eb ∧ b ≠ g) (.agg #[.int .i64 Y.head, .slice ky Y.kids.length (Y.kids.length + sy)]) Y, .owns eqE (eb + 1) (fun b => b ≠ g) (.slice av l.length ac) (l.map (subP x Y))] := by rw [bsK_zero]; exact S.rmono (p' := fun b => b ≠ g) (fun b h _ => h.2)
                      have HSG := Lib.hid hσ'
                      have hN0 := hN
                      clear S hσ'
                      go_wp2_with fail
                      go_loopw [17] (fun i wr => ∃ k : Nat, k ≤ N ∧ i = .int .i64 k ∧ xb + 2 ≤ wr.heap.size ∧ St w wr [.rset (fun b => b ≠ g) g g N (bsK σ σ' x k), .box xb #[.int .i64 X.head, .slice kx X.kids.length (X.kids.length + sx)] 38, .box (xb + 1) #[.int .i64 Y.head, .slice ky Y.kids.length (Y.kids.length + sy)] 38, .treeP (fun b => b < eb ∧ b ≠ g) (.agg #[.int .i64 Y.head, .slice ky Y.kids.length (Y.kids.length + sy)]) Y, .owns eqE (eb + 1) (fun b => b ≠ g) (.slice av l.length ac) (l.map (subP x Y))]) (fun i _ => N - (intOf i).toNat)
                      case atStart => exact ⟨0, by omega, rfl, zr2, S1⟩
                      case round =>
                        clear S1 zr2
                        obtain ⟨k, hk, rfl, zr2, S⟩ := hrel
                        by_cases hlt : k < N
                        · have hlti : (k : Int) < (N : Int) := by omega
                          obtain ⟨kq, sq, q0, q1, _, _, qt⟩ := (S.rset 0).get hlt
                          rw [bsK_at] at q0 q1 qt
                          obtain ⟨Z, hZ⟩ : ∃ Z, Z = bnd σ k := ⟨_, rfl⟩
                          rw [← hZ] at q0 q1 qt
                          have HZE := Lib.hid hZ
                          clear hZ
                          by_cases hz : Z.head = 0
                          · as_aux_lemma =>
                            have hzb : (Z.head != 0) = false := by simp [hz]
                            have HSK := Lib.hid (bsK_skip (σ := σ) (σ' := σ') (x := x) (k := k) (by
                              by_cases e : k = x
                              · exact .inl e
                              · right
                                refine (HBN.out k).2.1 e (Classical.byContradiction fun h => ?_)
                                have h1 := ((HBN.out k).2.2 e h).1
                                rcases HSTM.out k with h2 | h2
                                · exact h h2
                                · exact h2.2.1.nz HZ.out (by rw [← h1, ← HZE.out]; exact hz)))
                            clear hz
                            go_wp2_with fail
                            go_roundw
                            case rel => exact ⟨k + 1, by omega, by go_num, zr2, by rw [HSK.out]; exact S⟩
                            case measure => simp [intOf] <;> omega
                          · as_aux_lemma =>
                            have hzb : (Z.head != 0) = true := by simp [hz]
                            have hkx : k ≠ x := fun e => hz (by rw [HZE.out, ((HBN.out k).1 e).1]; rfl)
                            have hsk : σ k ≠ vT k := fun e => hz (by rw [HZE.out]; unfold bnd; rw [if_pos e]; rfl)
                            obtain ⟨hb1, hb2⟩ := (HBN.out k).2.2 hkx hsk
                            have HTZ : Tm N (A.pre ++ B.pre) σ Z := by
                              rw [HZE.out, hb1]
                              rcases HSTM.out k with h2 | h2
                              · exact absurd h2 hsk
                              · exact h2.2.1
                            have HOI := Lib.hid (show outT X.head Y Z = bnd σ' k by rw [outT_inst (t := Y) HP.out.hX Z HTZ.lv, hb2, HZE.out, hb1])
                            have HTHZ := Lib.hid (show Z.thin from fun z hz => by have := HTZ.kids3 H40.out z hz; omega)
                            have HPUT := Lib.hid (bsK_put (σ := σ) (σ' := σ') hkx)
                            clear hz hkx hsk hb1 hb2 HTZ
                            obtain ⟨⟨u0, _⟩, u1, _⟩ := S.two 1
                            obtain ⟨⟨v0, _⟩, v1, _⟩ := S.two 2
                            have HGG := Lib.hid (show g < eb ∧ eb + 1 ≤ xb from ⟨zr, HXB.out⟩)
                            have HZd := Lib.hid ((TreeP.kept (Below.refl _ wr).drew qt).mono (q := fun b => b ≠ g ∧ b < wr.heap.size) (fun b h h2 => ⟨h.2, h2⟩))
                            have HYd := Lib.hid ((TreeP.kept (Below.refl _ wr).drew (St.treeP S 3 rfl)).mono (q := fun b => b ≠ g ∧ b < wr.heap.size) (fun b h h2 => ⟨h.2, h2⟩))
                            have SD : St w wr.drew [.rset (fun b => b ≠ g) g g N (bsK σ σ' x k), .box xb #[.int .i64 X.head, .slice kx X.kids.length (X.kids.length + sx)] 38, .box (xb + 1) #[.int .i64 Y.head, .slice ky Y.kids.length (Y.kids.length + sy)] 38, .treeP (fun b => b < eb ∧ b ≠ g) (.agg #[.int .i64 Y.head, .slice ky Y.kids.length (Y.kids.length + sy)]) Y, .owns eqE (eb + 1) (fun b => b ≠ g) (.slice av l.length ac) (l.map (subP x Y))] := S.drew
                            have FC := Lib.hid (fun W (hb : Below wr.heap.size wr W) => (⟨Below.cellOf hb q0, Below.cellOf hb q1, Below.cellOf hb u0, Below.cellOf hb v0, Below.cellOf hb v1⟩ : _ ∧ _ ∧ _ ∧ _ ∧ _))
                            clear S
                            go_wp2_with fail
                            clear q0 q1 u0 u1 v0 v1 qt
                            refine wpH_region [11] (fun W => W.cell? ⟨g, k * 2, none⟩ = some (.int .i64 Z.head) ∧ W.cell? ⟨g, k * 2 + 1, none⟩ = some (.slice kq Z.kids.length (Z.kids.length + sq)) ∧ W.cell? ⟨xb, 0, none⟩ = some (.int .i64 X.head) ∧ W.cell? ⟨xb + 1, 0, none⟩ = some (.int .i64 Y.head) ∧ W.cell? ⟨xb + 1, 1, none⟩ = some (.slice ky Y.kids.length (Y.kids.length + sy))) (by kernel_rfl) ?_
                            have HS := FC.out _ (Below.refl _ wr).drew
                            refine wpH.take (i := 0) (by kernel_rfl) (by kernel_rfl) (by kernel_rfl) (by kernel_rfl) (by kernel_rfl) HS ?_
                            intro oi ho
                            simp only [List.getElem?_toArray, List.getElem?_cons_zero, Option.some.injEq] at ho
                            subst ho
                            refine ⟨?_, Or.inl ⟨by rfl, ?_⟩, fun _ _ _ h => h, ?_⟩
                            rotate_left 1
                            · intro W hW
                              try dsimp only at hW
                              go_simp
                              try with_reducible rfl
                            simp only [Act.put, List.setIfInBounds_toArray, List.set_cons_zero, List.set_cons_succ]
                            refine wpH.take (i := 1) (by kernel_rfl) (by kernel_rfl) (by kernel_rfl) (by kernel_rfl) (by kernel_rfl) HS ?_
                            intro oi ho
                            simp only [List.getElem?_toArray, List.getElem?_cons_succ, List.getElem?_cons_zero, Option.some.injEq] at ho
                            subst ho
                            refine ⟨?_, Or.inl ⟨by rfl, ?_⟩, fun _ _ _ h => h, ?_⟩
                            rotate_left 1
                            · intro W hW
                              try dsimp only at hW
                              go_simp
                              try with_reducible rfl
                            simp only [Act.put, List.setIfInBounds_toArray, List.set_cons_zero, List.set_cons_succ]
                            refine wpH.take (i := 2) (by kernel_rfl) (by kernel_rfl) (by kernel_rfl) (by kernel_rfl) (by kernel_rfl) HS ?_
                            intro oi ho
                            simp only [List.getElem?_toArray, List.getElem?_cons_succ, List.getElem?_cons_zero, Option.some.injEq] at ho
                            subst ho
                            refine ⟨?_, Or.inl ⟨by rfl, ?_⟩, fun _ _ _ h => h, ?_⟩
                            rotate_left 1
                            · intro W hW
                              try dsimp only at hW
                              go_simp
                              try with_reducible rfl
                            simp only [Act.put, List.setIfInBounds_toArray, List.set_cons_zero, List.set_cons_succ]
                            refine wpH.take (i := 3) (by kernel_rfl) (by kernel_rfl) (by kernel_rfl) (by kernel_rfl) (by kernel_rfl) HS ?_
                            intro oi ho
                            simp only [List.getElem?_toArray, List.getElem?_cons_succ, List.getElem?_cons_zero, Option.some.injEq] at ho
                            subst ho
                            refine ⟨?_, Or.inl ⟨by rfl, ?_⟩, fun _ _ _ h => h, ?_⟩
                            rotate_left 1
                            · intro W hW
                              try dsimp only at hW
                              go_simp
                              try with_reducible rfl
                            simp only [Act.put, List.setIfInBounds_toArray, List.set_cons_zero, List.set_cons_succ]
                            refine wpH.take (i := 4) (by kernel_rfl) (by kernel_rfl) (by kernel_rfl) (by kernel_rfl) (by kernel_rfl) HS ?_
                            intro oi ho
                            simp only [List.getElem?_toArray, List.getElem?_cons_succ, List.getElem?_cons_zero, Option.some.injEq] at ho
                            subst ho
                            refine ⟨?_, Or.inl ⟨by rfl, ?_⟩, fun _ _ _ h => h, ?_⟩
                            rotate_left 1
                            · intro W hW
                              try dsimp only at hW
                              go_simp
                              try with_reducible rfl
                            simp only [Act.put, List.setIfInBounds_toArray, List.set_cons_zero, List.set_cons_succ]
                            refine wpH.take (i := 5) (by kernel_rfl) (by kernel_rfl) (by kernel_rfl) (by kernel_rfl) (by kernel_rfl) HS ?_
                            intro oi ho
                            simp only [List.getElem?_toArray, List.getElem?_cons_succ, List.getElem?_cons_zero, Option.some.injEq] at ho
                            subst ho
                            refine ⟨?_, Or.inl ⟨by rfl, ?_⟩, fun _ _ _ h => h, ?_⟩
                            rotate_left 1
                            · intro W hW
                              try dsimp only at hW
                              go_simp
                              try with_reducible rfl
                            simp only [Act.put, List.setIfInBounds_toArray, List.set_cons_zero, List.set_cons_succ]
                            refine wpH.take (i := 6) (by kernel_rfl) (by kernel_rfl) (by kernel_rfl) (by kernel_rfl) (by kernel_rfl) HS ?_
                            intro oi ho
                            simp only [List.getElem?_toArray, List.getElem?_cons_succ, List.getElem?_cons_zero, Option.some.injEq] at ho
                            subst ho
                            refine ⟨?_, Or.inl ⟨by rfl, ?_⟩, fun _ _ _ h => h, ?_⟩
                            rotate_left 1
                            · intro W hW
                              try dsimp only at hW
                              go_simp
                              try with_reducible rfl
                            simp only [Act.put, List.setIfInBounds_toArray, List.set_cons_zero, List.set_cons_succ]
                            refine wpH.take (i := 7) (by kernel_rfl) (by kernel_rfl) (by kernel_rfl) (by kernel_rfl) (by kernel_rfl) HS ?_
                            intro oi ho
                            simp only [List.getElem?_toArray, List.getElem?_cons_succ, List.getElem?_cons_zero, Option.some.injEq] at ho
                            subst ho
                            refine ⟨?_, Or.inl ⟨by rfl, ?_⟩, fun _ _ _ h => h, ?_⟩
                            rotate_left 1
                            · intro W hW
                              try dsimp only at hW
                              go_simp
                              try with_reducible rfl
                            simp only [Act.put, List.setIfInBounds_toArray, List.set_cons_zero, List.set_cons_succ]
                            refine wpH.take (i := 8) (by kernel_rfl) (by kernel_rfl) (by kernel_rfl) (by kernel_rfl) (by kernel_rfl) HS ?_
                            intro oi ho
                            simp only [List.getElem?_toArray, List.getElem?_cons_succ, List.getElem?_cons_zero, Option.some.injEq] at ho
                            subst ho
                            refine ⟨?_, Or.inl ⟨by rfl, ?_⟩, fun _ _ _ h => h, ?_⟩
                            rotate_left 1
                            · intro W hW
                              try dsimp only at hW
                              go_simp
                              try with_reducible rfl
                            simp only [Act.put, List.setIfInBounds_toArray, List.set_cons_zero, List.set_cons_succ]
                            refine wpH.one (i := 9) (by kernel_rfl) ?_
                            intro oi ho
                            simp only [List.getElem?_toArray, List.getElem?_cons_succ, List.getElem?_cons_zero, Option.some.injEq] at ho
                            subst ho
                            intro K hK
                            have HK := Lib.hid hK
                            have HSH := Lib.hid HS
                            clear hK HS
                            go_simp
                            go_at_call 86
                            refine (out86 X.head Y (fun b => b ≠ g ∧ b < wr.drew.heap.size) Z _ _ wr.drew (fun b h => h.2) HZd.out HYd.out HTHZ.out).mono ?_
                            rintro e w7 ⟨u1, rfl, hu, hb⟩
                            obtain ⟨k1, s1, rfl⟩ := hu.at.form
                            have S8a := (SD.step hb).add (.treeP (fun b => b ≠ g) (.agg #[.int .i64 (outT X.head Y Z).head, .slice k1 (outT X.head Y Z).kids.length ((outT X.head Y Z).kids.length + s1)]) (outT X.head Y Z)) (hu.mono (fun b h _ => by rcases h with h | h; exact h.1; have h8 := HGG.out; have h9 : wr.heap.size ≤ b := h; show b ≠ g; omega))
                            have HB7 := Lib.hid (Below.step (Below.refl _ wr).drew hb)
                            have w7z : wr.heap.size ≤ w7.heap.size := hb.size
                            clear hu hb
                            dsimp only
                            refine HK.out _ _ (fun _ => FC.out _ HB7.out) ?_
                            have HS := FC.out _ HB7.out
                            try simp only [Act.put, List.setIfInBounds_toArray, List.set_cons_zero, List.set_cons_succ]
                            refine wpH.take (i := 10) (by kernel_rfl) (by kernel_rfl) (by kernel_rfl) (by kernel_rfl) (by kernel_rfl) HS ?_
                            intro oi ho
                            simp only [List.getElem?_toArray, List.getElem?_cons_succ, List.getElem?_cons_zero, Option.some.injEq] at ho
                            subst ho
                            refine ⟨?_, Or.inl ⟨by rfl, ?_⟩, fun _ _ _ h => h, ?_⟩
                            rotate_left 1
                            · intro W hW
                              try dsimp only at hW
                              go_simp
                              try with_reducible rfl
                            simp only [Act.put, List.setIfInBounds_toArray, List.set_cons_zero, List.set_cons_succ]
                            refine wpH.one (i := 11) (by kernel_rfl) ?_
                            intro oi ho
                            simp only [List.getElem?_toArray, List.getElem?_cons_succ, List.getElem?_cons_zero, Option.some.injEq] at ho
                            subst ho
                            intro K hK
                            have HK := Lib.hid hK
                            have HSH := Lib.hid HS
                            clear hK HS
                            obtain ⟨_, _, e0, e1, f0, f1, _⟩ := (S8a.rset 0).get hlt
                            have hg7 : g < w7.heap.size := (S8a.rset 0).lt.2
                            go_simp
                            refine HK.out _ _ (fun h => absurd h (by decide)) ?_
                            clear e0 e1 f0 f1
                            have HS := trivial
                            try simp only [Act.put, List.setIfInBounds_toArray, List.set_cons_zero, List.set_cons_succ]
                            refine wpH.done (by kernel_rfl) ?_
                            have hput := (show St w w7 [.rset (fun b => b ≠ g) g g N (bsK σ σ' x k), .box xb #[.int .i64 X.head, .slice kx X.kids.length (X.kids.length + sx)] 38, .box (xb + 1) #[.int .i64 Y.head, .slice ky Y.kids.length (Y.kids.length + sy)] 38, .treeP (fun b => b < eb ∧ b ≠ g) (.agg #[.int .i64 Y.head, .slice ky Y.kids.length (Y.kids.length + sy)]) Y, .owns eqE (eb + 1) (fun b => b ≠ g) (.slice av l.length ac) (l.map (subP x Y))] from S8a.pick [0, 1, 2, 3, 4]).rput (p' := fun b => b ≠ g) hlt (St.treeP S8a 5 rfl) (fun b h => h) (fun h => h rfl) (by have := HW0.out; omega) (by
                              have h9 := HGG.out
                              simp only [offAll, Fct.box, Fct.treeP, Fct.owns, and_true]
                              refine ⟨by omega, by omega, by omega, fun e => ?_⟩
                              rcases e with e | e
                              · have := (HAV.out _ e).1; omega
                              · exact e rfl)
                            rw [show setT (bsK σ σ' x k) k (outT X.head Y Z) = bsK σ σ' x (k + 1) by rw [HOI.out]; exact HPUT.out] at hput
                            have S9 := Lib.hid hput
                            clear hput S8a SD
                            go_wp2_with fail
                            go_roundw
                            case rel => exact ⟨k + 1, by omega, by go_num, by simp; omega, S9.out⟩
                            case measure => simp [intOf] <;> omega
                        · as_aux_lemma =>
                          obtain rfl : k = N := by omega
                          have hxN := HP.out.go.x0
                          have hxNi : (x : Int) < (k : Int) := by omega
                          obtain ⟨kq, sq, q0, q1, f0, f1, _⟩ := (S.rset 0).get hxN
                          obtain ⟨⟨u0, _⟩, u1, _⟩ := S.two 1
                          obtain ⟨⟨v0, _⟩, v1, _⟩ := S.two 2
                          have hgl := (S.rset 0).lt.2
                          have hn1 : -X.head = (x : Int) + 1 := by have := HP.out.head; omega
                          have HGG := Lib.hid (show g < eb ∧ eb + 1 ≤ xb from ⟨zr, HXB.out⟩)
                          have hput := S.rput (p' := fun b => b ≠ g) hxN ((St.treeP S 3 rfl).mono (q := fun b => b ≠ g) (fun b h _ => h.2)) (fun b h => h) (fun h => h rfl) (by have := HW0.out; omega) (by
                            have h9 := HGG.out
                            simp only [offAll, Fct.box, Fct.treeP, Fct.owns, and_true]
                            refine ⟨by omega, by omega, by omega, fun e => ?_⟩
                            rcases e with e | e
                            · have := (HAV.out _ e).1; omega
                            · exact e rfl)
                          have hcg := (hput.rset 0).congr (ls := bnd σ') (fun i hi => by
                            unfold setT
                            by_cases e : i = x
                            · rw [if_pos e, ((HBN.out i).1 e).2]
                            · rw [if_neg e]; unfold bsK; rw [if_pos ⟨hi, e⟩])
                          obtain ⟨hro, hac⟩ := own_to_row (g := g) (p := fun b => b ≠ g) (St.owns hput eqE 4 rfl) (fun b h => h) (by omega)
                          have S9 := Lib.hid (((hput.pick []).add (.rset (fun b => b ≠ g) g g k (bnd σ')) hcg).add (.rowE eqE _ av (l.map (subP x Y))) hro)
                          have HAC := Lib.hid hac
                          clear hput hcg hro hac S
                          go_wp2_with fail
                          go_roundg n
                          case measure => omega
                          case rel => exact ⟨l.map (subP x Y), σ', av, ac, by rw [List.length_map], HAC, HM, HRN, by simp; omega, St.rmono (show St w _ (.rset (fun b => b ≠ g) g g k (bnd σ') :: [.rowE eqE _ av (l.map (subP x Y))]) from S9.out) (fun b h h2 => ⟨h2, h⟩)⟩
end Go.Proofs.Ytlhnfdjidjgfgaa
