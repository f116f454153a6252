/-
  Walks: find.Do.
-/
import Derived.Test.YteekoclfpehnpaaProg
import Derived.Test.YteekoclfpehnpaaXf
import Derived.Test.YteekoclfpehnpaaZ4
import Derived.Test.YteekoclfpehnpaaV8
import Derived.Test.YteekoclfpehnpaaG2
import Derived.RegionTactic
import Derived.Deep.Cut
namespace Go.Proofs.Yteekoclfpehnpaa
open Go.RowKit Go.Shelf
set_option linter.unusedVariables false
set_option maxHeartbeats 400000

theorem ret_find3 {P : Program} {fn : Func} {R : Ending → World → Prop} {a : Act} {w : World} (z x y p q : Value) (b c : Nat) (T T' : TypeId) (hb : w.heap[b]? = some (.cells #[x, y] T (0, 0))) (hc : w.heap[c]? = some (.cells #[p, q] T' (0, 0)))
    (hres : ∀ w' : World, w'.cell? ⟨b, 0, none⟩ = some x → w'.cell? ⟨b, 1, none⟩ = some y → w'.cell? ⟨c, 0, none⟩ = some p → w'.cell? ⟨c, 1, none⟩ = some q → (results fn a.tmps).run P w' = .ok (.tuple #[z, .agg #[x, y], .agg #[p, q]]) w') (hd : a.defers = [])
    (hR : R (.returned (.tuple #[z, .agg #[x, y], .agg #[p, q]])) w) : bodyPost P fn R .ret a w := bodyPost_ret (hres w (box2 hb).1.1 (box2 hb).2.1 (box2 hc).1.1 (box2 hc).2.1) hd hR
/-- which claim is too wide -/
noncomputable def wrongW (s : Nat) (cs : List (List Fc)) : Int × Int := if 0 ≤ idxP (wideB s) cs then (10, idxP (wideB s) cs) else (0, 0)
noncomputable def findW (ar : List Int) (cs : List (List Fc)) (size fuel : Int) : Int × Int :=
  if (loreF ar cs).1 ≠ 0 then loreF ar cs else if size < 1 ∨ 4 < size ∨ fuel < 0 ∨ 2000 < fuel then (3, -1) else wrongW size.toNat cs
def FindP (ar : List Int) (cs : List (List Fc)) (size fuel : Int) (w : World) (e : Ending) (w' : World) : Prop :=
  ∃ (st sz : Int) (to_ : Option Addr) (len cap : Nat) (W : Int × Int), e = .returned (.tuple #[.int .i64 st, .agg #[.int .i64 sz, .slice to_ len cap], FV W]) ∧ W = findW ar cs size fuel ∧ Below w.heap.size w w' ∧
    ((W.1 ≠ 0 ∧ st = 0 ∧ sz = 0 ∧ to_ = none ∧ len = 0 ∧ cap = 0) ∨
     (W.1 = 0 ∧ ∃ (s f f' : Nat) (T : List (List Int)), size = s ∧ fuel = f ∧ 1 ≤ s ∧ s ≤ 4 ∧ f ≤ 2000 ∧ AtPost s ar cs (cellTot s ar) [] f st f' T ∧ ((st = 1 ∧ sz = s ∧ len = T.length ∧ (∃ sp, cap = len + sp) ∧ intsE.Row (fun b => w.heap.size ≤ b) w' to_ T) ∨ (st ≠ 1 ∧ sz = 0 ∧ to_ = none ∧ len = 0 ∧ cap = 0))))
def zT (s : Nat) (l : List Int) : List (List Int) := l.map fun a => List.replicate (s ^ a.toNat) 0
theorem headsT_snoc {s : Nat} : ∀ {gs : List Nat} {ar : List Int} {k g : Nat} {a : Int}, gs.length = k → ar[k]? = some a → headsT s (gs ++ [g]) (ar.take (k + 1)) = headsT s gs (ar.take k) ++ [(g, s ^ a.toNat)]
  | [], [], k, g, a, h, h2 => by simp at h2
  | [], b :: ar, k, g, a, h, h2 => by
    obtain rfl : k = 0 := by simpa using h.symm
    have e : b = a := by simpa using h2
    subst e
    simp [headsT]
  | x :: gs, [], k, g, a, h, h2 => by simp at h2
  | x :: gs, b :: ar, 0, g, a, h, h2 => by simp at h
  | x :: gs, b :: ar, k + 1, g, a, h, h2 => by
    rw [List.cons_append, List.take_succ_cons, List.take_succ_cons, headsT, headsT, headsT_snoc (by simpa using h) (by simpa using h2)]
    rfl
theorem zT_snoc {s : Nat} {ar : List Int} {k : Nat} {a : Int} (h : ar[k]? = some a) : zT s (ar.take (k + 1)) = zT s (ar.take k) ++ [List.replicate (s ^ a.toNat) 0] := by
  obtain ⟨hk, he⟩ := List.getElem?_eq_some_iff.1 h
  rw [List.take_succ_eq_append_getElem hk, he]
  simp [zT]
theorem zT_ok {s : Nat} {ar : List Int} (hs : 1 ≤ s) (hs4 : s ≤ 4) (har : ∀ x ∈ ar, 0 ≤ x ∧ x ≤ 3) : TabOK ar s (zT s ar) :=
  ⟨hs, hs4, by simp [zT], fun i a l h1 h2 => by
    have h3 := har a (List.mem_of_getElem? h1)
    unfold zT at h2
    rw [List.getElem?_map, h1] at h2
    obtain rfl := Option.some.inj h2
    refine ⟨h3.1, h3.2, by simp, fun x hx => ?_⟩
    have := List.eq_of_mem_replicate hx
    omega⟩
/-- a row of heads lies where its address says -/
theorem hdr_loc {p : Nat → Prop} {w : World} {ao : Option Addr} {hs : List (Nat × Nat)} (h : hdrE.Row p w ao hs) : hdrE.Row (fun b => ∃ off, ao = some ⟨b, off, none⟩) w ao hs := fun i x hi => by
  obtain ⟨b, off, cs, e, _, hc, he⟩ := h i x hi
  exact ⟨b, off, cs, e, ⟨off, e⟩, hc, he⟩
theorem infoH : (Try.prog.info? 27).map (fun i => (i.zero, i.size, i.bytes)) = some (some (.slice none 0 0), 1, 24) := by kernel_rfl
set_option maxRecDepth 100000 in
set_option maxHeartbeats 16000000 in
theorem doFind50 (ar : List Int) (cs : List (List Fc)) (size fuel : Int) (p q : Nat → Prop) (ao co : Option Addr) (ca cc : Nat) (w : World) (ha : intE.Row q w ao ar) (h : claimE.Row p w co cs) (hp : ∀ b, p b → b < w.heap.size) (hna : ar.length ≤ maxLen) (hn : cs.length ≤ maxLen) :
    Calls Try.prog 50 #[.agg #[.slice ao ar.length ca, .slice co cs.length cc], .int .i64 size, .int .i64 fuel] w (FindP ar cs size fuel w) := by
  have HA := Lib.hid ha; have HC := Lib.hid h; have HP := Lib.hid hp; have HML := Lib.hid (show ar.length ≤ maxLen ∧ cs.length ≤ maxLen from ⟨hna, hn⟩)
  obtain ⟨iS, gi, gz0, gz1, gz2⟩ := info_parts infoH
  obtain ⟨bx, hbx⟩ : ∃ b, b = w.heap.size := ⟨_, rfl⟩
  have S1 := (((St.start w).box hbx.symm #[.slice ao ar.length ca, .slice co cs.length cc] 29).box (b := bx + 1) (by simp [hbx]) #[.int .i64 0, .slice none 0 0] 41).box (b := bx + 2) (by simp [hbx]) #[.int .i64 0, .int .i64 0] 32
  have hsz1 : (((w.alloc (.cells #[.slice ao ar.length ca, .slice co cs.length cc] 29)).alloc (.cells #[.int .i64 0, .slice none 0 0] 41)).alloc (.cells #[.int .i64 0, .int .i64 0] 32)).heap.size = bx + 3 := by simp [hbx]
  obtain ⟨⟨x0, _⟩, x1, _⟩ := S1.two 0
  clear ha h hp hna hn
  go_enter Try.func50, Try.ntmps50
  go_wp2_with fail
  rw [← hbx]
  refine S1.gen (z := bx + 3) (by omega) ?_
  intro w1 z1 S
  have HBX := Lib.hid hbx
  clear S1 hbx hsz1 x0 x1
  refine (S.faultF (lore79 ar cs p q ao co ca cc w1 (HA.out.kept S.bel) (HC.out.kept S.bel) HML.out.1 HML.out.2)).mono ?_
  rintro e w2 ⟨C, D, rfl, HCD, z2, S2⟩
  clear S
  obtain ⟨b9, hb9⟩ : ∃ b, b = w2.heap.size := ⟨_, rfl⟩
  have S := S2.box hb9.symm #[.int .i64 C, .int .i64 D] 32
  have z3 : b9 + 1 ≤ (w2.alloc (.cells #[.int .i64 C, .int .i64 D] 32)).heap.size := by simp [hb9]
  have HB9 := Lib.hid (show bx + 3 ≤ b9 by omega)
  clear S2
  by_cases hc : C = 0
  · have hcb : (C != 0) = false := by simp [hc]
    have HL := Lib.hid (loreF_zero (show (loreF ar cs).1 = 0 by rw [HCD.out]; exact hc))
    have HW0 := Lib.hid (show findW ar cs size fuel = if size < 1 ∨ 4 < size ∨ fuel < 0 ∨ 2000 < fuel then (3, -1) else wrongW size.toNat cs by unfold findW; rw [if_neg (by rw [HCD.out]; simpa using hc)])
    clear hc
    by_cases hsize_1 : size < 1
    · have HF := Lib.hid (show findW ar cs size fuel = (3, -1) by rw [HW0.out, if_pos (by omega)])
      have HF1 := Lib.hid (show ((3 : Int), (-1 : Int)).1 ≠ 0 by decide)
      obtain ⟨⟨y0, y1⟩, y2, y3⟩ := S.two 1
      obtain ⟨⟨q0, q1⟩, q2, q3⟩ := S.two 2
      have hl1 := S.lt 1
      have hl2 := S.lt 2
      have SB := Lib.hid S
      clear S
      go_wp2_with fail
      refine ret_find3 (.int .i64 0) (.int .i64 0) (.slice none 0 0) (.int .i64 3) (.int .i64 (-1)) (bx + 1) (bx + 2) 41 32 (two22 (SB.out.block 1) (SB.out.block 2) (by omega) _ _ _ _).1 (two22 (SB.out.block 1) (SB.out.block 2) (by omega) _ _ _ _).2 (fun w' z0 z1 z2 z3 => by simp [results, Try.results50, go_sem, z0, z1, z2, z3]) rfl ?_
      have hx := HBX.out
      refine ⟨0, 0, none, 0, 0, _, rfl, HF.out.symm, below22 SB.out.bel (by omega) (by omega) _ _ _ _, .inl ⟨HF1.out, rfl, rfl, rfl, rfl, rfl⟩⟩
    · have hsize_12 : 1 ≤ size := by omega
      by_cases h4_size : 4 < size
      · have HF := Lib.hid (show findW ar cs size fuel = (3, -1) by rw [HW0.out, if_pos (by omega)])
        have HF1 := Lib.hid (show ((3 : Int), (-1 : Int)).1 ≠ 0 by decide)
        obtain ⟨⟨y0, y1⟩, y2, y3⟩ := S.two 1
        obtain ⟨⟨q0, q1⟩, q2, q3⟩ := S.two 2
        have hl1 := S.lt 1
        have hl2 := S.lt 2
        have SB := Lib.hid S
        clear S
        go_wp2_with fail
        refine ret_find3 (.int .i64 0) (.int .i64 0) (.slice none 0 0) (.int .i64 3) (.int .i64 (-1)) (bx + 1) (bx + 2) 41 32 (two22 (SB.out.block 1) (SB.out.block 2) (by omega) _ _ _ _).1 (two22 (SB.out.block 1) (SB.out.block 2) (by omega) _ _ _ _).2 (fun w' z0 z1 z2 z3 => by simp [results, Try.results50, go_sem, z0, z1, z2, z3]) rfl ?_
        have hx := HBX.out
        refine ⟨0, 0, none, 0, 0, _, rfl, HF.out.symm, below22 SB.out.bel (by omega) (by omega) _ _ _ _, .inl ⟨HF1.out, rfl, rfl, rfl, rfl, rfl⟩⟩
      · have h4_size2 : size ≤ 4 := by omega
        by_cases hfuel_0 : fuel < 0
        · have HF := Lib.hid (show findW ar cs size fuel = (3, -1) by rw [HW0.out, if_pos (by omega)])
          have HF1 := Lib.hid (show ((3 : Int), (-1 : Int)).1 ≠ 0 by decide)
          obtain ⟨⟨y0, y1⟩, y2, y3⟩ := S.two 1
          obtain ⟨⟨q0, q1⟩, q2, q3⟩ := S.two 2
          have hl1 := S.lt 1
          have hl2 := S.lt 2
          have SB := Lib.hid S
          clear S
          go_wp2_with fail
          refine ret_find3 (.int .i64 0) (.int .i64 0) (.slice none 0 0) (.int .i64 3) (.int .i64 (-1)) (bx + 1) (bx + 2) 41 32 (two22 (SB.out.block 1) (SB.out.block 2) (by omega) _ _ _ _).1 (two22 (SB.out.block 1) (SB.out.block 2) (by omega) _ _ _ _).2 (fun w' z0 z1 z2 z3 => by simp [results, Try.results50, go_sem, z0, z1, z2, z3]) rfl ?_
          have hx := HBX.out
          refine ⟨0, 0, none, 0, 0, _, rfl, HF.out.symm, below22 SB.out.bel (by omega) (by omega) _ _ _ _, .inl ⟨HF1.out, rfl, rfl, rfl, rfl, rfl⟩⟩
        · have hfuel_02 : 0 ≤ fuel := by omega
          by_cases h2000_fuel : 2000 < fuel
          · have HF := Lib.hid (show findW ar cs size fuel = (3, -1) by rw [HW0.out, if_pos (by omega)])
            have HF1 := Lib.hid (show ((3 : Int), (-1 : Int)).1 ≠ 0 by decide)
            obtain ⟨⟨y0, y1⟩, y2, y3⟩ := S.two 1
            obtain ⟨⟨q0, q1⟩, q2, q3⟩ := S.two 2
            have hl1 := S.lt 1
            have hl2 := S.lt 2
            have SB := Lib.hid S
            clear S
            go_wp2_with fail
            refine ret_find3 (.int .i64 0) (.int .i64 0) (.slice none 0 0) (.int .i64 3) (.int .i64 (-1)) (bx + 1) (bx + 2) 41 32 (two22 (SB.out.block 1) (SB.out.block 2) (by omega) _ _ _ _).1 (two22 (SB.out.block 1) (SB.out.block 2) (by omega) _ _ _ _).2 (fun w' z0 z1 z2 z3 => by simp [results, Try.results50, go_sem, z0, z1, z2, z3]) rfl ?_
            have hx := HBX.out
            refine ⟨0, 0, none, 0, 0, _, rfl, HF.out.symm, below22 SB.out.bel (by omega) (by omega) _ _ _ _, .inl ⟨HF1.out, rfl, rfl, rfl, rfl, rfl⟩⟩
          · have h2000_fuel2 : fuel ≤ 2000 := by omega
            obtain ⟨s, hs⟩ : ∃ s : Nat, size = (s : Int) := ⟨size.toNat, by omega⟩
            obtain ⟨f, hf⟩ : ∃ f : Nat, fuel = (f : Int) := ⟨fuel.toNat, by omega⟩
            subst hs hf
            have hs1 : 1 ≤ s := by omega
            have hs4 : s ≤ 4 := by omega
            have hf2 : f ≤ 2000 := by omega
            have HW := Lib.hid (show findW ar cs s f = wrongW s cs by rw [HW0.out, if_neg (by omega)]; rfl)
            clear HW0
            obtain ⟨⟨x0, _⟩, x1, _⟩ := S.two 0
            go_wp2_with fail
            rw [← hb9]
            refine S.gen (z := b9 + 1) z3 ?_
            intro w3 z4 S
            clear x0 x1 z3 hb9
            refine (S.quiet (wide77 ar cs s p q ao co ca cc w3 hs4 (HC.out.kept S.bel) HML.out.2 HL.out.2.2.2.2)).mono ?_
            rintro e w4 ⟨rfl, z5, S4⟩
            clear S
            obtain ⟨I, hI⟩ : ∃ I, idxP (wideB s) cs = I := ⟨_, rfl⟩
            rw [hI]
            have HI := Lib.hid (show wrongW s cs = if 0 ≤ I then (10, I) else (0, 0) by unfold wrongW; rw [hI])
            clear hI
            by_cases hi0 : 0 ≤ I
            · have HF := Lib.hid (show findW ar cs s f = (10, I) by rw [HW.out, HI.out, if_pos hi0])
              have HF1 := Lib.hid (show ((10 : Int), I).1 ≠ 0 from (by decide : (10 : Int) ≠ 0))
              have h9 := HB9.out
              obtain ⟨⟨y0, y1⟩, y2, y3⟩ := S4.two 1
              obtain ⟨⟨q0, q1⟩, q2, q3⟩ := S4.two 2
              have hl1 := S4.lt 1
              have hl2 := S4.lt 2
              have SB := Lib.hid S4
              clear S4
              go_wp2_with fail
              refine ret_find3 (.int .i64 0) (.int .i64 0) (.slice none 0 0) (.int .i64 10) (.int .i64 I) (bx + 1) (bx + 2) 41 32 (two22 (SB.out.block 1) (SB.out.block 2) (by omega) _ _ _ _).1 (two22 (SB.out.block 1) (SB.out.block 2) (by omega) _ _ _ _).2 (fun w' z0 z1 z2 z3 => by simp [results, Try.results50, go_sem, z0, z1, z2, z3]) rfl ?_
              have hx := HBX.out
              refine ⟨0, 0, none, 0, 0, _, rfl, HF.out.symm, below22 SB.out.bel (by omega) (by omega) _ _ _ _, .inl ⟨HF1.out, rfl, rfl, rfl, rfl, rfl⟩⟩
            · have hi1 : ¬ I ≥ 0 := hi0
              have HF := Lib.hid (show findW ar cs s f = (0, 0) by rw [HW.out, HI.out, if_neg hi0])
              clear HW HI
              obtain ⟨b11, hb11⟩ : ∃ b, b = w4.heap.size := ⟨_, rfl⟩
              have S5 := S4.box hb11.symm #[.slice ao ar.length ca, .slice co cs.length cc, .int .i64 s, .slice none 0 0, .int .i64 (f : Nat)] 129
              have z6 : b11 + 1 ≤ (w4.alloc (.cells #[.slice ao ar.length ca, .slice co cs.length cc, .int .i64 s, .slice none 0 0, .int .i64 (f : Nat)] 129)).heap.size := by simp [hb11]
              have HB11 := Lib.hid (show b9 + 1 ≤ b11 by omega)
              obtain ⟨⟨x0, _⟩, x1, _⟩ := S4.two 0
              clear S4
              go_upto_region 10 with (fail)
              rw [← hb11]
              refine S5.genC (z := b11 + 1) z6 ?_
              intro w5 z7 S
              clear S5 z6 hb11 x0 x1 z5 hi1 hi0
              obtain ⟨⟨x0, _⟩, x1, _⟩ := S.two 0
              have S := (S.add (.owns hdrE (b11 + 1) pF (.slice none 0 0) []) (Elt.Own.nil _ _ _ _)).add (.cellsOf [] []) (fun i g row h => by simp at h)
              have hna63 : ar.length ≤ 12 := HL.out.2.1
              go_wp2_with fail
              clear x0 x1
              go_loopw [55] (fun i wr => ∃ (k : Nat) (gs : List Nat) (o : Value), k ≤ ar.length ∧ i = .int .i64 k ∧ gs.length = k ∧ gs.Nodup ∧ (∀ g ∈ gs, b11 + 1 ≤ g ∧ o.ownBlock ≠ some g) ∧ b11 + 1 ≤ wr.heap.size ∧ St w wr [.box bx #[.slice ao ar.length ca, .slice co cs.length cc] 29, .box (bx + 1) #[.int .i64 0, .slice none 0 0] 41, .box (bx + 2) #[.int .i64 0, .int .i64 0] 32, .box b9 #[.int .i64 C, .int .i64 D] 32, .box b11 #[.slice ao ar.length ca, .slice co cs.length cc, .int .i64 s, o, .int .i64 (f : Nat)] 129, .owns hdrE (b11 + 1) pF o (headsT s gs (ar.take k)), .cellsOf gs (zT s (ar.take k))]) (fun i _ => ar.length - (intOf i).toNat)
              case atStart => exact ⟨0, [], .slice none 0 0, by omega, rfl, rfl, List.nodup_nil, (fun g hg => by cases hg), z7, S⟩
              case round =>
                clear S z7
                obtain ⟨k, gs, o, hk, rfl, hgl, hnd, hgs, zr, Sr⟩ := hrel
                have HGL := Lib.hid hgl; have HND := Lib.hid hnd; have HGS := Lib.hid hgs
                clear hgl hnd hgs
                by_cases hlt : k < ar.length
                · have hlti : (k : Int) < (ar.length : Int) := by omega
                  obtain ⟨b, off, rfl, _, c0'⟩ := HA.out.int hlt
                  obtain ⟨X, hX⟩ : ∃ X, X = ar[k] := ⟨_, rfl⟩
                  have HXK := Lib.hid (show ar[k]? = some X by rw [hX]; exact List.getElem?_eq_getElem hlt)
                  have hxr := HL.out.2.2.2.1 X (List.mem_of_getElem? HXK.out)
                  obtain ⟨a, hxa⟩ : ∃ a : Nat, X = (a : Int) := ⟨X.toNat, by omega⟩
                  subst hxa
                  have c0 := Below.cellOf Sr.bel c0'
                  rw [← hX] at c0
                  have ha3 : a ≤ 3 := by omega
                  obtain ⟨P, hP⟩ : ∃ P, s ^ a = P := ⟨_, rfl⟩
                  have hPl : P ≤ 64 := by
                    have h1 : s ^ a ≤ 4 ^ a := Nat.pow_le_pow_left hs4 a
                    have h2 : 4 ^ a ≤ 4 ^ 3 := Nat.pow_le_pow_right (by omega) ha3
                    have h3 : (4 : Nat) ^ 3 = 64 := by decide
                    omega
                  have HC80 := Lib.hid (show ∀ W, Calls Try.prog 80 #[.int .i64 s, .int .i64 a, .int .i64 4096] W fun e w' => e = .returned (.int .i64 (P : Nat)) ∧ Below W.heap.size W w' from fun W => by
                    have h := power80 s a 4096 W (by omega) (by omega) (by omega)
                    rw [powN_small hs1 hs4 ha3, hP] at h
                    exact h.mono fun e w' ⟨h1, h2⟩ => ⟨h1, by rw [h2]; exact Below.refl _ _⟩)
                  have HPA := Lib.hid (show s ^ ((a : Int)).toNat = P from hP)
                  have hmk := make27 P (by omega)
                  clear c0' hX hxr hP
                  go_wp2_with fail
                  have SD : St w wr.drew [.box bx #[.slice (some ⟨b, off, none⟩) ar.length ca, .slice co cs.length cc] 29, .box (bx + 1) #[.int .i64 0, .slice none 0 0] 41, .box (bx + 2) #[.int .i64 0, .int .i64 0] 32, .box b9 #[.int .i64 C, .int .i64 D] 32, .box b11 #[.slice (some ⟨b, off, none⟩) ar.length ca, .slice co cs.length cc, .int .i64 s, o, .int .i64 (f : Nat)] 129, .owns hdrE (b11 + 1) pF o (headsT s gs (ar.take k)), .cellsOf gs (zT s (ar.take k))] := Sr.drew
                  have HOWL := Lib.hid (SD.ownlt hdrE 5)
                  have HHL := Lib.hid (show (headsT s gs (ar.take k)).length ≤ 12 by
                    rw [headsT_len (by rw [HGL.out]; simp; omega)]; simp; omega)
                  clear Sr c0
                  refine wpG_region 15 (fun W => W.cell? ⟨b11, 3, none⟩ = some o) (by kernel_rfl) ?_
                  have HS := (SD.cell 4 3 rfl).1
                  refine wpG.take (i := 0) (by kernel_rfl) (by kernel_rfl) (by kernel_rfl) (by kernel_rfl) (by kernel_rfl) HS ?_
                  intro oi ho
                  simp only [List.getElem?_toArray, List.getElem?_cons_zero, Option.some.injEq] at ho
                  subst ho
                  refine ⟨?_, Or.inl ⟨by rfl, ?_⟩, fun _ _ _ h => h, ?_⟩
                  rotate_left 1
                  · intro W hW
                    try dsimp only at hW
                    go_simp
                    try with_reducible rfl
                  simp only [Act.put, List.setIfInBounds_toArray, List.set_cons_zero, List.set_cons_succ]
                  refine wpG.take (i := 1) (by kernel_rfl) (by kernel_rfl) (by kernel_rfl) (by kernel_rfl) (by kernel_rfl) HS ?_
                  intro oi ho
                  simp only [List.getElem?_toArray, List.getElem?_cons_succ, List.getElem?_cons_zero, Option.some.injEq] at ho
                  subst ho
                  refine ⟨?_, Or.inl ⟨by rfl, ?_⟩, fun _ _ _ h => h, ?_⟩
                  rotate_left 1
                  · intro W hW
                    try dsimp only at hW
                    go_simp
                    try with_reducible rfl
                  simp only [Act.put, List.setIfInBounds_toArray, List.set_cons_zero, List.set_cons_succ]
                  refine wpG.take (i := 2) (by kernel_rfl) (by kernel_rfl) (by kernel_rfl) (by kernel_rfl) (by kernel_rfl) HS ?_
                  intro oi ho
                  simp only [List.getElem?_toArray, List.getElem?_cons_succ, List.getElem?_cons_zero, Option.some.injEq] at ho
                  subst ho
                  refine ⟨?_, Or.inl ⟨by rfl, ?_⟩, fun _ _ _ h => h, ?_⟩
                  rotate_left 1
                  · intro W hW
                    try dsimp only at hW
                    go_simp
                    try with_reducible rfl
                  simp only [Act.put, List.setIfInBounds_toArray, List.set_cons_zero, List.set_cons_succ]
                  refine wpG.take (i := 3) (by kernel_rfl) (by kernel_rfl) (by kernel_rfl) (by kernel_rfl) (by kernel_rfl) HS ?_
                  intro oi ho
                  simp only [List.getElem?_toArray, List.getElem?_cons_succ, List.getElem?_cons_zero, Option.some.injEq] at ho
                  subst ho
                  refine ⟨?_, Or.inl ⟨by rfl, ?_⟩, fun _ _ _ h => h, ?_⟩
                  rotate_left 1
                  · intro W hW
                    try dsimp only at hW
                    go_simp
                    try with_reducible rfl
                  simp only [Act.put, List.setIfInBounds_toArray, List.set_cons_zero, List.set_cons_succ]
                  refine wpG.take (i := 4) (by kernel_rfl) (by kernel_rfl) (by kernel_rfl) (by kernel_rfl) (by kernel_rfl) HS ?_
                  intro oi ho
                  simp only [List.getElem?_toArray, List.getElem?_cons_succ, List.getElem?_cons_zero, Option.some.injEq] at ho
                  subst ho
                  refine ⟨?_, Or.inl ⟨by rfl, ?_⟩, fun _ _ _ h => h, ?_⟩
                  rotate_left 1
                  · intro W hW
                    try dsimp only at hW
                    go_simp
                    try with_reducible rfl
                  simp only [Act.put, List.setIfInBounds_toArray, List.set_cons_zero, List.set_cons_succ]
                  refine wpG.take (i := 5) (by kernel_rfl) (by kernel_rfl) (by kernel_rfl) (by kernel_rfl) (by kernel_rfl) HS ?_
                  intro oi ho
                  simp only [List.getElem?_toArray, List.getElem?_cons_succ, List.getElem?_cons_zero, Option.some.injEq] at ho
                  subst ho
                  refine ⟨?_, Or.inl ⟨by rfl, ?_⟩, fun _ _ _ h => h, ?_⟩
                  rotate_left 1
                  · intro W hW
                    try dsimp only at hW
                    go_simp
                    try with_reducible rfl
                  simp only [Act.put, List.setIfInBounds_toArray, List.set_cons_zero, List.set_cons_succ]
                  refine wpG.take (i := 6) (by kernel_rfl) (by kernel_rfl) (by kernel_rfl) (by kernel_rfl) (by kernel_rfl) HS ?_
                  intro oi ho
                  simp only [List.getElem?_toArray, List.getElem?_cons_succ, List.getElem?_cons_zero, Option.some.injEq] at ho
                  subst ho
                  refine ⟨?_, Or.inl ⟨by rfl, ?_⟩, fun _ _ _ h => h, ?_⟩
                  rotate_left 1
                  · intro W hW
                    try dsimp only at hW
                    go_simp
                    try with_reducible rfl
                  simp only [Act.put, List.setIfInBounds_toArray, List.set_cons_zero, List.set_cons_succ]
                  refine wpG.take (i := 7) (by kernel_rfl) (by kernel_rfl) (by kernel_rfl) (by kernel_rfl) (by kernel_rfl) HS ?_
                  intro oi ho
                  simp only [List.getElem?_toArray, List.getElem?_cons_succ, List.getElem?_cons_zero, Option.some.injEq] at ho
                  subst ho
                  refine ⟨?_, Or.inl ⟨by rfl, ?_⟩, fun _ _ _ h => h, ?_⟩
                  rotate_left 1
                  · intro W hW
                    try dsimp only at hW
                    go_simp
                    try with_reducible rfl
                  simp only [Act.put, List.setIfInBounds_toArray, List.set_cons_zero, List.set_cons_succ]
                  refine wpG.one (i := 8) (by kernel_rfl) ?_
                  intro oi ho
                  simp only [List.getElem?_toArray, List.getElem?_cons_succ, List.getElem?_cons_zero, Option.some.injEq] at ho
                  subst ho
                  intro K hK
                  have HK := Lib.hid hK
                  have HSH := Lib.hid HS
                  clear hK HS
                  go_simp
                  go_at_call 80
                  refine (SD.quiet (HC80.out _)).mono ?_
                  rintro e w5 ⟨rfl, z5, S5⟩
                  have z5 : wr.heap.size ≤ w5.heap.size := z5
                  dsimp only
                  refine HK.out _ _ (fun _ => (S5.cell 4 3 rfl).1) ?_
                  have HS := (S5.cell 4 3 rfl).1
                  try simp only [Act.put, List.setIfInBounds_toArray, List.set_cons_zero, List.set_cons_succ]
                  refine wpG.one (i := 9) (by kernel_rfl) ?_
                  intro oi ho
                  simp only [List.getElem?_toArray, List.getElem?_cons_succ, List.getElem?_cons_zero, Option.some.injEq] at ho
                  subst ho
                  intro K hK
                  have HK := Lib.hid hK
                  have HSH := Lib.hid HS
                  clear hK HS
                  obtain ⟨g, hg⟩ : ∃ g, g = w5.heap.size := ⟨_, rfl⟩
                  have SA := S5.box (b := g) hg.symm (tc (List.replicate P 0)) 3
                  have zg : g + 1 ≤ (w5.alloc (.cells (tc (List.replicate P 0)) 3)).heap.size := by simp [hg]
                  go_simp
                  rw [← hg]
                  refine HK.out _ _ (fun _ => (SA.cell 4 3 rfl).1) ?_
                  have HS := (SA.cell 4 3 rfl).1
                  try simp only [Act.put, List.setIfInBounds_toArray, List.set_cons_zero, List.set_cons_succ]
                  have hgz : w5.heap.size ≤ g := by omega
                  clear hg
                  generalize (w5.alloc (.cells (tc (List.replicate P 0)) 3)) = w6 at SA zg HS ⊢
                  refine wpG.one (i := 10) (by kernel_rfl) ?_
                  intro oi ho
                  simp only [List.getElem?_toArray, List.getElem?_cons_succ, List.getElem?_cons_zero, Option.some.injEq] at ho
                  subst ho
                  intro K hK
                  have HK := Lib.hid hK
                  have HSH := Lib.hid HS
                  clear hK HS
                  have SB := SA.alloc (.cells #[.slice (some ⟨g, 0, none⟩) P P] 27)
                  go_simp
                  refine HK.out _ _ (fun _ => (SB.cell 4 3 rfl).1) ?_
                  have HS := (SB.cell 4 3 rfl).1
                  try simp only [Act.put, List.setIfInBounds_toArray, List.set_cons_zero, List.set_cons_succ]
                  refine wpG.one (i := 11) (by kernel_rfl) ?_
                  intro oi ho
                  simp only [List.getElem?_toArray, List.getElem?_cons_succ, List.getElem?_cons_zero, Option.some.injEq] at ho
                  subst ho
                  intro K hK
                  have HK := Lib.hid hK
                  have HSH := Lib.hid HS
                  clear hK HS
                  refine step_app (by rfl) (.tmp 64) (.tmp 69) 39 (by rfl) hdrE SA 5 rfl (x := (g, P)) (q := pF) (p' := pF) (by rfl) Try.underlying39 gi gz0 gz1 gz2 (by rfl) (by rfl) (by rfl) (by rfl) (by have := HHL.out; unfold maxLen; omega) (by have := HHL.out; omega) (by have := zg; have := HB11.out; omega) (by have := HBX.out; have := HB9.out; have := HB11.out; omega) (fun bb h1 h2 h3 => by have h4 := (HOWL.out bb h1).2; have h5 : wr.drew.heap.size = wr.heap.size := rfl; have h6 := HBX.out; have h7 := HB9.out; have h8 := HB11.out; simp only [fsnoc, offs, offAll, Fct.box, Fct.cellsOf, and_true]; exact ⟨by omega, by omega, by omega, by omega, by omega, fun h => (HGS.out bb h).2 h1, by omega⟩) (fun bb h1 h2 => h1.elim) (fun bb h1 => by rcases h1 with h1 | h1 <;> exact h1.elim) ?_
                  intro gg cap w7 S7 z7 hgg hat
                  refine HK.out _ _ (fun _ => (S7.cell 4 3 rfl).1) ?_
                  have HS := (S7.cell 4 3 rfl).1
                  try simp only [Act.put, List.setIfInBounds_toArray, List.set_cons_zero, List.set_cons_succ]
                  refine wpG.one (i := 12) (by kernel_rfl) ?_
                  intro oi ho
                  simp only [List.getElem?_toArray, List.getElem?_cons_succ, List.getElem?_cons_zero, Option.some.injEq] at ho
                  subst ho
                  intro K hK
                  have HK := Lib.hid hK
                  have HSH := Lib.hid HS
                  clear hK HS
                  go_simp
                  refine HK.out _ _ (fun _ => (S7.cell 4 3 rfl).1) ?_
                  have HS := (S7.cell 4 3 rfl).1
                  try simp only [Act.put, List.setIfInBounds_toArray, List.set_cons_zero, List.set_cons_succ]
                  refine wpG.one (i := 13) (by kernel_rfl) ?_
                  intro oi ho
                  simp only [List.getElem?_toArray, List.getElem?_cons_succ, List.getElem?_cons_zero, Option.some.injEq] at ho
                  subst ho
                  intro K hK
                  have HK := Lib.hid hK
                  have HSH := Lib.hid HS
                  clear hK HS
                  go_simp
                  refine HK.out _ _ (fun _ => (S7.cell 4 3 rfl).1) ?_
                  have HS := (S7.cell 4 3 rfl).1
                  try simp only [Act.put, List.setIfInBounds_toArray, List.set_cons_zero, List.set_cons_succ]
                  refine wpG.one (i := 14) (by kernel_rfl) ?_
                  intro oi ho
                  simp only [List.getElem?_toArray, List.getElem?_cons_succ, List.getElem?_cons_zero, Option.some.injEq] at ho
                  subst ho
                  intro K hK
                  have HK := Lib.hid hK
                  have HSH := Lib.hid HS
                  clear hK HS
                  go_simp
                  refine HK.out _ _ (fun _ => (S7.cell 4 3 rfl).1) ?_
                  have HS := (S7.cell 4 3 rfl).1
                  try simp only [Act.put, List.setIfInBounds_toArray, List.set_cons_zero, List.set_cons_succ]
                  refine wpG.one (i := 15) (by kernel_rfl) ?_
                  intro oi ho
                  simp only [List.getElem?_toArray, List.getElem?_cons_succ, List.getElem?_cons_zero, Option.some.injEq] at ho
                  subst ho
                  intro K hK
                  have HK := Lib.hid hK
                  have HSH := Lib.hid HS
                  clear hK HS
                  obtain ⟨u0, u1⟩ := S7.cell 4 3 rfl
                  have hl7 := S7.lt 4
                  go_simp
                  refine HK.out _ _ (fun h => absurd rfl h) ?_
                  try simp only [Act.put, List.setIfInBounds_toArray, List.set_cons_zero, List.set_cons_succ]
                  refine wpG.done (by kernel_rfl) ?_
                  have S7 : St w w7 [.box bx #[.slice (some ⟨b, off, none⟩) ar.length ca, .slice co cs.length cc] 29, .box (bx + 1) #[.int .i64 0, .slice none 0 0] 41, .box (bx + 2) #[.int .i64 0, .int .i64 0] 32, .box b9 #[.int .i64 C, .int .i64 D] 32, .box b11 #[.slice (some ⟨b, off, none⟩) ar.length ca, .slice co cs.length cc, .int .i64 s, o, .int .i64 (f : Nat)] 129, .owns hdrE (b11 + 1) pF (.slice (some ⟨gg, 0, none⟩) ((headsT s gs (ar.take k)).length + 1) cap) (headsT s gs (ar.take k) ++ [(g, P)]), .cellsOf gs (zT s (ar.take k)), .box g (tc (List.replicate P 0)) 3] := S7
                  have h6 := HBX.out; have h7 := HB9.out; have h8 := HB11.out
                  have hgb : b11 + 1 ≤ g := by omega
                  have hgg : b11 + 1 ≤ gg := (S7.ownlt hdrE 5 rfl gg rfl).1
                  have hgN : ∀ x ∈ gs, x < g := fun x hx => by
                    obtain ⟨i, hi⟩ := List.mem_iff_getElem?.1 hx
                    have h1 : i < (zT s (ar.take k)).length := by
                      have := (List.getElem?_eq_some_iff.1 hi).1
                      rw [HGL.out] at this
                      simp [zT]; omega
                    have h2 := heap_lt (SD.cellsOf 6 rfl i x _ hi (List.getElem?_eq_getElem h1))
                    have h3 : wr.drew.heap.size = wr.heap.size := rfl
                    omega
                  have hggs : ∀ x ∈ gs ++ [g], gg ≠ x := fun x hx => by
                    have h4 : ∀ y, o.ownBlock = some y → y < g := fun y hy => by have := (HOWL.out y hy).2; have h3 : wr.drew.heap.size = wr.heap.size := rfl; omega
                    rcases List.mem_append.1 hx with h | h
                    · rcases hat with h5 | h5
                      · intro e; subst e; exact (HGS.out _ h).2 h5
                      · have := hgN x h; omega
                    · obtain rfl : x = g := by simpa using h
                      rcases hat with h5 | h5
                      · have := h4 _ h5; omega
                      · omega
                  have S8 := S7.setAt 4 rfl 3 (.slice (some ⟨gg, 0, none⟩) ((headsT s gs (ar.take k)).length + 1) cap) (by omega) (by
                    simp only [offs, offAll, Fct.box, Fct.owns, Fct.cellsOf, and_true]
                    refine ⟨by omega, by omega, by omega, by omega, ?_, fun h => by have := (HGS.out _ h).1; omega, by omega⟩
                    rintro (h | h)
                    · have h' : gg = b11 := by simpa [Value.ownBlock] using h
                      omega
                    · exact h.elim)
                  have S9 := (S8.add (.cellsOf (gs ++ [g]) (zT s (ar.take (k + 1)))) (by
                    rw [zT_snoc HXK.out, HPA.out]
                    intro i x row h1 h2
                    have hzl : (zT s (ar.take k)).length = gs.length := by simp [zT, HGL.out]; omega
                    rcases Nat.lt_or_ge i gs.length with hi | hi
                    · rw [List.getElem?_append_left hi] at h1
                      rw [List.getElem?_append_left (by omega)] at h2
                      exact S8.cellsOf 6 rfl i x row h1 h2
                    · have hi2 := (List.getElem?_eq_some_iff.1 h1).1
                      have hi3 : i = gs.length := by simp at hi2; omega
                      subst hi3
                      rw [List.getElem?_append_right (Nat.le_refl _)] at h1
                      rw [List.getElem?_append_right (by omega)] at h2
                      simp [hzl] at h1 h2
                      subst h1 h2
                      exact S8.block 7)).pick [0, 1, 2, 3, 4, 5, 8]
                  have S9 : St w (w7.setCell ⟨b11, 3, none⟩ (.slice (some ⟨gg, 0, none⟩) ((headsT s gs (ar.take k)).length + 1) cap)) [.box bx #[.slice (some ⟨b, off, none⟩) ar.length ca, .slice co cs.length cc] 29, .box (bx + 1) #[.int .i64 0, .slice none 0 0] 41, .box (bx + 2) #[.int .i64 0, .int .i64 0] 32, .box b9 #[.int .i64 C, .int .i64 D] 32, .box b11 #[.slice (some ⟨b, off, none⟩) ar.length ca, .slice co cs.length cc, .int .i64 s, .slice (some ⟨gg, 0, none⟩) ((headsT s gs (ar.take k)).length + 1) cap, .int .i64 (f : Nat)] 129, .owns hdrE (b11 + 1) pF (.slice (some ⟨gg, 0, none⟩) ((headsT s gs (ar.take k)).length + 1) cap) (headsT s (gs ++ [g]) (ar.take (k + 1))), .cellsOf (gs ++ [g]) (zT s (ar.take (k + 1)))] := by
                    rw [headsT_snoc HGL.out HXK.out, HPA.out]; exact S9
                  have z9 : b11 + 1 ≤ (w7.setCell ⟨b11, 3, none⟩ (.slice (some ⟨gg, 0, none⟩) ((headsT s gs (ar.take k)).length + 1) cap)).heap.size := by simp; omega
                  have HND2 := Lib.hid (show (gs ++ [g]).Nodup from List.nodup_append.2 ⟨HND.out, by simp, fun x hx y hy => by
                    obtain rfl : y = g := by simpa using hy
                    have := hgN x hx; omega⟩)
                  have HGS2 := Lib.hid (show ∀ x ∈ gs ++ [g], b11 + 1 ≤ x ∧ (Value.slice (some ⟨gg, 0, none⟩) ((headsT s gs (ar.take k)).length + 1) cap).ownBlock ≠ some x from fun x hx => ⟨by
                    rcases List.mem_append.1 hx with h | h
                    · exact (HGS.out x h).1
                    · obtain rfl : x = g := by simpa using h
                      exact hgb, fun e => hggs x hx (by simpa [Value.ownBlock] using e)⟩)
                  have HGL2 := Lib.hid (show (gs ++ [g]).length = k + 1 by simp [HGL.out])
                  clear S7 S8 SA SB S5 SD hgN hggs hgg u0 u1 hl7 hat
                  go_wp2_with fail
                  go_roundw
                  case rel => exact ⟨k + 1, gs ++ [g], _, by omega, by go_num, HGL2.out, HND2.out, HGS2.out, z9, S9⟩
                  case measure => simp [intOf] <;> omega
                · obtain rfl : k = ar.length := by omega
                  rw [List.take_length] at Sr
                  have HT0 := Lib.hid (zT_ok hs1 hs4 HL.out.2.2.2.1)
                  have hhl : (headsT s gs ar).length = ar.length := headsT_len HGL.out
                  have HOL := Lib.hid (Sr.ownlt hdrE 5)
                  obtain ⟨to_, tsp, ho, hrw, _⟩ := (Elt.Own.mono (Sr.owns hdrE 5) (q := fun _ => True) (fun b _ => trivial)).row (fun b _ => trivial)
                  rw [hhl] at ho
                  subst ho
                  have HPT := Lib.hid (show ∀ b, (∃ off, to_ = some ⟨b, off, none⟩) → b11 + 1 ≤ b ∧ b ∉ gs from fun b hb => by
                    obtain ⟨off, rfl⟩ := hb
                    exact ⟨(HOL.out b rfl).1, fun h => (HGS.out b h).2 rfl⟩)
                  have h6 : w.heap.size ≤ bx := (by have := HBX.out; omega); have h7 := HB9.out; have h8 := HB11.out
                  have S2 : St w wr (.box b11 #[.slice ao ar.length ca, .slice co cs.length cc, .int .i64 s, .slice to_ ar.length (ar.length + tsp), .int .i64 (f : Nat)] 129 :: .rowE hdrE (fun b => ∃ off, to_ = some ⟨b, off, none⟩) to_ (headsT s gs ar) :: .cellsOf gs (zT s ar) :: [.box bx #[.slice ao ar.length ca, .slice co cs.length cc] 29, .box (bx + 1) #[.int .i64 0, .slice none 0 0] 41, .box (bx + 2) #[.int .i64 0, .int .i64 0] 32]) := (Sr.add (.rowE hdrE (fun b => ∃ off, to_ = some ⟨b, off, none⟩) to_ (headsT s gs ar)) (hdr_loc hrw)).pick [4, 7, 6, 0, 1, 2]
                  have AT := Lib.hid (at97 ar s cs HL.out.2.2.2.2 (by have := HL.out.2.2.1; omega) (by omega) p (fun b => ∃ off, to_ = some ⟨b, off, none⟩) co to_ cc tsp (.slice ao ar.length ca) gs HGL.out HND.out b11 w (by omega) (fun g hg => by have := (HGS.out g hg).1; omega) (fun h => by have := (HGS.out _ h).1; omega) (fun h => by have := (HPT.out _ h).1; omega) (fun g hg h => (HPT.out g h).2 hg) HC.out
                    (cellTot s ar + ar.length) 0 0 (cellTot s ar) (by omega) (Nat.zero_le _) (by simp [cellTot]) (fun a _ => Nat.zero_le _) (zT s ar) f wr [.box bx #[.slice ao ar.length ca, .slice co cs.length cc] 29, .box (bx + 1) #[.int .i64 0, .slice none 0 0] 41, .box (bx + 2) #[.int .i64 0, .int .i64 0] 32] HT0.out hf2
                    (by simp only [offAll, Fct.box, and_true]; omega) (fun g hg => by have := (HGS.out g hg).1; simp only [offAll, Fct.box, and_true]; omega) S2)
                  clear Sr hrw hhl S2
                  go_wp2_with fail
                  refine AT.out.mono ?_
                  rintro e w6 ⟨st, f', T', rfl, z6, hpost, S3⟩
                  have HPO := Lib.hid (show AtPost s ar cs (cellTot s ar) [] f st f' T' by simpa [cellTot] using hpost)
                  clear hpost AT
                  by_cases hst : st = 1
                  · subst hst
                    go_wp2_with fail
                    have SD : St w w6.drew (.box b11 #[.slice ao ar.length ca, .slice co cs.length cc, .int .i64 s, .slice to_ ar.length (ar.length + tsp), .int .i64 (f' : Nat)] 129 :: .rowE hdrE (fun b => ∃ off, to_ = some ⟨b, off, none⟩) to_ (headsT s gs ar) :: .cellsOf gs T' :: [.box bx #[.slice ao ar.length ca, .slice co cs.length cc] 29, .box (bx + 1) #[.int .i64 0, .slice none 0 0] 41, .box (bx + 2) #[.int .i64 0, .int .i64 0] 32]) := S3.drew
                    obtain ⟨⟨y0, y1⟩, y2, y3⟩ := S3.two 4
                    obtain ⟨⟨q0, q1⟩, q2, q3⟩ := S3.two 5
                    obtain ⟨x0, _⟩ := S3.cell 0 2 rfl
                    obtain ⟨x1, _⟩ := S3.cell 0 3 rfl
                    have hl1 := S3.lt 4
                    have hl2 := S3.lt 5
                    obtain ⟨⟨y4, y5⟩, y6, y7⟩ := SD.two 4
                    obtain ⟨⟨q4, q5⟩, q6, q7⟩ := SD.two 5
                    obtain ⟨x4, _⟩ := SD.cell 0 2 rfl
                    obtain ⟨x5, _⟩ := SD.cell 0 3 rfl
                    have hl4 := SD.lt 4
                    have hl5 := SD.lt 5
                    have n1 : ¬ b11 = bx + 1 := by omega
                    have n2 : ¬ b11 = bx + 2 := by omega
                    have n3 : ¬ bx + 1 = b11 := by omega
                    have n4 : ¬ bx + 2 = b11 := by omega
                    have SB := Lib.hid SD
                    clear S3 SD
                    go_region
                    all_goals
                      go_wp2_with fail
                      refine ret_find3 (.int .i64 1) (.int .i64 s) (.slice to_ ar.length (ar.length + tsp)) (.int .i64 0) (.int .i64 0) (bx + 1) (bx + 2) 41 32 (two22 (SB.out.block 4) (SB.out.block 5) (by omega) _ _ _ _).1 (two22 (SB.out.block 4) (SB.out.block 5) (by omega) _ _ _ _).2 (fun w' z0 z1 z2 z3 => by simp [results, Try.results50, go_sem, z0, z1, z2, z3]) rfl ?_
                      refine ⟨1, s, to_, ar.length, ar.length + tsp, (0, 0), rfl, HF.out.symm, below22 SB.out.bel (by omega) (by omega) _ _ _ _, .inr ⟨rfl, s, f, f', T', rfl, rfl, hs1, hs4, hf2, HPO.out, .inl ⟨rfl, rfl, HPO.out.ok.2.2.1.symm, ⟨tsp, rfl⟩, ?_⟩⟩⟩
                      refine (rowsOf HPO.out.ok.shaped HGL.out (fun i l hl => Nat.le_trans (rowlen64 HPO.out.ok hl) (by decide)) (SB.out.rowE hdrE 1) (SB.out.cellsOf 2)).keep (fun b hb hl => ?_)
                      have hbb : b11 + 1 ≤ b := by
                        rcases hb with hb | hb
                        · exact (HPT.out b hb).1
                        · exact (HGS.out b hb).1
                      exact ⟨(Below.heap_setCell _ _ _ _ (by show b ≠ bx + 2; omega)).trans ((Below.heap_setCell _ _ _ _ (by show b ≠ bx + 2; omega)).trans ((Below.heap_setCell _ _ _ _ (by show b ≠ bx + 1; omega)).trans (Below.heap_setCell _ _ _ _ (by show b ≠ bx + 1; omega)))), by omega⟩
                  · have hstb : (st != 1) = true := by simpa using hst
                    obtain ⟨⟨y0, y1⟩, y2, y3⟩ := S3.two 4
                    obtain ⟨⟨q0, q1⟩, q2, q3⟩ := S3.two 5
                    have hl1 := S3.lt 4
                    have hl2 := S3.lt 5
                    have SB := Lib.hid S3
                    clear S3
                    go_wp2_with fail
                    refine ret_find3 (.int .i64 st) (.int .i64 0) (.slice none 0 0) (.int .i64 0) (.int .i64 0) (bx + 1) (bx + 2) 41 32 (two22 (SB.out.block 4) (SB.out.block 5) (by omega) _ _ _ _).1 (two22 (SB.out.block 4) (SB.out.block 5) (by omega) _ _ _ _).2 (fun w' z0 z1 z2 z3 => by simp [results, Try.results50, go_sem, z0, z1, z2, z3]) rfl ?_
                    exact ⟨st, 0, none, 0, 0, (0, 0), rfl, HF.out.symm, below22 SB.out.bel (by omega) (by omega) _ _ _ _, .inr ⟨rfl, s, f, f', T', rfl, rfl, hs1, hs4, hf2, HPO.out, .inr ⟨hst, rfl, rfl, rfl, rfl⟩⟩⟩
  · have hcb : (C != 0) = true := by simp [hc]
    have HF := Lib.hid (show findW ar cs size fuel = (C, D) by unfold findW; rw [if_pos (by rw [HCD.out]; exact hc), HCD.out])
    have HF1 := Lib.hid (show (C, D).1 ≠ 0 from hc)
    obtain ⟨⟨x0, _⟩, x1, _⟩ := S.two 3
    have hl3 := S.lt 3
    clear hc
    go_wp2_with fail
    rw [← hb9]
    refine S.genC (z := b9 + 1) z3 ?_
    intro w3 z4 S
    clear x0 x1 hl3 z3 hb9
    obtain ⟨⟨y0, y1⟩, y2, y3⟩ := S.two 1
    obtain ⟨⟨q0, q1⟩, q2, q3⟩ := S.two 2
    have hl1 := S.lt 1
    have hl2 := S.lt 2
    obtain ⟨⟨x0, _⟩, x1, _⟩ := S.two 3
    have SD := S.drew
    obtain ⟨⟨y4, y5⟩, y6, y7⟩ := SD.two 1
    obtain ⟨⟨q4, q5⟩, q6, q7⟩ := SD.two 2
    obtain ⟨⟨x4, _⟩, x5, _⟩ := SD.two 3
    have hl4 := SD.lt 1
    have hl5 := SD.lt 2
    have h9 := HB9.out
    have n1 : ¬ b9 = bx + 1 := by omega
    have n2 : ¬ b9 = bx + 2 := by omega
    have n3 : ¬ bx + 1 = b9 := by omega
    have n4 : ¬ bx + 2 = b9 := by omega
    have SB := Lib.hid SD
    clear S SD
    go_region
    all_goals
      go_wp2_with fail
      refine ret_find3 (.int .i64 0) (.int .i64 0) (.slice none 0 0) (.int .i64 C) (.int .i64 D) (bx + 1) (bx + 2) 41 32 (two22 (SB.out.block 1) (SB.out.block 2) (by omega) _ _ _ _).1 (two22 (SB.out.block 1) (SB.out.block 2) (by omega) _ _ _ _).2 (fun w' z0 z1 z2 z3 => by simp [results, Try.results50, go_sem, z0, z1, z2, z3]) rfl ?_
      have hx := HBX.out
      refine ⟨0, 0, none, 0, 0, _, rfl, HF.out.symm, below22 SB.out.bel (by omega) (by omega) _ _ _ _, .inl ⟨HF1.out, rfl, rfl, rfl, rfl, rfl⟩⟩
end Go.Proofs.Yteekoclfpehnpaa
