/-
  Walks: claim.Code.
-/
import Derived.Test.YtidgnbdlfngeaaaGreatDoorProg
import Derived.Test.YtidgnbdlfngeaaaGreatDoorV2
import Derived.Test.YtidgnbdlfngeaaaGreatDoorE5
import Derived.Test.YtidgnbdlfngeaaaGreatDoorF1
import Derived.Test.YtidgnbdlfngeaaaGreatDoorR1
import Derived.Test.YtidgnbdlfngeaaaGreatDoorG3
import Derived.RegionTactic
import Derived.Lib.QuietBelow
import Derived.BigQuiet
import Derived.IntWalk
namespace Go.Proofs.YtidgnbdlfngeaaaGreatDoor
open Go.RowKit Go.Shelf
set_option linter.unusedVariables false
set_option maxHeartbeats 400000
attribute [local go_sem] Oper.semAt_some

/-- what is wrong with a node -/
def badS (ar : List Int) (x : T) : Int := if (ar.length : Int) < x.head then 12 else if 0 < x.head ∧ (x.kids.length : Int) ≠ gI ar (x.head - 1).toNat then 9 else 0
def firstG (f : T → Int) : List T → Int
  | [] => 0
  | x :: r => if f x ≠ 0 then f x else firstG f r
theorem firstG_append {f : T → Int} : ∀ (l r : List T), firstG f (l ++ r) = if firstG f l ≠ 0 then firstG f l else firstG f r
  | [], r => by rw [if_neg (by simp [firstG])]; rfl
  | x :: l, r => by
    simp only [List.cons_append, firstG]
    by_cases hx : f x ≠ 0
    · simp only [if_pos hx]
    · simp only [if_neg hx]; exact firstG_append l r
theorem firstG_prefix {f : T → Int} {l m : List T} (h : l <+: m) (h0 : firstG f l ≠ 0) : firstG f m = firstG f l := by
  obtain ⟨r, rfl⟩ := h
  rw [firstG_append, if_pos h0]
theorem firstG_hit {f : T → Int} : ∀ {l : List T} {n : Nat} {x : T}, (∀ (j : Nat) t, j < n → l[j]? = some t → f t = 0) → l[n]? = some x → f x ≠ 0 → firstG f l = f x
  | [], n, x, _, h, _ => by simp at h
  | y :: r, 0, x, _, h, hx => by simp at h; subst h; rw [firstG, if_pos hx]
  | y :: r, n + 1, x, hno, h, hx => by
    rw [firstG, if_neg (by simpa using hno 0 y (by omega) rfl)]
    exact firstG_hit (n := n) (fun j t hj ht => hno (j + 1) t (by omega) (by simpa using ht)) (by simpa using h) hx
theorem firstG_none {f : T → Int} : ∀ {l : List T}, (∀ (j : Nat) t, j < l.length → l[j]? = some t → f t = 0) → firstG f l = 0
  | [], _ => rfl
  | y :: r, h => by rw [firstG, if_neg (by simpa using h 0 y (by simp) rfl)]; exact firstG_none (fun j t hj ht => h (j + 1) t (by simpa using hj) (by simpa using ht))
theorem firstG_zero {f : T → Int} : ∀ {l : List T}, firstG f l = 0 ↔ ∀ x ∈ l, f x = 0
  | [] => by simp [firstG]
  | y :: r => by
    rw [firstG]
    by_cases hy : f y ≠ 0
    · rw [if_pos hy]; exact ⟨fun h => absurd h hy, fun h => h y (by simp)⟩
    · rw [if_neg hy, firstG_zero]
      have hy : f y = 0 := by simpa using hy
      exact ⟨fun h x hx => (List.mem_cons.1 hx).elim (fun e => e ▸ hy) (h x), fun h x hx => h x (List.mem_cons_of_mem _ hx)⟩
theorem badS_zero {ar : List Int} {x : T} : badS ar x = 0 ↔ sigN ar x := by
  unfold badS sigN
  by_cases h1 : (ar.length : Int) < x.head
  · rw [if_pos h1]; constructor
    · intro h; cases h
    · intro h; omega
  · rw [if_neg h1]
    by_cases h2 : 0 < x.head ∧ (x.kids.length : Int) ≠ gI ar (x.head - 1).toNat
    · rw [if_pos h2]; constructor
      · intro h; cases h
      · intro h; exact absurd (h.2 h2.1) h2.2
    · rw [if_neg h2]
      refine ⟨fun _ => ⟨by omega, fun h => ?_⟩, fun _ => rfl⟩
      by_cases h3 : (x.kids.length : Int) = gI ar (x.head - 1).toNat
      · exact h3
      · exact absurd ⟨h, h3⟩ h2
def sigF (ar : List Int) (l : List T) : Int := firstG (badS ar) l
/-- what is wrong with a tree, by the signs -/
def codeT (ar : List Int) (t : T) : Int := if (treeF t).1 ≠ 0 then (treeF t).1 else sigF ar t.pre
def codeF (ar : List Int) (fs : List Fc) : Int := if 6 < fs.length then 2 else firstG (codeT ar) (treesF fs)
theorem codeT_zero {ar : List Int} {t : T} : codeT ar t = 0 ↔ (treeF t).1 = 0 ∧ t.sig ar := by
  unfold codeT sigF
  by_cases h : (treeF t).1 ≠ 0
  · rw [if_pos h]; exact ⟨fun h2 => absurd h2 h, fun h2 => h2.1⟩
  · rw [if_neg h, firstG_zero]
    have h : (treeF t).1 = 0 := by simpa using h
    have h3 := (treeF_ok.1 h).2.2
    exact ⟨fun h2 => ⟨h, ⟨fun x hx => ⟨h3 x hx, badS_zero.1 (h2 x hx)⟩⟩⟩, fun h2 x hx => badS_zero.2 (h2.2.all x hx).2⟩
theorem codeF_zero {ar : List Int} {fs : List Fc} : codeF ar fs = 0 ↔ fs.length ≤ 6 ∧ ∀ t ∈ treesF fs, (treeF t).1 = 0 ∧ t.sig ar := by
  unfold codeF
  by_cases h : 6 < fs.length
  · rw [if_pos h]; exact ⟨(fun h2 => by cases h2), (fun h2 => by omega)⟩
  · rw [if_neg h, firstG_zero]
    exact ⟨fun h2 => ⟨by omega, fun t ht => codeT_zero.1 (h2 t ht)⟩, fun h2 t ht => codeT_zero.2 (h2.2 t ht)⟩
theorem KeepsFrom.ofBelow {B : Nat} {W W' : World} (h : Below W.heap.size W W') : KeepsFrom B W W' := ⟨h.size, fun k o _ hk _ => (h.block k (Array.getElem?_eq_some_iff.1 hk).1).trans hk⟩
def Fct.marks (B : Nat) (ds : List Nat) : Fct :=
  ⟨fun b => b ∈ ds, fun w => Marks B w ds, fun w w' h hm => ⟨hm.1, fun D hD => ⟨(hm.2 D hD).1, (h D hD (Array.getElem?_eq_some_iff.1 (hm.2 D hD).2).1).trans (hm.2 D hD).2⟩⟩⟩
theorem St.marks {w0 w : World} {l : List Fct} (S : St w0 w l) (i : Nat) {B : Nat} {ds : List Nat} (h : Fct.at l i = Fct.marks B ds := by rfl) : Marks B w ds := by
  have := S.2 i
  rw [h] at this; exact this
def okUptoG (f : T → Int) (ts : List T) (n : Nat) : Prop := ∀ (j : Nat) t, j < n → ts[j]? = some t → f t = 0
theorem okUptoG.step {f : T → Int} {ts : List T} {n : Nat} {x : T} (h : okUptoG f ts n) (hx : ts[n]? = some x) (h0 : f x = 0) : okUptoG f ts (n + 1) := fun j t hj ht => by
  rcases Nat.lt_succ_iff_lt_or_eq.1 hj with h3 | rfl
  · exact h j t h3 ht
  · rw [hx] at ht; obtain rfl := Option.some.inj ht; exact h0

set_option maxRecDepth 100000 in
set_option maxHeartbeats 8000000 in
theorem code73 (ar : List Int) (fs : List Fc) (p q : Nat → Prop) (ao co : Option Addr) (ca sp : Nat) (w : World) (ha : intE.Row q w ao ar) (h : factE.Row p w co fs) (hna : ar.length ≤ 1000000000) (hn : fs.length ≤ maxLen) :
    Calls Tryz.prog 20 #[.slice ao ar.length ca, .agg #[.slice co fs.length (fs.length + sp)]] w fun e w' => e = .returned (.int .i64 (codeF ar fs)) ∧ Below w.heap.size w w' := by
  have HR := Lib.hid h; have HA := Lib.hid ha
  have hn' : fs.length ≤ 9223372036854775807 := by unfold maxLen at hn; omega
  obtain ⟨bx, hbx⟩ : ∃ b, b = w.heap.size := ⟨_, rfl⟩
  have S1 := (((St.start w).box hbx.symm #[.slice ao ar.length ca] 22).box (b := bx + 1) (by simp [hbx]) #[.slice co fs.length (fs.length + sp)] 42).box (b := bx + 2) (by simp [hbx]) #[.int .i64 0] 3
  have hsz1 : (((w.alloc (.cells #[.slice ao ar.length ca] 22)).alloc (.cells #[.slice co fs.length (fs.length + sp)] 42)).alloc (.cells #[.int .i64 0] 3)).heap.size = bx + 3 := by simp [hbx]
  clear h ha hn
  by_cases h6 : 6 < fs.length
  · have HF := Lib.hid (show codeF ar fs = 2 by unfold codeF; rw [if_pos h6])
    have h6i : (6 : Int) < (fs.length : Int) := by omega
    have SB := Lib.hid ((((St.start w).box rfl #[.slice ao ar.length ca] 22).box (b := w.heap.size + 1) (by simp) #[.slice co fs.length (fs.length + sp)] 42).box (b := w.heap.size + 2) (by simp) #[.int .i64 2] 3)
    clear h6 S1 hsz1 hbx
    go_enter Tryz.func20, Tryz.ntmps20
    go_wp2_with fail
    refine ret_cell1 (.int .i64 2) (w.heap.size + 2) 3 (SB.out.block 2) (fun w' q0 => by simp [results, Tryz.results20, go_sem, q0]) rfl ?_
    exact ⟨ret_int HF.out.symm, SB.out.bel⟩
  · have HF := Lib.hid (show codeF ar fs = firstG (codeT ar) (treesF fs) by unfold codeF; rw [if_neg h6])
    have h6i : ¬ (6 : Int) < (fs.length : Int) := by omega
    have HTL := Lib.hid (treesF_length fs)
    refine (callsIn_wide (n := 4)).1 ?_
    refine callsIn_of_wp_marks Tryz.func20 rfl trivial ?_ rfl
    simp only [Tryz.ntmps20, List.size_toArray, List.length_cons, List.length_nil, Nat.reduceAdd, Nat.reduceSub, Array.replicate_succ, Array.replicate_zero, List.push_toArray, List.append_toArray, List.nil_append, List.cons_append]
    refine wpIn_wide.2 ?_
    go_wp2_with fail
    rw [← hbx]
    refine S1.genC (z := bx + 3) (by omega) ?_
    intro w1 z1 S
    have HBX := Lib.hid hbx
    clear S1 hbx hsz1
    refine wp_loop (fun a W => ∃ (k : Nat) (ds : List Nat) (z6 z8 z9 z20 z21 z22 z23 z24 z25 z26 z27 z28 z29 z30 z31 z32 z33 z34 z35 z36 z37 z38 z39 z40 z41 z66 z67 : Value), k ≤ fs.length ∧ a = { tmps := #[.slice ao ar.length ca, .agg #[.slice co fs.length (fs.length + sp)], .pointer (some ⟨bx, 0, none⟩), .pointer (some ⟨bx + 1, 0, none⟩), .pointer (some ⟨bx + 1 + 1, 0, none⟩), undef, z6, undef, z8, z9, undef, undef, .pointer (some ⟨bx + 1, 0, none⟩), .slice co fs.length (fs.length + sp), .int .i64 (fs.length : Int), .bool false, .pointer (some ⟨bx + 1, 0, none⟩), .slice co fs.length (fs.length + sp), .int .i64 (fs.length : Int), .int .i64 (k : Int), z20, z21, z22, z23, z24, z25, z26, z27, z28, z29, z30, z31, z32, z33, z34, z35, z36, z37, z38, z39, z40, z41, undef, undef, undef, undef, undef, undef, undef, undef, undef, undef, undef, undef, undef, undef, undef, undef, undef, undef, undef, undef, undef, undef, undef, undef, z66, z67], defers := ds.map mark } ∧ okUptoG (codeT ar) (treesF fs) (2 * k) ∧ bx + 3 ≤ W.heap.size ∧ St w W [.box bx #[.slice ao ar.length ca] 22, .box (bx + 1) #[.slice co fs.length (fs.length + sp)] 42, .box (bx + 2) #[.int .i64 0] 3, .marks w.heap.size ds]) (fun a _ => fs.length - (intOf (a.tmps.getD 19 undef)).toNat) ?start ?round
    case start => exact ⟨0, [], _, _, _, _, _, _, _, _, _, _, _, _, _, _, _, _, _, _, _, _, _, _, _, _, _, _, _, by omega, rfl, fun j t hj _ => by omega, z1, S.add (.marks w.heap.size []) (Marks.nil _ _)⟩
    case round =>
      clear S z1 w1
      rintro a wr ⟨k, ds, z6, z8, z9, z20, z21, z22, z23, z24, z25, z26, z27, z28, z29, z30, z31, z32, z33, z34, z35, z36, z37, z38, z39, z40, z41, z66, z67, hk, rfl, hno, z2, S⟩
      have HNO := Lib.hid hno
      clear hno
      by_cases hlt : k < fs.length
      · have hlti : (k : Int) < (fs.length : Int) := by omega
        obtain ⟨b, off, ka, sa, kb, sb, rfl, hpb, c0', c1', c2', c3', c4', t1, t2⟩ := HR.out.fact hlt
        have c0 := Below.cellOf S.bel c0'
        have c1 := Below.cellOf S.bel c1'
        have c2 := Below.cellOf S.bel c2'
        have c3 := Below.cellOf S.bel c3'
        have c4 := Below.cellOf S.bel c4'
        clear c0' c1' c2' c3' c4'
        have HP := Lib.hid (treesF_pair hlt)
        obtain ⟨X, hX⟩ : ∃ X, X = fs[k].l := ⟨_, rfl⟩
        obtain ⟨Y, hY⟩ : ∃ Y, Y = fs[k].r := ⟨_, rfl⟩
        rw [← hX] at c1 c2 t1 HP
        rw [← hY] at c3 c4 t2 HP
        have T1 := Lib.hid t1.at; have T2 := Lib.hid t2.at
        obtain ⟨bq, hbq⟩ : ∃ b, b = wr.heap.size := ⟨_, rfl⟩
        have S3 := (S.box hbq.symm #[.bool fs[k].neg, .int .i64 X.head, .slice ka X.kids.length (X.kids.length + sa), .int .i64 Y.head, .slice kb Y.kids.length (Y.kids.length + sb)] 53).box (b := bq + 1) (by simp [hbq]) #[.int .i64 X.head, .slice ka X.kids.length (X.kids.length + sa), .int .i64 Y.head, .slice kb Y.kids.length (Y.kids.length + sb)] 45
        have S4 := S3.pick [0, 1, 2, 5, 3]
        clear S3
        obtain ⟨⟨x0, _⟩⟩ := And.intro (S.one 1) trivial
        clear hX hY S t1 t2
        go_wp2_with fail
        rw [← hbq]
        refine S4.genC (z := bq + 2) (by simp [hbq]) ?_
        intro w2 z3 S
        have HBQ := Lib.hid (show bx + 3 ≤ bq by omega)
        clear S4 hbq c0 c1 c2 c3 c4 x0
        refine wp_loop (fun a W => ∃ (m : Nat) (ds : List Nat) (y8 y9 y30 y31 y32 y33 y34 y35 y36 y37 y38 y39 y40 y41 y66 : Value), m ≤ 2 ∧ a = { tmps := #[.slice ao ar.length ca, .agg #[.slice (some ⟨b, off, none⟩) fs.length (fs.length + sp)], .pointer (some ⟨bx, 0, none⟩), .pointer (some ⟨bx + 1, 0, none⟩), .pointer (some ⟨bx + 1 + 1, 0, none⟩), undef, .pointer (some ⟨bq, 0, none⟩), undef, y8, y9, undef, undef, .pointer (some ⟨bx + 1, 0, none⟩), .slice (some ⟨b, off, none⟩) fs.length (fs.length + sp), .int .i64 (fs.length : Int), .bool false, .pointer (some ⟨bx + 1, 0, none⟩), .slice (some ⟨b, off, none⟩) fs.length (fs.length + sp), .int .i64 (fs.length : Int), .int .i64 (k : Int), .bool true, .pointer (some ⟨b, off + k * 5, none⟩), .agg #[.bool fs[k].neg, .int .i64 X.head, .slice ka X.kids.length (X.kids.length + sa), .int .i64 Y.head, .slice kb Y.kids.length (Y.kids.length + sb)], .pointer (some ⟨bq, 1, none⟩), .agg #[.int .i64 X.head, .slice ka X.kids.length (X.kids.length + sa)], .pointer (some ⟨bq, 3, none⟩), .agg #[.int .i64 Y.head, .slice kb Y.kids.length (Y.kids.length + sb)], .slice (some ⟨bq + 1, 0, none⟩) 2 2, .int .i64 2, .int .i64 (m : Int), y30, y31, y32, y33, y34, y35, y36, y37, y38, y39, y40, y41, undef, undef, undef, undef, undef, undef, undef, undef, undef, undef, undef, undef, undef, undef, undef, undef, undef, undef, undef, undef, undef, undef, undef, undef, y66, z67], defers := ds.map mark } ∧ okUptoG (codeT ar) (treesF fs) (2 * k + m) ∧ bq + 2 ≤ W.heap.size ∧ St w W [.box bx #[.slice ao ar.length ca] 22, .box (bx + 1) #[.slice (some ⟨b, off, none⟩) fs.length (fs.length + sp)] 42, .box (bx + 2) #[.int .i64 0] 3, .box (bq + 1) #[.int .i64 X.head, .slice ka X.kids.length (X.kids.length + sa), .int .i64 Y.head, .slice kb Y.kids.length (Y.kids.length + sb)] 45, .marks w.heap.size ds]) (fun a _ => 2 - (intOf (a.tmps.getD 29 undef)).toNat) ?start2 ?round2
        case start2 => exact ⟨0, ds, _, _, _, _, _, _, _, _, _, _, _, _, _, _, _, by omega, rfl, HNO.out, z3, S⟩
        case round2 =>
          clear S
          rintro a wr ⟨m, ds2, y8, y9, y30, y31, y32, y33, y34, y35, y36, y37, y38, y39, y40, y41, y66, hm, rfl, hno, z4, S⟩
          have HNM := Lib.hid hno
          clear hno
          by_cases hlt2 : m < 2
          · obtain ⟨A, hA⟩ : ∃ A, A = pairT X Y m := ⟨_, rfl⟩
            have HAT := Lib.hid (show (treesF fs)[2 * k + m]? = some A by rw [hA]; exact pairT_at HP.out.1 HP.out.2 hlt2)
            obtain ⟨kA, sA, c0, c1, hTA⟩ : ∃ kA sA, wr.cell? ⟨bq + 1, m * 2, none⟩ = some (.int .i64 A.head) ∧ wr.cell? ⟨bq + 1, m * 2 + 1, none⟩ = some (.slice kA A.kids.length (A.kids.length + sA)) ∧
                TreeAt w (.agg #[.int .i64 A.head, .slice kA A.kids.length (A.kids.length + sA)]) A := by
              rcases (show m = 0 ∨ m = 1 by omega) with rfl | rfl
              · obtain rfl : A = X := hA
                exact ⟨ka, sa, (S.cell 3 0 rfl).1, (S.cell 3 1 rfl).1, T1.out⟩
              · obtain rfl : A = Y := hA
                exact ⟨kb, sb, (S.cell 3 2 rfl).1, (S.cell 3 3 rfl).1, T2.out⟩
            have hlti2 : (m : Int) < 2 := by omega
            have HTA := Lib.hid hTA
            obtain ⟨br, hbr⟩ : ∃ b, b = wr.heap.size := ⟨_, rfl⟩
            have SR := S.box hbr.symm #[.int .i64 A.head, .slice kA A.kids.length (A.kids.length + sA)] 45
            clear hA S hTA
            go_wp2_with fail
            rw [← hbr]
            refine SR.gen (z := br + 1) (by simp [hbr]) ?_
            intro w3 z5 S
            have HBR := Lib.hid (show bq + 2 ≤ br by omega)
            clear SR hbr c0 c1
            refine (S.faultF (check29 A _ w3 (HTA.out.kept S.bel))).mono ?_
            rintro e w4 ⟨c, d, rfl, HC, z6, S3⟩
            clear S
            obtain ⟨bs, hbs⟩ : ∃ b, b = w4.heap.size := ⟨_, rfl⟩
            have S4 := S3.box hbs.symm #[.int .i64 c, .int .i64 d] 28
            have z7 : bs + 1 ≤ (w4.alloc (.cells #[.int .i64 c, .int .i64 d] 28)).heap.size := by simp [hbs]
            have HBS := Lib.hid (show br + 1 ≤ bs by omega)
            clear S3
            by_cases hc : c = 0
            · subst hc
              have HOK := Lib.hid (treeF_ok.1 (show (treeF A).1 = 0 by rw [HC.out]))
              have HCA := Lib.hid (show codeT ar A = sigF ar A.pre by unfold codeT; rw [if_neg (by rw [HC.out]; simp)])
              obtain ⟨⟨x0, _⟩, x1, _⟩ := S4.two 5
              go_wp2_with fail
              rw [← hbs]
              refine S4.gen (z := bs + 1) z7 ?_
              intro w7 z8 S7
              clear S4 z7 hbs x0 x1
              refine (nodes48 (.agg #[.int .i64 A.head, .slice kA A.kids.length (A.kids.length + sA)]) A w7 (HTA.out.kept S7.bel)).mono ?_
              rintro e w8 ⟨rfl, hw8⟩
              obtain ⟨bk, hbk⟩ : ∃ b, b = w7.heap.size := ⟨_, rfl⟩
              have S10 := S7.box hbk.symm #[.int .i64 A.head, .slice kA A.kids.length (A.kids.length + sA)] 45
              replace hw8 : w8 = w7.alloc (.cells #[.int .i64 A.head, .slice kA A.kids.length (A.kids.length + sA)] 45) := hw8
              rw [← hw8] at S10
              have hsw8 : w8.heap.size = bk + 1 := by rw [hw8, hbk]; simp
              rw [← hbk]
              have HBK := Lib.hid (show bs + 1 ≤ bk by omega); have HSW := Lib.hid hsw8
              have SX := Lib.hid S10
              clear hw8 hbk hsw8 S10 S7
              go_wp2_with fail
              have hk8 := SX.out.block 7
              have hx1 : w.heap.size ≤ bx ∧ bx ≤ w.heap.size := by have := HBX.out; omega
              have hm1 : bx + 6 ≤ bk := by have := HBK.out; have := HBS.out; have := HBR.out; have := HBQ.out; omega
              have hs8 : bk + 1 ≤ w8.heap.size ∧ w8.heap.size ≤ bk + 1 := by have := HSW.out; omega
              have HRES := Lib.hid (SX.out.block 2); have HARS := Lib.hid (SX.out.block 0)
              have hb8 := SX.out.bel
              refine (wpIn_wide (n := 4)).1 ?_
              refine wpIn_rangeFunc_ownH rfl (by omega) (gf := 54) (lb := #[.pointer (some ⟨bk, 0, none⟩)]) rfl trivial (enters_of Tryz.func54 (by kernel_rfl) rfl)
                (nodes_stops w bk bk A kA sA w8 (by have := HOK.out.1; omega) (by have := HOK.out.2.1; omega) (by omega) hb8 (by omega) HTA.out hk8) (fun h k => KpN.trans h k) (KpN.putObj hb8.size) (Below.refl _ _) (fun _ => rfl)
                (fun pre U => ((sigF ar (pre.map (·.t)) = 0 ∧ U.heap[bx + 2]? = some (.cells #[.int .i64 0] 3 (0, 0))) ∧ (∀ b, b < w8.heap.size → b ≠ bx + 2 → U.heap[b]? = w8.heap[b]?)) ∧ Below w.heap.size w U)
                (fun c pre U => (((c = .ret ∧ sigF ar (pre.map (·.t)) ≠ 0) ∧ U.heap[bx + 2]? = some (.cells #[.int .i64 (sigF ar (pre.map (·.t)))] 3 (0, 0))) ∧ (∀ b, b < w8.heap.size → b ≠ bx + 2 → U.heap[b]? = w8.heap[b]?)) ∧ Below w.heap.size w U)
                (OwnFrom.and (OwnFrom.and (OwnFrom.and (ownFrom_pure _ (fun pre : List (NX w A) => sigF ar (pre.map (·.t)) = 0)) (Own.from (own_block (bx + 2) _ (fun _ => rfl)) _)) (ownFrom_frame w8 (bx + 2) _ (Nat.le_refl _))) (ownFrom_below (Nat.le_refl _) hb8.size))
                (fun c => OwnFrom.and (OwnFrom.and (OwnFrom.and (ownFrom_pure _ (fun pre : List (NX w A) => c = .ret ∧ sigF ar (pre.map (·.t)) ≠ 0)) (Own.from (own_block (bx + 2) _ (fun _ => rfl)) _)) (ownFrom_frame w8 (bx + 2) _ (Nat.le_refl _))) (ownFrom_below (Nat.le_refl _) hb8.size))
                ⟨⟨⟨rfl, HRES.out⟩, fun _ _ _ => rfl⟩, hb8⟩
                (fun y a' U => ∃ Bx : Nat, U.heap[Bx]? = some (.cells #[.int .i64 y.t.head, .slice y.ao y.t.kids.length (y.t.kids.length + y.sp)] 45 (0, 0)) ∧ a' = { tmps := #[.slice ao ar.length ca, .agg #[.slice (some ⟨b, off, none⟩) fs.length (fs.length + sp)], .pointer (some ⟨bx, 0, none⟩), .pointer (some ⟨bx + 1, 0, none⟩), .pointer (some ⟨bx + 1 + 1, 0, none⟩), undef, .pointer (some ⟨bq, 0, none⟩), undef, .pointer (some ⟨br, 0, none⟩), .pointer (some ⟨bs, 0, none⟩), undef, .pointer (some ⟨Bx, 0, none⟩), .pointer (some ⟨bx + 1, 0, none⟩), .slice (some ⟨b, off, none⟩) fs.length (fs.length + sp), .int .i64 (fs.length : Int), .bool false, .pointer (some ⟨bx + 1, 0, none⟩), .slice (some ⟨b, off, none⟩) fs.length (fs.length + sp), .int .i64 (fs.length : Int), .int .i64 (k : Int), .bool true, .pointer (some ⟨b, off + k * 5, none⟩), .agg #[.bool fs[k].neg, .int .i64 X.head, .slice ka X.kids.length (X.kids.length + sa), .int .i64 Y.head, .slice kb Y.kids.length (Y.kids.length + sb)], .pointer (some ⟨bq, 1, none⟩), .agg #[.int .i64 X.head, .slice ka X.kids.length (X.kids.length + sa)], .pointer (some ⟨bq, 3, none⟩), .agg #[.int .i64 Y.head, .slice kb Y.kids.length (Y.kids.length + sb)], .slice (some ⟨bq + 1, 0, none⟩) 2 2, .int .i64 2, .int .i64 (m : Int), .bool true, .pointer (some ⟨bq + 1, m * 2, none⟩), .agg #[.int .i64 A.head, .slice kA A.kids.length (A.kids.length + sA)], .agg #[.int .i64 A.head, .slice kA A.kids.length (A.kids.length + sA)], .agg #[.int .i64 0, .int .i64 d], .pointer (some ⟨bs, 0, none⟩), .int .i64 0, .bool false, y38, y39, .agg #[.int .i64 A.head, .slice kA A.kids.length (A.kids.length + sA)], .func (.func 54) #[] #[.pointer (some ⟨bk, 0, none⟩)], y.pl, .agg #[.int .i64 y.t.head, .slice y.ao y.t.kids.length (y.t.kids.length + y.sp)], undef, undef, undef, undef, undef, undef, undef, undef, undef, undef, undef, undef, undef, undef, undef, undef, undef, undef, undef, undef, undef, undef, y66, z67], defers := [] })
                (fun y a' _ X Y row hs hg hr => by obtain ⟨Bx, q2, q3⟩ := hs; exact ⟨Bx, own_block Bx (fun _ : Unit => _) (fun _ => rfl) () X Y row q2 hg (fun r e => (hr r e).2), q3⟩)
                ?assign ?body ?done ?stop
              case assign =>
                rintro ll pre y U K ⟨⟨⟨i0, i1⟩, i2⟩, i3⟩ hK
                have HK := Lib.hid hK; have I0 := Lib.hid i0; have I1 := Lib.hid i1; have I2 := Lib.hid i2; have I3 := Lib.hid i3
                have I4 := Lib.hid (frame_size i2 HRES.out (heap_lt i1))
                simp only [NX.encs]
                clear hK i0 i1 i2 i3
                gi_wp2
                exact HK.out _ _ (KeepsFrom.alloc' _ _ _) (KpN.of ((Below.refl _ U).alloc (Nat.le_refl _) _) I3.out.size) ⟨⟨⟨I0.out, heap_alloc_old I1.out⟩, fun b h1 h2 => (Below.heap_alloc U _ b (by have := I4.out; omega)).trans (I2.out b h1 h2)⟩, I3.out.alloc I3.out.size _⟩ ⟨U.heap.size, heap_ofAlloc U _, rfl⟩
              case body =>
                rintro ll pre y a' U hl ⟨rr, hr⟩ ⟨⟨⟨i0, i1⟩, i2⟩, i3⟩ ⟨Bx, hbx, rfl⟩ hlt3
                clear hr rr
                have I0 := Lib.hid i0; have I1 := Lib.hid i1; have I2 := Lib.hid i2; have I3 := Lib.hid i3
                obtain ⟨ypl, yao, ysp, yt, yat, yht, ym⟩ := y
                obtain ⟨h1, h2, h3, h4, h5⟩ := okN_num (HOK.out.2.2 yt ym)
                have H5 := Lib.hid h5
                obtain ⟨⟨x0, _⟩, x1, _⟩ := box2 hbx
                obtain ⟨v0, v1⟩ := box1 ((I2.out bx (by omega) (by omega)).trans HARS.out)
                obtain ⟨q0, q1⟩ := box1 i1
                have hql := heap_lt i1
                have HBA := Lib.hid (show sigF ar ((pre ++ [(⟨ypl, yao, ysp, yt, yat, yht, ym⟩ : NX w A)]).map (·.t)) = badS ar yt by
                  have h0 := I0.out
                  unfold sigF at h0 ⊢
                  rw [List.map_append, firstG_append, if_neg (by rw [h0]; simp)]
                  simp only [List.map_cons, List.map_nil, firstG]
                  by_cases hb : badS ar yt ≠ 0
                  · rw [if_pos hb]
                  · have hb : badS ar yt = 0 := by simpa using hb
                    rw [hb]; simp)
                have HAR := Lib.hid (HA.out.kept i3)
                clear i0 i1 i2 i3 hbx h5
                dsimp only at x0 x1 ⊢
                by_cases hbig : (ar.length : Int) < yt.head
                · have HBA := Lib.hid (show _ = (12 : Int) from HBA.out.trans (by unfold badS; rw [if_pos hbig]))
                  gi_wp2
                  all_goals first
                    | (exfalso; exact undef_bool (by assumption))
                    | exact ⟨(KeepsOthers.setCell _ _ _).from _, ⟨⟨⟨rfl, by rw [HBA.out]; omega⟩, by rw [HBA.out]; exact box1_set' I1.out _ rfl⟩, fun b' q1 q2 => (Below.heap_setCell U _ _ b' q2).trans (I2.out b' q1 q2)⟩, I3.out.setCell (p := ⟨bx + 2, 0, none⟩) (by show w.heap.size ≤ bx + 2; omega) _⟩
                · by_cases hpos : 0 < yt.head
                  · have hj : (yt.head - 1).toNat < ar.length := by omega
                    obtain ⟨b9, off9, hao, hqb, c9⟩ := HAR.out.int hj
                    obtain ⟨j, hjj⟩ : ∃ j : Nat, j = (yt.head - 1).toNat := ⟨_, rfl⟩
                    have HGJ := Lib.hid (show gI ar (yt.head - 1).toNat = ar[(yt.head - 1).toNat] from gI_get hj)
                    obtain ⟨V, hV⟩ : ∃ V, V = ar[(yt.head - 1).toNat] := ⟨_, rfl⟩
                    rw [← hV] at c9 HGJ
                    rw [← hjj] at c9 hj
                    subst hao
                    have hw : IntKind.i64.wrap (yt.head - 1) = (j : Int) := by rw [hjj, IntWalk.i64_in _ (by omega)]; omega
                    by_cases hkk : (yt.kids.length : Int) = V
                    · have HBA := Lib.hid (show _ = (0 : Int) from HBA.out.trans (by unfold badS; rw [if_neg hbig, if_neg (by rw [HGJ.out]; exact fun h => h.2 hkk)]))
                      have hkb : ((yt.kids.length : Int) != V) = false := by simp [hkk]
                      clear hjj hV hkk
                      gi_wp2_with fail
                      have HU0 := Lib.hid (fun d os => below_regrown U d os)
                      have r0 := cell_regrown x0; have r1 := cell_regrown x1; have r2 := cell_regrown v0; have r3 := cell_regrown c9
                      clear x0 x1 v0 v1 q0 q1 hql c9
                      refine wpIn_region_round rfl (by kernel_rfl) (by kernel_rfl) (by kernel_rfl) ?_
                      repeat (gi_big_quiet_step (fail))
                      refine wpQuietIn_nil ?_
                      intro U2 hw'
                      obtain ⟨⟨dq, osq⟩, hw''⟩ := hw'
                      have hbU : Below U.heap.size U U2 := by rw [hw'']; exact below_regrown U dq osq
                      have HBU := Lib.hid hbU
                      have J1 := Lib.hid (Below.heapAt hbU I1.out)
                      obtain ⟨q0, q1⟩ := box1 J1.out
                      have hql := heap_lt J1.out
                      have I4 := Lib.hid (frame_size I2.out HRES.out (heap_lt I1.out))
                      clear hw'' hbU
                      gi_wp2
                      all_goals first
                        | (exfalso; exact undef_bool (by assumption))
                        | exact ⟨KeepsFrom.ofBelow HBU.out, KpN.of HBU.out I3.out.size, ⟨⟨HBA.out, J1.out⟩, fun b' q1 q2 => (HBU.out.block b' (by have := I4.out; omega)).trans (I2.out b' q1 q2)⟩, I3.out.trans (HBU.out.mono I3.out.size)⟩
                    · have HBA := Lib.hid (show _ = (9 : Int) from HBA.out.trans (by unfold badS; rw [if_neg hbig, if_pos (by rw [HGJ.out]; exact ⟨hpos, hkk⟩)]))
                      have hkb : ((yt.kids.length : Int) != V) = true := by simp [hkk]
                      clear hjj hV hkk
                      gi_wp2_with fail
                      have HU0 := Lib.hid (fun d os => below_regrown U d os)
                      have r0 := cell_regrown x0; have r1 := cell_regrown x1; have r2 := cell_regrown v0; have r3 := cell_regrown c9
                      clear x0 x1 v0 v1 q0 q1 hql c9
                      refine wpIn_region_round rfl (by kernel_rfl) (by kernel_rfl) (by kernel_rfl) ?_
                      repeat (gi_big_quiet_step (fail))
                      refine wpQuietIn_nil ?_
                      intro U2 hw'
                      obtain ⟨⟨dq, osq⟩, hw''⟩ := hw'
                      have hbU : Below U.heap.size U U2 := by rw [hw'']; exact below_regrown U dq osq
                      have HBU := Lib.hid hbU
                      have J1 := Lib.hid (Below.heapAt hbU I1.out)
                      obtain ⟨q0, q1⟩ := box1 J1.out
                      have hql := heap_lt J1.out
                      have I4 := Lib.hid (frame_size I2.out HRES.out (heap_lt I1.out))
                      clear hw'' hbU
                      gi_wp2
                      all_goals first
                        | (exfalso; exact undef_bool (by assumption))
                        | exact ⟨(KeepsFrom.ofBelow HBU.out).trans ((KeepsOthers.setCell _ _ _).from _), ⟨⟨⟨rfl, by rw [HBA.out]; omega⟩, by rw [HBA.out]; exact box1_set' J1.out _ rfl⟩, fun b' q1 q2 => (Below.heap_setCell U2 _ _ b' q2).trans ((HBU.out.block b' (by have := I4.out; omega)).trans (I2.out b' q1 q2))⟩, (I3.out.trans (HBU.out.mono I3.out.size)).setCell (p := ⟨bx + 2, 0, none⟩) (by show w.heap.size ≤ bx + 2; omega) _⟩
                  · have HBA := Lib.hid (show _ = (0 : Int) from HBA.out.trans (by unfold badS; rw [if_neg hbig, if_neg (fun h => hpos h.1)]))
                    gi_wp2_with fail
                    have HU0 := Lib.hid (fun d os => below_regrown U d os)
                    have r0 := cell_regrown x0
                    clear x0 x1 v0 v1 q0 q1 hql
                    refine wpIn_region_round rfl (by kernel_rfl) (by kernel_rfl) (by kernel_rfl) ?_
                    iterate 4 (gi_big_quiet_step (fail))
                    rw [show decide ((0 : Int) < yt.head) = false from decide_eq_false (by omega)]
                    repeat (gi_big_quiet_step (fail))
                    refine wpQuietIn_nil ?_
                    intro U2 hw'
                    obtain ⟨⟨dq, osq⟩, hw''⟩ := hw'
                    have hbU : Below U.heap.size U U2 := by rw [hw'']; exact below_regrown U dq osq
                    have HBU := Lib.hid hbU
                    have J1 := Lib.hid (Below.heapAt hbU I1.out)
                    obtain ⟨q0, q1⟩ := box1 J1.out
                    have hql := heap_lt J1.out
                    have I4 := Lib.hid (frame_size I2.out HRES.out (heap_lt I1.out))
                    clear hw'' hbU
                    gi_wp2
                    all_goals first
                      | (exfalso; exact undef_bool (by assumption))
                      | exact ⟨KeepsFrom.ofBelow HBU.out, KpN.of HBU.out I3.out.size, ⟨⟨HBA.out, J1.out⟩, fun b' q1 q2 => (HBU.out.block b' (by have := I4.out; omega)).trans (I2.out b' q1 q2)⟩, I3.out.trans (HBU.out.mono I3.out.size)⟩
              case done =>
                rintro D xs U hD hxs ⟨⟨⟨i0, i1⟩, i2⟩, i3⟩ hK
                have hpr := map_pt_snd hxs
                rw [hpr] at i0
                have HN := Lib.hid (HNM.out.step HAT.out (by rw [HCA.out]; exact i0))
                have hall : ∀ b, b < w8.heap.size → U.heap[b]? = w8.heap[b]? := fun b hb => by
                  by_cases e : b = bx + 2
                  · rw [e]; exact i1.trans HRES.out.symm
                  · exact i2 b hb e
                have SU := SX.out.carry i3 (fun i b _ hb => hall b hb)
                have HMK := (SX.out.marks 4).cons (fun b h1 h2 => hall b h1) hK (by omega) hD
                have SN := (SU.pick [0, 1, 2, 3]).add (.marks w.heap.size (D :: ds2)) HMK
                have hz : bq + 2 ≤ U.heap.size := by have h9 := SU.lt 5; have := HBR.out; omega
                have HLEN := Lib.hid (show (m : Int) + 1 = ((m + 1 : Nat) : Int) by omega)
                clear i0 i1 i2 i3 hK hxs hpr hall HMK SU
                go_wp2_with fail
                refine ⟨⟨m + 1, D :: ds2, _, _, _, _, _, _, _, _, _, _, _, _, _, _, _, by omega, rfl, HN.out, hz, SN⟩, ?_⟩
                simp [intOf] <;> omega
              case stop =>
                rintro D c' pre U hD hpre ⟨⟨⟨⟨rfl, i0⟩, i1⟩, i2⟩, i3⟩ hK
                have hfp : sigF ar A.pre = sigF ar (pre.map (·.t)) := firstG_prefix (map_pt_snd_prefix hpre) i0
                obtain ⟨C, hC⟩ : ∃ C, C = sigF ar (pre.map (·.t)) := ⟨_, rfl⟩
                rw [← hC] at hfp i0 i1
                have HF3 := Lib.hid (show codeF ar fs = C by rw [HF.out, firstG_hit HNM.out HAT.out (by rw [HCA.out, hfp]; exact i0), HCA.out, hfp])
                have HMK := Lib.hid ((SX.out.marks 4).cons (W' := U) (fun b h1 h2 => i2 b h1 (fun e => by rw [e, HRES.out] at h2; cases h2)) hK (by omega) hD)
                have I1 := Lib.hid i1; have I3 := Lib.hid i3
                clear i0 i1 i2 i3 hpre hK hC hfp
                gi_wp2
                refine retM_cell1 (D :: ds2) (.int .i64 C) (bx + 2) 3 I1.out HMK.out I3.out.size (fun w' q0 => by simp [results, Tryz.results20, go_sem, q0]) ?_
                intro w' hb'
                exact ⟨ret_int HF3.out.symm, I3.out.trans hb'⟩
            · have hcb : (c != 0) = true := by simp [hc]
              have HFI := Lib.hid (show codeF ar fs = c by rw [HF.out, firstG_hit HNM.out HAT.out (by unfold codeT; rw [if_pos (by rw [HC.out]; exact hc), HC.out]; exact hc)]; unfold codeT; rw [if_pos (by rw [HC.out]; exact hc), HC.out])
              obtain ⟨y0, y1⟩ := S4.one 2
              have hl2 := S4.lt 2
              have SB := Lib.hid S4
              clear S4 hc
              go_wp2_with fail
              refine retM_cell1 ds2 (.int .i64 c) (bx + 2) 3 (box1_set' (SB.out.block 2) _ rfl) ((SB.out.marks 4).kept (fun d hd => Below.heap_setCell _ _ _ _ (fun e => by have h9 : d = bx + 2 := e; subst h9; rw [SB.out.block 2] at hd; cases hd))) (by have := SB.out.size; simp at this; simp; omega) (fun w' q0 => by simp [results, Tryz.results20, go_sem, q0]) ?_
              intro w' hb'
              exact ⟨ret_int HFI.out.symm, (SB.out.bel.setCell (p := ⟨bx + 2, 0, none⟩) (by have := HBX.out; show w.heap.size ≤ bx + 2; omega) _).trans hb'⟩
          · obtain rfl : m = 2 := by omega
            have HLEN := Lib.hid (show (k : Int) + 1 = ((k + 1 : Nat) : Int) by omega)
            have S4 := S.pick [0, 1, 2, 4]
            have hz : bx + 3 ≤ wr.heap.size := by have := HBQ.out; omega
            clear S
            go_wp2_with fail
            refine ⟨⟨k + 1, ds2, _, _, _, _, _, _, _, _, _, _, _, _, _, _, _, _, _, _, _, _, _, _, _, _, _, _, _, by omega, rfl, (by rw [show 2 * (k + 1) = 2 * k + 2 by omega]; exact HNM.out), hz, S4⟩, ?_⟩
            simp [intOf] <;> omega
      · obtain rfl : k = fs.length := by omega
        have HFI := Lib.hid (show codeF ar fs = 0 by rw [HF.out, firstG_none (fun j t hj ht => HNO.out j t (by have := HTL.out; omega) ht)])
        obtain ⟨y0, y1⟩ := S.one 2
        have hl2 := S.lt 2
        have SB := Lib.hid S
        clear S
        go_wp2_with fail
        refine retM_cell1 ds (.int .i64 0) (bx + 2) 3 (box1_set' (SB.out.block 2) _ rfl) ((SB.out.marks 3).kept (fun d hd => Below.heap_setCell _ _ _ _ (fun e => by have h9 : d = bx + 2 := e; subst h9; rw [SB.out.block 2] at hd; cases hd))) (by have := SB.out.size; simp; omega) (fun w' q0 => by simp [results, Tryz.results20, go_sem, q0]) ?_
        intro w' hb'
        exact ⟨ret_int HFI.out.symm, (SB.out.bel.setCell (p := ⟨bx + 2, 0, none⟩) (by have := HBX.out; show w.heap.size ≤ bx + 2; omega) _).trans hb'⟩
end Go.Proofs.YtidgnbdlfngeaaaGreatDoor
