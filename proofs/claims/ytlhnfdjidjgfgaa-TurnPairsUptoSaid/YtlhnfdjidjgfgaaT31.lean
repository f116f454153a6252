/-
  Walks: tree.With.
-/
import Derived.Test.YtlhnfdjidjgfgaaProg
import Derived.Test.YtlhnfdjidjgfgaaBase
import Derived.Test.YtlhnfdjidjgfgaaXd
import Derived.Test.YtlhnfdjidjgfgaaT25
namespace Go.Proofs.Ytlhnfdjidjgfgaa
open Go.RowKit Go.Shelf
set_option linter.unusedVariables false
set_option maxHeartbeats 400000

def T.withAt : List Int → T → T → T
  | [], _, s => s
  | p :: ps, t, s => .node t.head (t.kids.mapIdx fun i k => if (i : Int) + 1 = p then T.withAt ps k s else k)
theorem gK_mapIdx (f : Nat → T → T) (l : List T) {i : Nat} (h : i < l.length) : gK (l.mapIdx f) i = f i (gK l i) := by
  simp [gK, h]

set_option maxRecDepth 100000 in
set_option maxHeartbeats 8000000 in
theorem with51 (s : T) : ∀ (place : List Int) (t : T) (v : Value) (po : Option Addr) (pc : Nat) (sv : Value) (w : World), TreeAt w v t → TreeAt w sv s → CellsAt w po place.length (fun j => .int .i64 (gI place j)) → place.length ≤ pc → pc ≤ 9223372036854775807 → t.size ≤ 100000000 → s.size ≤ 100000000 →
    Calls Try.prog 139 #[v, .slice po place.length pc, sv] w fun e w' => ∃ u, e = .returned u ∧ TreeP (fun b => w.heap.size ≤ b) w' u (T.withAt place t s) ∧ Below w.heap.size w w' := by
  intro place
  induction place with
  | nil =>
    intro t v po pc sv w ht hs hp hpc hpm hsz hssz
    obtain ⟨ao, sp, rfl⟩ := ht.form
    obtain ⟨so, ssp, rfl⟩ := hs.form
    have HS := Lib.hid hs
    clear ht hs hp
    have h5 := heap_alloc_old (o' := .cells #[.int .i64 0, .slice none 0 0] 38) (heap_ofAlloc (w.alloc (.cells #[.int .i64 t.head, .slice ao t.kids.length (t.kids.length + sp)] 38)) (.cells #[.int .i64 s.head, .slice so s.kids.length (s.kids.length + ssp)] 38))
    have h6 := heap_ofAlloc ((w.alloc (.cells #[.int .i64 t.head, .slice ao t.kids.length (t.kids.length + sp)] 38)).alloc (.cells #[.int .i64 s.head, .slice so s.kids.length (s.kids.length + ssp)] 38)) (.cells #[.int .i64 0, .slice none 0 0] 38)
    rw [World.size_alloc] at h5
    rw [World.size_alloc, World.size_alloc] at h6
    have hb0 := (((Below.refl w.heap.size w).alloc (Nat.le_refl _) (.cells #[.int .i64 t.head, .slice ao t.kids.length (t.kids.length + sp)] 38)).alloc (by simp) (.cells #[.int .i64 s.head, .slice so s.kids.length (s.kids.length + ssp)] 38)).alloc (by simp; omega) (.cells #[.int .i64 0, .slice none 0 0] 38)
    obtain ⟨⟨x0, _⟩, x1, _⟩ := box2 h5
    go_enter Try.func139, Try.ntmps139
    go_wp2_with fail
    generalize ((w.alloc (.cells #[.int .i64 t.head, .slice ao t.kids.length (t.kids.length + sp)] 38)).alloc (.cells #[.int .i64 s.head, .slice so s.kids.length (s.kids.length + ssp)] 38)).alloc (.cells #[.int .i64 0, .slice none 0 0] 38) = w0 at h5 h6 hb0 x0 x1 ⊢
    refine (copy50 s _ w0 (HS.out.kept hb0) hssz).mono ?_
    rintro e w2 ⟨u, rfl, hu, hb2⟩
    obtain ⟨uk, usp, rfl⟩ := hu.at.form
    have HU := Lib.hid hu
    have ha2 := Below.heapAt hb2 h6
    have HB2 := Lib.hid (Below.step hb0 hb2)
    have hl0 := heap_lt h6
    clear hu hb2 x0 x1 h5 h6 hb0
    have hal := heap_lt ha2
    obtain ⟨⟨y0, y1⟩, y2, y3⟩ := box2 ha2
    go_wp2_with fail
    refine ret_box2 (.int .i64 s.head) (.slice uk s.kids.length (s.kids.length + usp)) (w.heap.size + 1 + 1) 38 (box2_set ha2 _ _) (fun w' q0 q1 => by simp [results, Try.results139, go_sem, q0, q1]) rfl ?_
    refine ⟨_, rfl, ?_, (HB2.out.setCell (p := ⟨w.heap.size + 1 + 1, 0, none⟩) (by simp; omega) _).setCell (p := ⟨w.heap.size + 1 + 1, 1, none⟩) (by simp; omega) _⟩
    exact ((HU.out.setCell (a := ⟨w.heap.size + 1 + 1, 0, none⟩) (by simp; omega) _).setCell (a := ⟨w.heap.size + 1 + 1, 1, none⟩) (by simp; omega) _).mono (fun b h _ => by omega)
  | cons p ps ih =>
    intro t v po pc sv w ht hs hp hpc hpm hsz hssz
    obtain ⟨ao, sp, rfl, hr, hml⟩ := ht.open
    obtain ⟨so, ssp, rfl⟩ := hs.form
    have hml : t.kids.length ≤ 9223372036854775807 := hml
    have hpl : ps.length + 1 ≤ pc := by simpa using hpc
    have HR := Lib.hid hr; have IH := Lib.hid ih; have HS := Lib.hid hs; have HP := Lib.hid hp; have HSS := Lib.hid hssz
    clear ht hr ih hs hp hpc hssz
    rw [List.length_cons]
    have h3 := heap_alloc_old (o' := .cells #[.int .i64 t.head, .slice none 0 0] 38) (heap_alloc_old (o' := .cells #[.int .i64 0, .slice none 0 0] 38) (heap_alloc_old (o' := .cells #[.int .i64 s.head, .slice so s.kids.length (s.kids.length + ssp)] 38) (heap_ofAlloc w (.cells #[.int .i64 t.head, .slice ao t.kids.length (t.kids.length + sp)] 38))))
    have h5 := heap_alloc_old (o' := .cells #[.int .i64 t.head, .slice none 0 0] 38) (heap_alloc_old (o' := .cells #[.int .i64 0, .slice none 0 0] 38) (heap_ofAlloc (w.alloc (.cells #[.int .i64 t.head, .slice ao t.kids.length (t.kids.length + sp)] 38)) (.cells #[.int .i64 s.head, .slice so s.kids.length (s.kids.length + ssp)] 38)))
    have h6 := heap_alloc_old (o' := .cells #[.int .i64 t.head, .slice none 0 0] 38) (heap_ofAlloc ((w.alloc (.cells #[.int .i64 t.head, .slice ao t.kids.length (t.kids.length + sp)] 38)).alloc (.cells #[.int .i64 s.head, .slice so s.kids.length (s.kids.length + ssp)] 38)) (.cells #[.int .i64 0, .slice none 0 0] 38))
    have h7 := heap_ofAlloc (((w.alloc (.cells #[.int .i64 t.head, .slice ao t.kids.length (t.kids.length + sp)] 38)).alloc (.cells #[.int .i64 s.head, .slice so s.kids.length (s.kids.length + ssp)] 38)).alloc (.cells #[.int .i64 0, .slice none 0 0] 38)) (.cells #[.int .i64 t.head, .slice none 0 0] 38)
    rw [World.size_alloc] at h5
    rw [World.size_alloc, World.size_alloc] at h6
    rw [World.size_alloc, World.size_alloc, World.size_alloc] at h7
    have hb0 := ((((Below.refl w.heap.size w).alloc (Nat.le_refl _) (.cells #[.int .i64 t.head, .slice ao t.kids.length (t.kids.length + sp)] 38)).alloc (by simp) (.cells #[.int .i64 s.head, .slice so s.kids.length (s.kids.length + ssp)] 38)).alloc (by simp; omega) (.cells #[.int .i64 0, .slice none 0 0] 38)).alloc (by simp; omega) (.cells #[.int .i64 t.head, .slice none 0 0] 38)
    have hlz : ((ps.length : Int) + 1 == 0) = false := by rw [beq_eq_false_iff_ne]; omega
    go_enter Try.func139, Try.ntmps139
    go_wp2_with fail
    have hsz0 : ((((w.alloc (.cells #[.int .i64 t.head, .slice ao t.kids.length (t.kids.length + sp)] 38)).alloc (.cells #[.int .i64 s.head, .slice so s.kids.length (s.kids.length + ssp)] 38)).alloc (.cells #[.int .i64 0, .slice none 0 0] 38)).alloc (.cells #[.int .i64 t.head, .slice none 0 0] 38)).heap.size = w.heap.size + 4 := by simp
    generalize (((w.alloc (.cells #[.int .i64 t.head, .slice ao t.kids.length (t.kids.length + sp)] 38)).alloc (.cells #[.int .i64 s.head, .slice so s.kids.length (s.kids.length + ssp)] 38)).alloc (.cells #[.int .i64 0, .slice none 0 0] 38)).alloc (.cells #[.int .i64 t.head, .slice none 0 0] 38) = w0 at h3 h5 h6 h7 hb0 hsz0 ⊢
    obtain ⟨b5, hb5⟩ : ∃ b, b = w.heap.size + 1 := ⟨_, rfl⟩
    obtain ⟨br, hbr⟩ : ∃ b, b = w.heap.size + 1 + 1 := ⟨_, rfl⟩
    obtain ⟨bo, hbo⟩ : ∃ b, b = w.heap.size + 1 + 1 + 1 := ⟨_, rfl⟩
    rw [← hbo] at h7 ⊢
    rw [← hbr] at h6 ⊢
    rw [← hb5] at h5 ⊢
    have X5 := Lib.hid h5; have X6 := Lib.hid h6; have X7 := Lib.hid h7; have HB0 := Lib.hid hb0
    have g5 : w.heap.size ≤ b5 := by omega
    have gr : w.heap.size ≤ br := by omega
    have go' : w.heap.size ≤ bo := by omega
    have l5 : b5 < w0.heap.size := by omega
    have lr : br < w0.heap.size := by omega
    have lo : bo < w0.heap.size := by omega
    have e1 : b5 ≠ bo := by omega
    have e2 : br ≠ bo := by omega
    have hw0 : w.heap.size ≤ w0.heap.size := by omega
    have HSZ := Lib.hid hsz
    obtain ⟨L, hL⟩ : ∃ L, L = t.kids.mapIdx (fun i k => if (i : Int) + 1 = p then T.withAt ps k s else k) := ⟨_, rfl⟩
    have HL := Lib.hid hL
    have hLl : L.length = t.kids.length := by rw [hL]; simp
    have HLL := Lib.hid hLl
    clear h3 h5 h6 h7 hb0 hb5 hbr hbo hsz hsz0 hL hLl
    obtain ⟨i24, gi, gz0, gz1, gz2⟩ := info_parts info24
    go_loopw [8, 9, 21] (fun _ _ i wr => ∃ (k : Nat) (o : Value), k ≤ t.kids.length ∧ i = .int .i64 k ∧ wr.heap[bo]? = some (.cells #[.int .i64 t.head, o] 38 (0, 0)) ∧ wr.heap[br]? = some (.cells #[.int .i64 0, .slice none 0 0] 38 (0, 0)) ∧
      wr.heap[b5]? = some (.cells #[.int .i64 s.head, .slice so s.kids.length (s.kids.length + ssp)] 38 (0, 0)) ∧ RowOwn (fun b => w0.heap.size ≤ b) w0.heap.size wr o (L.take k) ∧ Below w.heap.size w wr ∧ w0.heap.size ≤ wr.heap.size) (fun _ _ i _ => t.kids.length - (intOf i).toNat)
    case atStart => exact ⟨0, .slice none 0 0, by omega, rfl, X7.out, X6.out, X5.out, RowOwn.nil _ _ _, HB0.out, Nat.le_refl _⟩
    case round =>
      obtain ⟨k, o, hk, rfl, ho, hres, hs5, hrow, hb, hws⟩ := hrel
      by_cases hlt : k < t.kids.length
      · have hltn : (k : Int) < (t.kids.length : Int) := by omega
        obtain ⟨b, off, ko, ksp, rfl, c1, c2, c3⟩ := (HR.out.below hb) k hlt
        have HC := Lib.hid c3
        have HKS := Lib.hid (show (gK t.kids k).size ≤ 100000000 by have h1 := kid_size hlt; have h2 := HSZ.out; rw [T.size_eq] at h2; omega)
        have hkm : k ≤ 100000000 := by have h1 := length_le_sizeL t.kids; have h2 := HSZ.out; rw [T.size_eq] at h2; omega
        have HTK := Lib.hid (show L.take (k + 1) = L.take k ++ [gK L k] from take_gK (by rw [HLL.out]; exact hlt))
        have HGK := Lib.hid (show gK L k = if (k : Int) + 1 = p then T.withAt ps (gK t.kids k) s else gK t.kids k by rw [HL.out, gK_mapIdx _ _ hlt])
        have hlk : (L.take k).length = k := by simp [HLL.out]; omega
        obtain ⟨cs, hown, hkids⟩ := hrow
        rw [hlk] at hown hkids
        have HKI := Lib.hid hkids
        have hcl : cs.length = k * 2 := hown.1
        have HCL := Lib.hid hcl; have HLK := Lib.hid hlk
        have HRES := Lib.hid hres; have HS5 := Lib.hid hs5; have HO := Lib.hid ho
        have HOWN := Lib.hid hown
        have HB := Lib.hid hb; have HWS := Lib.hid hws
        obtain ⟨pb, poff, rfl, hp0⟩ := (HP.out.below hb).get (show 0 < (p :: ps).length by simp)
        rw [show gI (p :: ps) 0 = p from rfl, Nat.add_zero] at hp0
        have hbW := (Below.refl wr.heap.size wr).alloc (Nat.le_refl _) (.cells #[.int .i64 (gK t.kids k).head, .slice ko (gK t.kids k).kids.length ((gK t.kids k).kids.length + ksp)] 38)
        have h9 := heap_ofAlloc wr (.cells #[.int .i64 (gK t.kids k).head, .slice ko (gK t.kids k).kids.length ((gK t.kids k).kids.length + ksp)] 38)
        have hs1 : wr.heap.size < (wr.alloc (.cells #[.int .i64 (gK t.kids k).head, .slice ko (gK t.kids k).kids.length ((gK t.kids k).kids.length + ksp)] 38)).heap.size := by simp
        have p0 := Below.cellOf hbW hp0
        have q5 := Below.heapAt hbW hs5
        clear c3 hlk hkids hown hcl hres hs5 hb ho hp0
        by_cases hpk : (k : Int) + 1 = p
        · have HGK := Lib.hid (show gK L k = T.withAt ps (gK t.kids k) s by rw [HGK.out, if_pos hpk])
          subst hpk
          go_wp2_with fail
          generalize wr.alloc (.cells #[.int .i64 (gK t.kids k).head, .slice ko (gK t.kids k).kids.length ((gK t.kids k).kids.length + ksp)] 38) = W1 at hbW h9 hs1 p0 q5 ⊢
          have h1l : (1 : Int) ≤ (ps.length : Int) + 1 := by omega
          obtain ⟨⟨x0, _⟩, x1, _⟩ := box2 (w := W1.drew) h9
          obtain ⟨⟨y0, _⟩, y1, _⟩ := box2 (w := W1.drew) q5
          have hl9 := heap_lt h9
          have HW1 := Lib.hid hbW.drew
          have HBW1 := Lib.hid (Below.step HB.out hbW.drew)
          have H9 := Lib.hid (show W1.drew.heap[wr.heap.size]? = some (.cells #[.int .i64 (gK t.kids k).head, .slice ko (gK t.kids k).kids.length ((gK t.kids k).kids.length + ksp)] 38 (0, 0)) from h9)
          have HPS := Lib.hid (show CellsAt W1.drew (if pc = 1 then some ⟨pb, poff, none⟩ else some ⟨pb, poff + 1, none⟩) ps.length (fun j => .int .i64 (gI ps j)) from fun j hj => by
            rw [if_neg (by omega)]
            obtain ⟨b', off', e, hc⟩ := (HP.out.below HBW1.out) (j + 1) (by simp; omega)
            obtain ⟨rfl, rfl⟩ : pb = b' ∧ poff = off' := by simpa using e
            exact ⟨pb, poff + 1, rfl, by rw [show poff + 1 + j = poff + (j + 1) by omega]; exact hc⟩)
          have HKC := Lib.hid (HC.out.kept HW1.out)
          have HSC := Lib.hid (HS.out.kept HBW1.out)
          have hp1 : ps.length ≤ pc - 1 := by omega
          have hp2 : pc - 1 ≤ 9223372036854775807 := by omega
          clear h9 q5 hbW c1 c2 p0
          go_region_law (go_simp; go_at_call 139; refine (IH.out (gK t.kids k) _ _ _ _ _ HKC.out HSC.out HPS.out hp1 hp2 HKS.out HSS.out).mono ?_; rintro e w2 ⟨u, rfl, hu, hb2⟩; obtain ⟨uk, usp, rfl⟩ := hu.at.form; have HU := Lib.hid hu; have HB2 := Lib.hid hb2; have hl2 := heap_lt (Below.heapAt hb2 H9.out); obtain ⟨⟨v0, v1⟩, v2, v3⟩ := box2 (Below.heapAt hb2 H9.out); clear hu hb2)
          all_goals
            generalize (if pc = 1 then (some ⟨pb, poff, none⟩ : Option Addr) else some ⟨pb, poff + 1, none⟩) = pa
            have HBR2 := Lib.hid (Below.step HW1.out HB2.out)
            have hlo1 := heap_lt HO.out
            have hne1 : ¬ bo = wr.heap.size := by omega
            have hne2 : ¬ wr.heap.size = bo := by omega
            have hs2 : wr.heap.size < w2.heap.size := by have h1 : W1.heap.size ≤ w2.heap.size := HB2.out.size; omega
            have hlo2 : bo < w2.heap.size := by omega
            obtain ⟨⟨t0, t1⟩, t2, t3⟩ := box2 (Below.heapAt HBR2.out HO.out)
            have HWS3 := Lib.hid (show Below wr.heap.size wr ((w2.setCell ⟨wr.heap.size, 0, none⟩ (.int .i64 (T.withAt ps (gK t.kids k) s).head)).setCell ⟨wr.heap.size, 1, none⟩ (.slice uk (T.withAt ps (gK t.kids k) s).kids.length ((T.withAt ps (gK t.kids k) s).kids.length + usp))) from (HBR2.out.setCell (p := ⟨wr.heap.size, 0, none⟩) (Nat.le_refl _) _).setCell (p := ⟨wr.heap.size, 1, none⟩) (Nat.le_refl _) _)
            have HU3 := Lib.hid (show TreeP (fun b => W1.heap.size ≤ b) ((w2.setCell ⟨wr.heap.size, 0, none⟩ (.int .i64 (T.withAt ps (gK t.kids k) s).head)).setCell ⟨wr.heap.size, 1, none⟩ (.slice uk (T.withAt ps (gK t.kids k) s).kids.length ((T.withAt ps (gK t.kids k) s).kids.length + usp))) (.agg #[.int .i64 (T.withAt ps (gK t.kids k) s).head, .slice uk (T.withAt ps (gK t.kids k) s).kids.length ((T.withAt ps (gK t.kids k) s).kids.length + usp)]) (T.withAt ps (gK t.kids k) s) from (HU.out.setCell (a := ⟨wr.heap.size, 0, none⟩) (by simp; omega) _).setCell (a := ⟨wr.heap.size, 1, none⟩) (by simp; omega) _)
            have hsz3 : ((w2.setCell ⟨wr.heap.size, 0, none⟩ (.int .i64 (T.withAt ps (gK t.kids k) s).head)).setCell ⟨wr.heap.size, 1, none⟩ (.slice uk (T.withAt ps (gK t.kids k) s).kids.length ((T.withAt ps (gK t.kids k) s).kids.length + usp))).heap.size = w2.heap.size := by simp
            have HOW2 := Lib.hid (own_below HOWN.out HWS3.out)
            have HOF := Lib.hid (show o.ownBlock ≠ some bo from fun e => by have h3 := (HOWN.out.lt bo e).1; omega)
            have HRF := Lib.hid (show o.ownBlock ≠ some br from fun e => by have h3 := (HOWN.out.lt br e).1; omega)
            have H5F := Lib.hid (show o.ownBlock ≠ some b5 from fun e => by have h3 := (HOWN.out.lt b5 e).1; omega)
            have HX3 := Lib.hid (fun (w3 : World) (hg : (((w2.setCell ⟨wr.heap.size, 0, none⟩ (.int .i64 (T.withAt ps (gK t.kids k) s).head)).setCell ⟨wr.heap.size, 1, none⟩ (.slice uk (T.withAt ps (gK t.kids k) s).kids.length ((T.withAt ps (gK t.kids k) s).kids.length + usp))).alloc (.cells #[.int .i64 (T.withAt ps (gK t.kids k) s).head, .slice uk (T.withAt ps (gK t.kids k) s).kids.length ((T.withAt ps (gK t.kids k) s).kids.length + usp)] 38)).grownBy w3 o.ownBlock) => show ∀ b, b < wr.heap.size → o.ownBlock ≠ some b → w3.heap[b]? = wr.heap[b]? from fun b hbl hne => ((hg.block b (by simp; omega) (fun e => hne e.symm)).trans (Below.heap_alloc ((w2.setCell ⟨wr.heap.size, 0, none⟩ (.int .i64 (T.withAt ps (gK t.kids k) s).head)).setCell ⟨wr.heap.size, 1, none⟩ (.slice uk (T.withAt ps (gK t.kids k) s).kids.length ((T.withAt ps (gK t.kids k) s).kids.length + usp))) _ b (by simp; omega))).trans (HWS3.out.block b hbl))
            have HUX := Lib.hid (fun (w3 : World) (hg : (((w2.setCell ⟨wr.heap.size, 0, none⟩ (.int .i64 (T.withAt ps (gK t.kids k) s).head)).setCell ⟨wr.heap.size, 1, none⟩ (.slice uk (T.withAt ps (gK t.kids k) s).kids.length ((T.withAt ps (gK t.kids k) s).kids.length + usp))).alloc (.cells #[.int .i64 (T.withAt ps (gK t.kids k) s).head, .slice uk (T.withAt ps (gK t.kids k) s).kids.length ((T.withAt ps (gK t.kids k) s).kids.length + usp)] 38)).grownBy w3 o.ownBlock) => show ∀ b, W1.heap.size ≤ b → b < w2.heap.size → w3.heap[b]? = ((w2.setCell ⟨wr.heap.size, 0, none⟩ (.int .i64 (T.withAt ps (gK t.kids k) s).head)).setCell ⟨wr.heap.size, 1, none⟩ (.slice uk (T.withAt ps (gK t.kids k) s).kids.length ((T.withAt ps (gK t.kids k) s).kids.length + usp))).heap[b]? from fun b h1 h2 => (hg.block b (by simp; omega) (fun e => by have h3 := (HOWN.out.lt b e.symm).2; omega)).trans (Below.heap_alloc ((w2.setCell ⟨wr.heap.size, 0, none⟩ (.int .i64 (T.withAt ps (gK t.kids k) s).head)).setCell ⟨wr.heap.size, 1, none⟩ (.slice uk (T.withAt ps (gK t.kids k) s).kids.length ((T.withAt ps (gK t.kids k) s).kids.length + usp))) _ b (by simp; omega)))
            have hnw := heap_ofAlloc ((w2.setCell ⟨wr.heap.size, 0, none⟩ (.int .i64 (T.withAt ps (gK t.kids k) s).head)).setCell ⟨wr.heap.size, 1, none⟩ (.slice uk (T.withAt ps (gK t.kids k) s).kids.length ((T.withAt ps (gK t.kids k) s).kids.length + usp))) (.cells #[.int .i64 (T.withAt ps (gK t.kids k) s).head, .slice uk (T.withAt ps (gK t.kids k) s).kids.length ((T.withAt ps (gK t.kids k) s).kids.length + usp)] 38)
            rw [hsz3] at hnw
            have HNW := Lib.hid hnw
            clear hnw
            go_wp2_with (at_builtin; refine wpList_append_lies _ rfl (.tmp 40) (.tmp 42) 32 rfl w0.heap.size 38 i24 (.agg #[.int .i64 0, .slice none 0 0]) 2 32 Try.underlying32 gi gz0 gz1 gz2 rfl (by decide) o k cs rfl (HOW2.out.alloc _) ⟨w2.heap.size, 0, none⟩ 1 1 [.int .i64 (T.withAt ps (gK t.kids k) s).head, .slice uk (T.withAt ps (gK t.kids k) s).kids.length ((T.withAt ps (gK t.kids k) s).kids.length + usp)] rfl (by rfl) (World.news_of_block (cs := #[.int .i64 (T.withAt ps (gK t.kids k) s).head, .slice uk (T.withAt ps (gK t.kids k) s).kids.length ((T.withAt ps (gK t.kids k) s).kids.length + usp)]) (t := 38) (fr := (0, 0)) HNW.out) (by simp [Value.oneCell']) (by omega) ?c2 ?c3 ?c4 (w2.heap.size + 1) ?c5 ?_)
            case c2 => unfold maxLen; omega
            case c3 => omega
            case c4 => simp; omega
            case c5 => simp
            intro gg cap w3 hown3 hgrow3 hat3 hlt3
            have HO3 := Lib.hid hown3; have HG3 := Lib.hid hgrow3; have HAT := Lib.hid hat3
            clear hown3 hgrow3 hat3
            obtain ⟨⟨u0, u1⟩, u2, u3⟩ := box2 ((HX3.out _ HG3.out bo hlo1 HOF.out).trans HO.out)
            have hlo3 := heap_lt ((HX3.out _ HG3.out bo hlo1 HOF.out).trans HO.out)
            have hfin : RowOwn (fun b => w0.heap.size ≤ b) w0.heap.size (w3.setCell ⟨bo, 1, none⟩ (.slice (some ⟨gg, 0, none⟩) (k + 1) cap)) (.slice (some ⟨gg, 0, none⟩) (k + 1) cap) (L.take k ++ [(T.withAt ps (gK t.kids k) s)]) := by
              have hsame : ∀ b, w0.heap.size ≤ b → (w3.setCell ⟨bo, 1, none⟩ (.slice (some ⟨gg, 0, none⟩) (k + 1) cap)).heap[b]? = w3.heap[b]? := fun b hb => Below.heap_setCell w3 _ _ b (by simp; omega)
              refine RowOwn.push (by rw [HLK.out]; exact ownsRow_setCell_below HO3.out lo _) (by rw [HLK.out]; exact HCL.out) (fun i hi => ?_) ?_
              · rw [HLK.out] at hi
                obtain ⟨k', sp', e1, e2, e3⟩ := HKI.out i hi
                refine ⟨k', sp', e1, e2, ?_⟩
                have q1 := e3.mono (q := fun b => w0.heap.size ≤ b ∧ o.ownBlock ≠ some b ∧ b < wr.heap.size) (fun b h h2 => ⟨h.1, h.2, h2⟩)
                have q2 := q1.carry (w' := w3.setCell ⟨bo, 1, none⟩ (.slice (some ⟨gg, 0, none⟩) (k + 1) cap)) (fun b h _ => (hsame b h.1).trans (HX3.out _ HG3.out b h.2.2 h.2.1))
                exact q2.mono (fun b h _ => ⟨h.1, fun e => by
                  have e' : gg = b := by simpa [Value.ownBlock] using e
                  rcases HAT.out with h4 | h4
                  · exact h.2.1 (by rw [h4, e'])
                  · have := h.2.2; omega⟩)
              · have q1 := HU3.out.mono (q := fun b => W1.heap.size ≤ b ∧ b < w2.heap.size) (fun b h h2 => ⟨h, by rw [hsz3] at h2; exact h2⟩)
                have q2 := q1.carry (w' := w3.setCell ⟨bo, 1, none⟩ (.slice (some ⟨gg, 0, none⟩) (k + 1) cap)) (fun b h _ => (hsame b (by have := h.1; omega)).trans (HUX.out _ HG3.out b h.1 h.2))
                exact q2.mono (fun b h _ => ⟨by have := h.1; omega, fun e => by
                  have e' : gg = b := by simpa [Value.ownBlock] using e
                  rcases HAT.out with h4 | h4
                  · have h3 := (HOWN.out.lt gg h4).2; have := h.1; omega
                  · have := h.2; omega⟩)
            have HFIN := Lib.hid hfin
            have hset := box2_set1 ((HX3.out _ HG3.out bo hlo1 HOF.out).trans HO.out) (.slice (some ⟨gg, 0, none⟩) (k + 1) cap)
            have hbr3 := heap_set_other (a := ⟨bo, 1, none⟩) (u := .slice (some ⟨gg, 0, none⟩) (k + 1) cap) ((HX3.out _ HG3.out br (heap_lt HRES.out) HRF.out).trans HRES.out) e2
            have hb53 := heap_set_other (a := ⟨bo, 1, none⟩) (u := .slice (some ⟨gg, 0, none⟩) (k + 1) cap) ((HX3.out _ HG3.out b5 (heap_lt HS5.out) H5F.out).trans HS5.out) e1
            have hbel3 : Below w.heap.size w w3 := ((Below.step HB.out HWS3.out).alloc (by have := (Below.step HB.out HWS3.out).size; omega) _).grown HG3.out (by simp; omega) (fun q hq => by have := (HOWN.out.lt q hq).1; omega)
            have hbel4 := hbel3.setCell (p := ⟨bo, 1, none⟩) go' (.slice (some ⟨gg, 0, none⟩) (k + 1) cap)
            have hsz4 : w0.heap.size ≤ (w3.setCell ⟨bo, 1, none⟩ (.slice (some ⟨gg, 0, none⟩) (k + 1) cap)).heap.size := by simp; have := HG3.out.size; simp at this; omega
            clear hfin
            go_wp2_with fail
            go_roundw
            case rel => exact ⟨k + 1, _, by omega, by go_num, hset, hbr3, hb53, by rw [HTK.out, HGK.out]; exact HFIN.out, hbel4, hsz4⟩
            case measure => simp [intOf] <;> omega
        · have HGK := Lib.hid (show gK L k = gK t.kids k by rw [HGK.out, if_neg hpk])
          go_wp2_with fail
          generalize wr.alloc (.cells #[.int .i64 (gK t.kids k).head, .slice ko (gK t.kids k).kids.length ((gK t.kids k).kids.length + ksp)] 38) = W1 at hbW h9 hs1 p0 q5 ⊢
          have HW1 := Lib.hid hbW
          have H9 := Lib.hid h9
          refine (copy50 (gK t.kids k) _ W1 (HC.out.kept hbW) HKS.out).mono ?_
          rintro e w2 ⟨u, rfl, hu, hb2⟩; obtain ⟨uk, usp, rfl⟩ := hu.at.form
          have HU := Lib.hid hu
          have HB2 := Lib.hid hb2
          have hl2 := heap_lt (Below.heapAt hb2 H9.out)
          obtain ⟨⟨v0, v1⟩, v2, v3⟩ := box2 (Below.heapAt hb2 H9.out)
          clear hu hb2 h9 q5 hbW c1 c2 p0
          have HBR2 := Lib.hid (Below.step HW1.out HB2.out)
          have hlo1 := heap_lt HO.out
          have hne1 : ¬ bo = wr.heap.size := by omega
          have hne2 : ¬ wr.heap.size = bo := by omega
          have hs2 : wr.heap.size < w2.heap.size := by have h1 : W1.heap.size ≤ w2.heap.size := HB2.out.size; omega
          have hlo2 : bo < w2.heap.size := by omega
          obtain ⟨⟨t0, t1⟩, t2, t3⟩ := box2 (Below.heapAt HBR2.out HO.out)
          have HWS3 := Lib.hid (show Below wr.heap.size wr ((w2.setCell ⟨wr.heap.size, 0, none⟩ (.int .i64 (gK t.kids k).head)).setCell ⟨wr.heap.size, 1, none⟩ (.slice uk (gK t.kids k).kids.length ((gK t.kids k).kids.length + usp))) from (HBR2.out.setCell (p := ⟨wr.heap.size, 0, none⟩) (Nat.le_refl _) _).setCell (p := ⟨wr.heap.size, 1, none⟩) (Nat.le_refl _) _)
          have HU3 := Lib.hid (show TreeP (fun b => W1.heap.size ≤ b) ((w2.setCell ⟨wr.heap.size, 0, none⟩ (.int .i64 (gK t.kids k).head)).setCell ⟨wr.heap.size, 1, none⟩ (.slice uk (gK t.kids k).kids.length ((gK t.kids k).kids.length + usp))) (.agg #[.int .i64 (gK t.kids k).head, .slice uk (gK t.kids k).kids.length ((gK t.kids k).kids.length + usp)]) (gK t.kids k) from (HU.out.setCell (a := ⟨wr.heap.size, 0, none⟩) (by simp; omega) _).setCell (a := ⟨wr.heap.size, 1, none⟩) (by simp; omega) _)
          have hsz3 : ((w2.setCell ⟨wr.heap.size, 0, none⟩ (.int .i64 (gK t.kids k).head)).setCell ⟨wr.heap.size, 1, none⟩ (.slice uk (gK t.kids k).kids.length ((gK t.kids k).kids.length + usp))).heap.size = w2.heap.size := by simp
          have HOW2 := Lib.hid (own_below HOWN.out HWS3.out)
          have HOF := Lib.hid (show o.ownBlock ≠ some bo from fun e => by have h3 := (HOWN.out.lt bo e).1; omega)
          have HRF := Lib.hid (show o.ownBlock ≠ some br from fun e => by have h3 := (HOWN.out.lt br e).1; omega)
          have H5F := Lib.hid (show o.ownBlock ≠ some b5 from fun e => by have h3 := (HOWN.out.lt b5 e).1; omega)
          have HX3 := Lib.hid (fun (w3 : World) (hg : (((w2.setCell ⟨wr.heap.size, 0, none⟩ (.int .i64 (gK t.kids k).head)).setCell ⟨wr.heap.size, 1, none⟩ (.slice uk (gK t.kids k).kids.length ((gK t.kids k).kids.length + usp))).alloc (.cells #[.int .i64 (gK t.kids k).head, .slice uk (gK t.kids k).kids.length ((gK t.kids k).kids.length + usp)] 38)).grownBy w3 o.ownBlock) => show ∀ b, b < wr.heap.size → o.ownBlock ≠ some b → w3.heap[b]? = wr.heap[b]? from fun b hbl hne => ((hg.block b (by simp; omega) (fun e => hne e.symm)).trans (Below.heap_alloc ((w2.setCell ⟨wr.heap.size, 0, none⟩ (.int .i64 (gK t.kids k).head)).setCell ⟨wr.heap.size, 1, none⟩ (.slice uk (gK t.kids k).kids.length ((gK t.kids k).kids.length + usp))) _ b (by simp; omega))).trans (HWS3.out.block b hbl))
          have HUX := Lib.hid (fun (w3 : World) (hg : (((w2.setCell ⟨wr.heap.size, 0, none⟩ (.int .i64 (gK t.kids k).head)).setCell ⟨wr.heap.size, 1, none⟩ (.slice uk (gK t.kids k).kids.length ((gK t.kids k).kids.length + usp))).alloc (.cells #[.int .i64 (gK t.kids k).head, .slice uk (gK t.kids k).kids.length ((gK t.kids k).kids.length + usp)] 38)).grownBy w3 o.ownBlock) => show ∀ b, W1.heap.size ≤ b → b < w2.heap.size → w3.heap[b]? = ((w2.setCell ⟨wr.heap.size, 0, none⟩ (.int .i64 (gK t.kids k).head)).setCell ⟨wr.heap.size, 1, none⟩ (.slice uk (gK t.kids k).kids.length ((gK t.kids k).kids.length + usp))).heap[b]? from fun b h1 h2 => (hg.block b (by simp; omega) (fun e => by have h3 := (HOWN.out.lt b e.symm).2; omega)).trans (Below.heap_alloc ((w2.setCell ⟨wr.heap.size, 0, none⟩ (.int .i64 (gK t.kids k).head)).setCell ⟨wr.heap.size, 1, none⟩ (.slice uk (gK t.kids k).kids.length ((gK t.kids k).kids.length + usp))) _ b (by simp; omega)))
          have hnw := heap_ofAlloc ((w2.setCell ⟨wr.heap.size, 0, none⟩ (.int .i64 (gK t.kids k).head)).setCell ⟨wr.heap.size, 1, none⟩ (.slice uk (gK t.kids k).kids.length ((gK t.kids k).kids.length + usp))) (.cells #[.int .i64 (gK t.kids k).head, .slice uk (gK t.kids k).kids.length ((gK t.kids k).kids.length + usp)] 38)
          rw [hsz3] at hnw
          have HNW := Lib.hid hnw
          clear hnw
          go_wp2_with (at_builtin; refine wpList_append_lies _ rfl (.tmp 40) (.tmp 42) 32 rfl w0.heap.size 38 i24 (.agg #[.int .i64 0, .slice none 0 0]) 2 32 Try.underlying32 gi gz0 gz1 gz2 rfl (by decide) o k cs rfl (HOW2.out.alloc _) ⟨w2.heap.size, 0, none⟩ 1 1 [.int .i64 (gK t.kids k).head, .slice uk (gK t.kids k).kids.length ((gK t.kids k).kids.length + usp)] rfl (by rfl) (World.news_of_block (cs := #[.int .i64 (gK t.kids k).head, .slice uk (gK t.kids k).kids.length ((gK t.kids k).kids.length + usp)]) (t := 38) (fr := (0, 0)) HNW.out) (by simp [Value.oneCell']) (by omega) ?c2 ?c3 ?c4 (w2.heap.size + 1) ?c5 ?_)
          case c2 => unfold maxLen; omega
          case c3 => omega
          case c4 => simp; omega
          case c5 => simp
          intro gg cap w3 hown3 hgrow3 hat3 hlt3
          have HO3 := Lib.hid hown3; have HG3 := Lib.hid hgrow3; have HAT := Lib.hid hat3
          clear hown3 hgrow3 hat3
          obtain ⟨⟨u0, u1⟩, u2, u3⟩ := box2 ((HX3.out _ HG3.out bo hlo1 HOF.out).trans HO.out)
          have hlo3 := heap_lt ((HX3.out _ HG3.out bo hlo1 HOF.out).trans HO.out)
          have hfin : RowOwn (fun b => w0.heap.size ≤ b) w0.heap.size (w3.setCell ⟨bo, 1, none⟩ (.slice (some ⟨gg, 0, none⟩) (k + 1) cap)) (.slice (some ⟨gg, 0, none⟩) (k + 1) cap) (L.take k ++ [(gK t.kids k)]) := by
            have hsame : ∀ b, w0.heap.size ≤ b → (w3.setCell ⟨bo, 1, none⟩ (.slice (some ⟨gg, 0, none⟩) (k + 1) cap)).heap[b]? = w3.heap[b]? := fun b hb => Below.heap_setCell w3 _ _ b (by simp; omega)
            refine RowOwn.push (by rw [HLK.out]; exact ownsRow_setCell_below HO3.out lo _) (by rw [HLK.out]; exact HCL.out) (fun i hi => ?_) ?_
            · rw [HLK.out] at hi
              obtain ⟨k', sp', e1, e2, e3⟩ := HKI.out i hi
              refine ⟨k', sp', e1, e2, ?_⟩
              have q1 := e3.mono (q := fun b => w0.heap.size ≤ b ∧ o.ownBlock ≠ some b ∧ b < wr.heap.size) (fun b h h2 => ⟨h.1, h.2, h2⟩)
              have q2 := q1.carry (w' := w3.setCell ⟨bo, 1, none⟩ (.slice (some ⟨gg, 0, none⟩) (k + 1) cap)) (fun b h _ => (hsame b h.1).trans (HX3.out _ HG3.out b h.2.2 h.2.1))
              exact q2.mono (fun b h _ => ⟨h.1, fun e => by
                have e' : gg = b := by simpa [Value.ownBlock] using e
                rcases HAT.out with h4 | h4
                · exact h.2.1 (by rw [h4, e'])
                · have := h.2.2; omega⟩)
            · have q1 := HU3.out.mono (q := fun b => W1.heap.size ≤ b ∧ b < w2.heap.size) (fun b h h2 => ⟨h, by rw [hsz3] at h2; exact h2⟩)
              have q2 := q1.carry (w' := w3.setCell ⟨bo, 1, none⟩ (.slice (some ⟨gg, 0, none⟩) (k + 1) cap)) (fun b h _ => (hsame b (by have := h.1; omega)).trans (HUX.out _ HG3.out b h.1 h.2))
              exact q2.mono (fun b h _ => ⟨by have := h.1; omega, fun e => by
                have e' : gg = b := by simpa [Value.ownBlock] using e
                rcases HAT.out with h4 | h4
                · have h3 := (HOWN.out.lt gg h4).2; have := h.1; omega
                · have := h.2; omega⟩)
          have HFIN := Lib.hid hfin
          have hset := box2_set1 ((HX3.out _ HG3.out bo hlo1 HOF.out).trans HO.out) (.slice (some ⟨gg, 0, none⟩) (k + 1) cap)
          have hbr3 := heap_set_other (a := ⟨bo, 1, none⟩) (u := .slice (some ⟨gg, 0, none⟩) (k + 1) cap) ((HX3.out _ HG3.out br (heap_lt HRES.out) HRF.out).trans HRES.out) e2
          have hb53 := heap_set_other (a := ⟨bo, 1, none⟩) (u := .slice (some ⟨gg, 0, none⟩) (k + 1) cap) ((HX3.out _ HG3.out b5 (heap_lt HS5.out) H5F.out).trans HS5.out) e1
          have hbel3 : Below w.heap.size w w3 := ((Below.step HB.out HWS3.out).alloc (by have := (Below.step HB.out HWS3.out).size; omega) _).grown HG3.out (by simp; omega) (fun q hq => by have := (HOWN.out.lt q hq).1; omega)
          have hbel4 := hbel3.setCell (p := ⟨bo, 1, none⟩) go' (.slice (some ⟨gg, 0, none⟩) (k + 1) cap)
          have hsz4 : w0.heap.size ≤ (w3.setCell ⟨bo, 1, none⟩ (.slice (some ⟨gg, 0, none⟩) (k + 1) cap)).heap.size := by simp; have := HG3.out.size; simp at this; omega
          clear hfin
          go_wp2_with fail
          go_roundw
          case rel => exact ⟨k + 1, _, by omega, by go_num, hset, hbr3, hb53, by rw [HTK.out, HGK.out]; exact HFIN.out, hbel4, hsz4⟩
          case measure => simp [intOf] <;> omega
      · obtain rfl : k = t.kids.length := by omega
        rw [show L.take t.kids.length = L by rw [← HLL.out, List.take_length]] at hrow
        obtain ⟨ao', sp', rfl, hrow', hml'⟩ := hrow.row (fun _ h => h)
        have HT := Lib.hid (TreeP.close (h := t.head) (sp := sp') hrow' hml')
        rw [HLL.out] at HT ho
        have HWA := Lib.hid (show T.withAt (p :: ps) t s = .node t.head L by rw [HL.out]; rfl)
        clear hrow hrow'
        have l1 := heap_lt ho; have l2 := heap_lt hres
        obtain ⟨⟨x0, x1⟩, x2, x3⟩ := box2 ho
        obtain ⟨⟨y0, y1⟩, y2, y3⟩ := box2 hres
        go_wp2_with fail
        refine ret_box2 (.int .i64 t.head) (.slice ao' t.kids.length (t.kids.length + sp')) br 38 (box2_set hres _ _) (fun w' q0 q1 => by simp [results, Try.results139, go_sem, q0, q1]) rfl ?_
        refine ⟨_, rfl, ?_, (hb.setCell (p := ⟨br, 0, none⟩) gr _).setCell (p := ⟨br, 1, none⟩) gr _⟩
        rw [HWA.out]
        exact ((HT.out.setCell (a := ⟨br, 0, none⟩) (by simp; omega) _).setCell (a := ⟨br, 1, none⟩) (by simp; omega) _).mono (fun b h _ => by omega)
end Go.Proofs.Ytlhnfdjidjgfgaa
