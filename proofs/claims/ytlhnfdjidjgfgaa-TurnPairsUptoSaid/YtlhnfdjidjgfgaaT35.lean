/-
  Walks: the document's Laid.
-/
import Derived.Test.YtlhnfdjidjgfgaaProg
import Derived.Test.YtlhnfdjidjgfgaaBase
import Derived.Test.YtlhnfdjidjgfgaaXb
import Derived.Test.YtlhnfdjidjgfgaaT31
import Derived.Deep.AppendLies
namespace Go.Proofs.Ytlhnfdjidjgfgaa
open Go.RowKit Go.Shelf
set_option linter.unusedVariables false
set_option maxHeartbeats 400000

theorem TreeP.far {p : Nat → Prop} {w w' : World} {v : Value} {t : T} (hb : Below w.heap.size w w') (h : TreeP p w v t) (q : Nat → Prop) (hq : ∀ b, p b → b < w.heap.size → q b) : TreeP q w' v t := (h.mono hq).kept hb

set_option maxRecDepth 100000 in
set_option maxHeartbeats 8000000 in
theorem laid33 (s : T) : ∀ (place : List Int) (t : T) (p0 : Nat → Prop) (v : Value) (po : Option Addr) (pc : Nat) (sv : Value) (w : World), (∀ b, p0 b → b < w.heap.size) → TreeP p0 w v t → TreeP p0 w sv s → CellsAt w po place.length (fun j => .int .i64 (gI place j)) → place.length ≤ pc → t.size ≤ 100000000 → (∀ z ∈ place, 1 ≤ z ∧ z ≤ 100000000) →
    Calls Try.prog 104 #[v, .slice po place.length pc, sv] w fun e w' => ∃ u, e = .returned u ∧ TreeP (fun b => p0 b ∨ w.heap.size ≤ b) w' u (T.withAt place t s) ∧ Below w.heap.size w w' := by
  intro place
  induction place with
  | nil =>
    intro t p0 v po pc sv w hp0 ht hs hp hpc hsz hz
    obtain ⟨ao, sp, rfl⟩ := ht.at.form
    obtain ⟨so, ssp, rfl⟩ := hs.at.form
    have HS := Lib.hid hs; have HP0 := Lib.hid hp0
    clear ht hs hp hp0
    have S0 := ((St.start w).box rfl #[.int .i64 t.head, .slice ao t.kids.length (t.kids.length + sp)] 38).box (b := w.heap.size + 1) (by simp) #[.int .i64 s.head, .slice so s.kids.length (s.kids.length + ssp)] 38
    obtain ⟨⟨x0, _⟩, x1, _⟩ := S0.two 1
    have S1 := S0.box (b := w.heap.size + 1 + 1) (by simp) #[.int .i64 s.head, .slice so s.kids.length (s.kids.length + ssp)] 38
    go_enter Try.func104, Try.ntmps104
    go_wp2_with fail
    refine ret_box2 (.int .i64 s.head) (.slice so s.kids.length (s.kids.length + ssp)) (w.heap.size + 1 + 1) 38 (S1.block 2) (fun w' q0 q1 => by simp [results, Try.results104, go_sem, q0, q1]) rfl ⟨_, rfl, ?_, S1.bel⟩
    rw [T.withAt]
    exact HS.out.far S1.bel _ (fun b h _ => .inl h)
  | cons p ps ih =>
    intro t p0 v po pc sv w hp0 ht hs hp hpc hsz hz
    obtain ⟨ao, sp, rfl, hr, hml⟩ := ht.open
    obtain ⟨so, ssp, rfl⟩ := hs.at.form
    have hml : t.kids.length ≤ 9223372036854775807 := hml
    have hpl : ps.length + 1 ≤ pc := by simpa using hpc
    have hp1 := hz p (by simp)
    have HZ := Lib.hid (fun z (h : z ∈ ps) => hz z (by simp [h]))
    have HR := Lib.hid hr; have IH := Lib.hid ih; have HS := Lib.hid hs; have HP := Lib.hid hp; have HP0 := Lib.hid hp0
    clear ht hr ih hs hp hpc hz hp0
    rw [List.length_cons]
    have S0 := (((St.start w).box rfl #[.int .i64 t.head, .slice ao t.kids.length (t.kids.length + sp)] 38).box (b := w.heap.size + 1) (by simp) #[.int .i64 s.head, .slice so s.kids.length (s.kids.length + ssp)] 38).box (b := w.heap.size + 1 + 1) (by simp) #[.int .i64 0, .slice none 0 0] 38
    have S1 := S0.box (b := w.heap.size + 1 + 1 + 1) (by simp) #[.int .i64 t.head, .slice none 0 0] 38
    have hlz : ((ps.length : Int) + 1 == 0) = false := by rw [beq_eq_false_iff_ne]; omega
    obtain ⟨⟨x0, _⟩, x1, _⟩ := S0.two 0
    go_enter Try.func104, Try.ntmps104
    go_wp2_with fail
    refine S1.genC (z := w.heap.size + 4) (by simp) ?_
    intro wB zB S2
    have S3 := Lib.hid ((S2.pick [3, 0, 1, 2]).add (.own wB.heap.size (fun b => p0 b ∨ wB.heap.size ≤ b) (.slice none 0 0) []) (RowOwn.nil _ _ _))
    have S3 := Lib.hid (S3.out.pick [0, 4, 1, 2, 3])
    have HSZ := Lib.hid hsz
    obtain ⟨L, hL⟩ : ∃ L, L = t.kids.mapIdx (fun i k => if (i : Int) + 1 = p then T.withAt ps k s else k) := ⟨_, rfl⟩
    have HL := Lib.hid hL
    have HLL := Lib.hid (show L.length = t.kids.length by rw [hL]; simp)
    clear S0 S1 S2 x0 x1 hL hsz hlz
    obtain ⟨i24, gi, gz0, gz1, gz2⟩ := info_parts info24
    go_loopw [8] (fun i wr => ∃ (k : Nat) (o : Value), k ≤ t.kids.length ∧ i = .int .i64 k ∧ wB.heap.size ≤ wr.heap.size ∧
      St w wr [.box (w.heap.size + 1 + 1 + 1) #[.int .i64 t.head, o] 38, .own wB.heap.size (fun b => p0 b ∨ wB.heap.size ≤ b) o (L.take k), .box w.heap.size #[.int .i64 t.head, .slice ao t.kids.length (t.kids.length + sp)] 38, .box (w.heap.size + 1) #[.int .i64 s.head, .slice so s.kids.length (s.kids.length + ssp)] 38, .box (w.heap.size + 1 + 1) #[.int .i64 0, .slice none 0 0] 38]) (fun i _ => t.kids.length - (intOf i).toNat)
    case atStart => exact ⟨0, .slice none 0 0, by omega, rfl, Nat.le_refl _, S3.out⟩
    case round =>
      obtain ⟨k, o, hk, rfl, hws, S⟩ := hrel
      by_cases hlt : k < t.kids.length
      · have hltn : (k : Int) < (t.kids.length : Int) := by omega
        obtain ⟨b, off, ko, ksp, rfl, hpb, c1, c2, c3⟩ := (HR.out.kept S.bel) k hlt
        have HC := Lib.hid c3
        have HKS := Lib.hid (show (gK t.kids k).size ≤ 100000000 by have h1 := kid_size hlt; have h2 := HSZ.out; rw [T.size_eq] at h2; omega)
        have hkm : k ≤ 100000000 := by have h1 := length_le_sizeL t.kids; have h2 := HSZ.out; rw [T.size_eq] at h2; omega
        have HTK := Lib.hid (show L.take (k + 1) = L.take k ++ [gK L k] from take_gK (by rw [HLL.out]; exact hlt))
        have HGK := Lib.hid (show gK L k = if (k : Int) + 1 = p then T.withAt ps (gK t.kids k) s else gK t.kids k by rw [HL.out, gK_mapIdx _ _ hlt])
        have hlk : (L.take k).length = k := by simp [HLL.out]; omega
        obtain ⟨cs, hown, hkids⟩ := S.own 1
        rw [hlk] at hown
        have HKI := Lib.hid hkids
        have HCL := Lib.hid (show cs.length = (L.take k).length * 2 by rw [hlk]; exact hown.1)
        have HLK := Lib.hid hlk
        have HOWN := Lib.hid hown
        obtain ⟨pb, poff, rfl, hpp⟩ := (HP.out.below S.bel).get (show 0 < (p :: ps).length by simp)
        rw [show gI (p :: ps) 0 = p from rfl, Nat.add_zero] at hpp
        obtain ⟨⟨x0, _⟩, x1, _⟩ := S.two 2
        obtain ⟨⟨v0, _⟩, v1, _⟩ := S.two 0
        obtain ⟨⟨y0, _⟩, y1, _⟩ := S.two 3
        have hl0 := S.lt 0
        clear c3 hlk hkids hown
        by_cases hpk : (k : Int) + 1 = p
        · have HGK := Lib.hid (show gK L k = T.withAt ps (gK t.kids k) s by rw [HGK.out, if_pos hpk])
          subst hpk
          have h1l : (1 : Int) ≤ (ps.length : Int) + 1 := by omega
          have HPS := Lib.hid (show CellsAt wr.drew (if pc = 1 then some ⟨pb, poff, none⟩ else some ⟨pb, poff + 1, none⟩) ps.length (fun j => .int .i64 (gI ps j)) from fun j hj => by
            rw [if_neg (by omega)]
            obtain ⟨b', off', e, hc⟩ := (HP.out.below S.bel.drew) (j + 1) (by simp; omega)
            obtain ⟨rfl, rfl⟩ : pb = b' ∧ poff = off' := by simpa using e
            exact ⟨pb, poff + 1, rfl, by rw [show poff + 1 + j = poff + (j + 1) by omega]; exact hc⟩)
          have HC1 := Lib.hid (HC.out.kept (w' := wr.drew) (Below.refl _ _).drew)
          have HS1 := Lib.hid (HS.out.kept (w' := wr.drew) S.bel.drew)
          have HP1 := Lib.hid (show ∀ b, p0 b → b < wr.drew.heap.size from fun b h => by have h1 := HP0.out b h; have h2 := S.size; simp; omega)
          have hq1 : ps.length ≤ pc - 1 := by omega
          have SD := Lib.hid S.drew
          have hwsz := S.size
          go_wp2_with fail
          have d1 : wr.drew.cell? ⟨w.heap.size, 1, none⟩ = some (.slice (some ⟨b, off, none⟩) t.kids.length (t.kids.length + sp)) := x1
          have d2 : wr.drew.cell? ⟨w.heap.size + 1 + 1 + 1, 1, none⟩ = some o := v1
          have d3 : wr.drew.cell? ⟨b, off + k * 2, none⟩ = some (.int .i64 (gK t.kids k).head) := c1
          have d4 : wr.drew.cell? ⟨b, off + k * 2 + 1, none⟩ = some (.slice ko (gK t.kids k).kids.length ((gK t.kids k).kids.length + ksp)) := c2
          have d5 : wr.drew.cell? ⟨w.heap.size + 1, 0, none⟩ = some (.int .i64 s.head) := y0
          have d6 : wr.drew.cell? ⟨w.heap.size + 1, 1, none⟩ = some (.slice so s.kids.length (s.kids.length + ssp)) := y1
          clear x0 x1 v0 v1 c1 c2 y0 y1 hpp S
          go_region_law (first
            | (refine step_append_lies _ (by rfl) (.tmp 30) (.tmp 40) 32 (by rfl) wB.heap.size 38 i24 (.agg #[.int .i64 0, .slice none 0 0]) 2 32 Try.underlying32 gi gz0 gz1 gz2 rfl (by decide) o k cs (by rfl) (HOW2.out.alloc _) ⟨w2.heap.size, 0, none⟩ 1 1 [.int .i64 (T.withAt ps (gK t.kids k) s).head, .slice uk (T.withAt ps (gK t.kids k) s).kids.length ((T.withAt ps (gK t.kids k) s).kids.length + usp)] (by rfl) (by rfl) (World.news_of_block (cs := #[.int .i64 (T.withAt ps (gK t.kids k) s).head, .slice uk (T.withAt ps (gK t.kids k) s).kids.length ((T.withAt ps (gK t.kids k) s).kids.length + usp)]) (t := 38) (fr := (0, 0)) (heap_ofAlloc w2 _)) (by simp [Value.oneCell']) (by omega) (by unfold maxLen; omega) (by omega) (by simp; omega) (w2.heap.size + 1) (by simp) ?_; intro gg cap w3 hown3 hgrow3 hat3 hlt3; have HO3 := Lib.hid hown3; have HG3 := Lib.hid hgrow3; have HAT := Lib.hid hat3; clear hown3 hgrow3 hat3; obtain ⟨⟨u0, u1⟩, u2, u3⟩ := box2 (S2.out.grownBox (by omega) HG3.out); have hlo3 := heap_lt (S2.out.grownBox (by omega) HG3.out))
            | (go_simp; go_at_call 104; refine (IH.out (gK t.kids k) p0 _ _ _ _ _ HP1.out HC1.out HS1.out HPS.out hq1 HKS.out HZ.out).mono ?_; rintro e w2 ⟨u, rfl, hu, hb2⟩; obtain ⟨uk, usp, rfl⟩ := hu.at.form
               have HU := Lib.hid hu
               have S2 := Lib.hid (SD.out.step hb2)
               obtain ⟨cs, hown, hkids⟩ := S2.out.own 1
               rw [HLK.out] at hown
               have HKI := Lib.hid hkids
               have HCL := Lib.hid (show cs.length = (L.take k).length * 2 by rw [HLK.out]; exact hown.1)
               have HOW2 := Lib.hid hown
               have z2 : wr.heap.size ≤ w2.heap.size := hb2.size
               have hlo2 := S2.out.lt 0
               obtain ⟨⟨q0, _⟩, q1, _⟩ := S2.out.two 0
               obtain ⟨⟨q2, _⟩, q3, _⟩ := S2.out.two 2
               obtain ⟨⟨q4, _⟩, q5, _⟩ := S2.out.two 3
               have q6 := Below.cellOf hb2 d3
               have q7 := Below.cellOf hb2 d4
               clear hu hb2 hown hkids))
          all_goals
            have hq : ∀ b, (p0 b ∨ wr.heap.size ≤ b) → o.ownBlock ≠ some b := fun b hb e => by
              have h3 := HOWN.out.lt b e
              rcases hb with hb | hb
              · have := HP0.out b hb; omega
              · omega
            have SF := S2.out.push (q := fun b => p0 b ∨ wr.heap.size ≤ b) (p' := fun b => p0 b ∨ wB.heap.size ≤ b) (x := (T.withAt ps (gK t.kids k) s)) HU.out HCL.out HKI.out (by rw [HLK.out]; exact HO3.out) HG3.out HAT.out (by omega) (by omega) (by omega)
              (fun b h => by rcases h with h | h; (have := HP0.out b h; omega); omega) (fun b h => by rcases h with h | h; (have := HP0.out b h; omega); omega) hq
              (by simp only [unders, Fct.box, and_true]; exact ⟨fun c hc => by omega, fun c hc => by omega, fun c hc => by omega⟩) (by simp only [offAll, Fct.box, and_true]; omega) (fun b h => by rcases h with (h | h) | h | h; exact .inl h; exact .inr h; exact .inl h; right; omega)
            rw [HLK.out] at SF
            have SF := Lib.hid SF
            have hsz4 : wB.heap.size ≤ (w3.setCell ⟨w.heap.size + 1 + 1 + 1, 1, none⟩ (.slice (some ⟨gg, 0, none⟩) (k + 1) cap)).heap.size := by simp; have := HG3.out.size; simp at this; omega
            go_wp2_with fail
            go_roundw
            case rel => exact ⟨k + 1, _, by omega, by go_num, hsz4, by rw [HTK.out, HGK.out]; exact SF.out⟩
            case measure => simp [intOf] <;> omega
        · have HGK := Lib.hid (show gK L k = gK t.kids k by rw [HGK.out, if_neg hpk])
          have hne : ((k : Int) == p - 1) = false := by rw [beq_eq_false_iff_ne]; omega
          have HU := Lib.hid (HC.out.kept (w' := wr.drew) (Below.refl _ _).drew)
          have S2 := Lib.hid S.drew
          have hwsz := S.size
          obtain ⟨cs, hown, hkids⟩ := S2.out.own 1
          rw [HLK.out] at hown
          have HKI := Lib.hid hkids
          have HCL := Lib.hid (show cs.length = (L.take k).length * 2 by rw [HLK.out]; exact hown.1)
          have HOW2 := Lib.hid hown
          have hq : ∀ b, p0 b → o.ownBlock ≠ some b := fun b hb e => by
            have h3 := HOW2.out.lt b e
            have := HP0.out b hb; omega
          have HQ := Lib.hid hq
          clear hown hkids hq
          go_wp2_with fail
          have d1 : wr.drew.cell? ⟨w.heap.size, 1, none⟩ = some (.slice (some ⟨b, off, none⟩) t.kids.length (t.kids.length + sp)) := x1
          have d2 : wr.drew.cell? ⟨w.heap.size + 1 + 1 + 1, 1, none⟩ = some o := v1
          have d3 : wr.drew.cell? ⟨b, off + k * 2, none⟩ = some (.int .i64 (gK t.kids k).head) := c1
          have d4 : wr.drew.cell? ⟨b, off + k * 2 + 1, none⟩ = some (.slice ko (gK t.kids k).kids.length ((gK t.kids k).kids.length + ksp)) := c2
          clear y0 y1 hpp
          have HOWR := Lib.hid (show wr.ownsRow wB.heap.size 38 2 o k cs from HOW2.out)
          clear S
          go_region_law (refine step_append_lies _ (by rfl) (.tmp 44) (.tmp 50) 32 (by rfl) wB.heap.size 38 i24 (.agg #[.int .i64 0, .slice none 0 0]) 2 32 Try.underlying32 gi gz0 gz1 gz2 rfl (by decide) o k cs (by rfl) ((HOWR.out.alloc _).drew) ⟨wr.heap.size, 0, none⟩ 1 1 [.int .i64 (gK t.kids k).head, .slice ko (gK t.kids k).kids.length ((gK t.kids k).kids.length + ksp)] (by rfl) (by rfl) (World.news_of_block (cs := #[.int .i64 (gK t.kids k).head, .slice ko (gK t.kids k).kids.length ((gK t.kids k).kids.length + ksp)]) (t := 38) (fr := (0, 0)) (heap_alloc_new wr _)) (by simp [Value.oneCell']) (by omega) (by unfold maxLen; omega) (by omega) (by simp; omega) (wr.heap.size + 1) (by simp) ?_; intro gg cap w3 hown3 hgrow3 hat3 hlt3; have HO3 := Lib.hid hown3; have HG3 := Lib.hid hgrow3; have HAT := Lib.hid hat3; clear hown3 hgrow3 hat3; obtain ⟨⟨u0, u1⟩, u2, u3⟩ := box2 (S2.out.grownBox (by omega) HG3.out); have hlo3 := heap_lt (S2.out.grownBox (by omega) HG3.out))
          all_goals
            have hq := HQ.out
            have SF := S2.out.push (q := p0) (p' := fun b => p0 b ∨ wB.heap.size ≤ b) (x := (gK t.kids k)) HU.out HCL.out HKI.out (by rw [HLK.out]; exact HO3.out) HG3.out HAT.out (by omega) (by omega) (by simp; omega)
              (fun b h => by rcases h with h | h; (have := HP0.out b h; omega); omega) (fun b h => by have := HP0.out b h; omega) hq
              (by simp only [unders, Fct.box, and_true]; exact ⟨fun c hc => by omega, fun c hc => by omega, fun c hc => by omega⟩) (by simp only [offAll, Fct.box, and_true]; omega) (fun b h => by rcases h with (h | h) | h; exact .inl h; exact .inr h; exact .inl h)
            rw [HLK.out] at SF
            have SF := Lib.hid SF
            have hsz4 : wB.heap.size ≤ (w3.setCell ⟨w.heap.size + 1 + 1 + 1, 1, none⟩ (.slice (some ⟨gg, 0, none⟩) (k + 1) cap)).heap.size := by simp; have := HG3.out.size; simp at this; omega
            go_wp2_with fail
            go_roundw
            case rel => exact ⟨k + 1, _, by omega, by go_num, hsz4, by rw [HTK.out, HGK.out]; exact SF.out⟩
            case measure => simp [intOf] <;> omega
      · obtain rfl : k = t.kids.length := by omega
        rw [show L.take t.kids.length = L by rw [← HLL.out, List.take_length]] at S
        have hro : RowOwn (fun b => p0 b ∨ wB.heap.size ≤ b) wB.heap.size wr o L := S.own 1
        obtain ⟨ao', sp', rfl, hrow', hml'⟩ := hro.row (fun _ h => Or.inr h)
        have HT := Lib.hid (TreeP.close (h := t.head) (sp := sp') hrow' hml')
        rw [HLL.out] at HT S
        have HWA := Lib.hid (show T.withAt (p :: ps) t s = .node t.head L by rw [HL.out]; rfl)
        clear hro hrow' hml'
        obtain ⟨⟨x0, x1⟩, x2, x3⟩ := S.two 0
        obtain ⟨⟨y0, y1⟩, y2, y3⟩ := S.two 4
        obtain ⟨⟨z0, _⟩, z1, _⟩ := S.two 2
        have l1 := S.lt 0; have l2 := S.lt 4
        have S := Lib.hid S
        have hnp : ¬ (p0 (w.heap.size + 1 + 1) ∨ wB.heap.size ≤ w.heap.size + 1 + 1) := by
          rintro (h | h)
          · have := HP0.out _ h; omega
          · omega
        go_wp2_with fail
        refine ret_box2 (.int .i64 t.head) (.slice ao' t.kids.length (t.kids.length + sp')) (w.heap.size + 1 + 1) 38 (box2_set (S.out.block 4) _ _) (fun w' q0 q1 => by simp [results, Try.results104, go_sem, q0, q1]) rfl ⟨_, rfl, ?_, (S.out.bel.setCell (p := ⟨w.heap.size + 1 + 1, 0, none⟩) (by simp; omega) _).setCell (p := ⟨w.heap.size + 1 + 1, 1, none⟩) (by simp; omega) _⟩
        rw [HWA.out]
        exact ((HT.out.setCell (a := ⟨w.heap.size + 1 + 1, 0, none⟩) hnp _).setCell (a := ⟨w.heap.size + 1 + 1, 1, none⟩) hnp _).mono (fun b h _ => by rcases h with h | h; exact .inl h; right; omega)
end Go.Proofs.Ytlhnfdjidjgfgaa
