/-
  Walks: the document's ReadTree.
-/
import Derived.Test.YtidgnbdlfngeaaaGreatDoorDg
namespace Go.Proofs.YtidgnbdlfngeaaaGreatDoor
open Go.RowKit Go.Shelf
set_option linter.unusedVariables false
set_option linter.unusedSimpArgs false
set_option maxHeartbeats 400000
attribute [local go_sem 3000] index0_sV slice1_sV

theorem ret_c2 {P : Program} {fn : Func} {R : Ending → World → Prop} {a : Act} {w : World} (x y v : Value) (b : Nat) (T : TypeId) (hb : w.heap[b]? = some (.cells #[x, y] T (0, 0)))
    (hres : ∀ w' : World, w'.cell? ⟨b, 0, none⟩ = some x → w'.cell? ⟨b, 1, none⟩ = some y → (results fn a.tmps).run P w' = .ok v w') (hd : a.defers = [])
    (hR : R (.returned v) w) : bodyPost P fn R .ret a w := bodyPost_ret (hres w (box2 hb).1.1 (box2 hb).2.1) hd hR
/-- what ReadTree answers -/
def RTP (d : Nat) (s : Bs) (w : World) (e : Ending) (w' : World) : Prop := ∃ (t : T) (k : Option Addr) (sp : Nat) (r : Bs) (ok : Bool), e = .returned (.tuple #[.agg #[.int .i64 t.head, .slice k t.kids.length (t.kids.length + sp)], sV r, .bool ok]) ∧
  TreeP (fun b => w.heap.size ≤ b) w' (.agg #[.int .i64 t.head, .slice k t.kids.length (t.kids.length + sp)]) t ∧ termQ d s true t r ok ∧ r.length ≤ s.length ∧ (ok = true → r.length + 1 ≤ s.length) ∧ Below w.heap.size w w'
theorem RTP.bad {d : Nat} {s : Bs} {w w' : World} (hq : ∀ t r, termQ d s true t r false) (hb : Below w.heap.size w w') : RTP d s w (.returned (.tuple #[.agg #[.int .i64 0, .slice none 0 0], sV s, .bool false])) w' :=
  ⟨.node 0 [], none, 0, s, false, rfl, TreeP.leaf _ _ _, hq _ _, Nat.le_refl _, (fun h => by cases h), hb⟩
theorem termQ.badx {d : Nat} {s : Bs} {t : T} {r : Bs} (hx : tkB [120] s = true) (hp : posB (tkR [120] s) = false) : termQ d s true t r false :=
  ⟨(fun h => by cases h), (fun _ _ f hf => by
    match f, hf with
    | f + 1, _ =>
      rw [termO]
      split
      · rfl
      · rw [tk_eq, if_pos hx]
        simp only []
        rw [posO_eq, if_neg (by rw [hp]; simp)]; rfl)⟩

theorem tkB_40 {c : UInt8} {r : Bs} (h : ¬ tkB [40] (c :: r) = false) : c = 40 := by
  rw [tkB_cons] at h
  by_cases e : 40 = c
  · exact e.symm
  · exact absurd (decide_eq_false e) h
theorem termQ.of_false {d : Nat} {s : Bs} {t tt : T} {r rr : Bs} {ok : Bool} (h : termQ d s true t r ok) (hok : ok = false) : termQ d s true tt rr false :=
  ⟨(fun h => by cases h), (fun _ _ => h.2 rfl hok)⟩
set_option maxRecDepth 100000 in
set_option maxHeartbeats 8000000 in
theorem readTree48 (n : Nat) : ∀ (s : Bs) (d : Nat) (w : World), s.length < n → s.length ≤ 100000 → d ≤ 13 →
    Calls Tryz.prog 48 #[sV s, .int .i64 d] w (RTP d s w) := by
  obtain ⟨i44, gi, gz0, gz1, gz2⟩ := info_parts info44
  induction n with
  | zero => intro s d w h; omega
  | succ n ih =>
  intro s d w hsn hs hd
  have HIH := Lib.hid ih
  obtain ⟨bx, hbx⟩ : ∃ b, b = w.heap.size := ⟨_, rfl⟩
  have S1 := (St.start w).box hbx.symm #[.int .i64 0, .slice none 0 0] 45
  have HBX := Lib.hid (show w.heap.size = bx from hbx.symm)
  have HSN := Lib.hid hsn
  clear ih hsn
  go_enter Tryz.func48, Tryz.ntmps48
  go_upto_region 1 with fail
  rw [← hbx]
  refine S1.genC (z := bx + 1) (by simp [hbx]) ?_
  clear S1 hbx
  intro w1 z1 S
  have hx0 : w.heap.size ≤ bx := by have := HBX.out; omega
  have SF := Lib.hid (S.set2 0 rfl (.int .i64 0) (.slice none 0 0) hx0 (by simp only [fsnoc, offs, offAll, Fct.box, and_true]))
  obtain ⟨⟨y0, y1⟩, y2, y3⟩ := S.two 0
  by_cases hdd : d ≤ 12
  case neg =>
    have hdd2 : (12 : Int) < d := by omega
    have HQ := Lib.hid (fun t r => termQ.deep (d := d) (s := s) (ok := true) (t := t) (r := r) (by omega))
    clear hdd S
    go_wp2_with fail
    refine ret_c2 (.int .i64 0) (.slice none 0 0) (.tuple #[.agg #[.int .i64 0, .slice none 0 0], sV s, .bool false]) bx 45 (SF.out.block 0) (fun w' q0 q1 => by simp [results, Tryz.results48, go_sem, q0, q1]) rfl ?_
    exact RTP.bad HQ.out SF.out.bel
  have hdd2 : ¬ (12 : Int) < d := by omega
  cases s with
  | nil =>
    have HQ := Lib.hid (fun t r => termQ.none (d := d) (s := []) (t := t) (r := r) (tkB_nil 120) (tkB_nil 115))
    clear S
    go_wp2_with fail
    refine ret_c2 (.int .i64 0) (.slice none 0 0) (.tuple #[.agg #[.int .i64 0, .slice none 0 0], sV [], .bool false]) bx 45 (SF.out.block 0) (fun w' q0 q1 => by simp [results, Tryz.results48, go_sem, q0, q1]) rfl ?_
    exact RTP.bad HQ.out SF.out.bel
  | cons a s1 =>
  have hl0 : (((s1.length : Int) + 1) == 0) = false := by rw [beq_eq_false_iff_ne]; omega
  simp only [List.length_cons] at hs
  have HN1 := Lib.hid (number47 s1 (by omega))
  by_cases hax : a = 120
  · subst hax
    have ha1 : (((120 : UInt8).toNat : Int) != 120) = false := by decide
    have ha2 : (((120 : UInt8).toNat : Int) == 120) = true := by decide
    go_wp2_with fail
    refine (HN1.out _).mono ?_
    rintro e w2 ⟨x, r1, rfl, hx, hb2⟩
    have S2 := S.step hb2
    clear S SF HN1 y0 y1 y2 y3
    obtain ⟨⟨y0, y1⟩, y2, y3⟩ := S2.two 0
    cases hp : posB s1 with
    | false =>
      have SF := Lib.hid (S2.set2 0 rfl (.int .i64 0) (.slice none 0 0) hx0 (by simp only [fsnoc, offs, offAll, Fct.box, and_true]))
      have HQ := Lib.hid (fun t r => termQ.badx (d := d) (s := 120 :: s1) (t := t) (r := r) (by rw [tkB_cons]; rfl) (by rw [tkR_cons]; exact hp))
      clear S2 hx
      go_wp2_with fail
      refine ret_c2 (.int .i64 0) (.slice none 0 0) (.tuple #[.agg #[.int .i64 0, .slice none 0 0], sV (120 :: s1), .bool false]) bx 45 (SF.out.block 0) (fun w' q0 q1 => by simp [results, Tryz.results48, go_sem, q0, q1]) rfl ?_
      exact RTP.bad HQ.out SF.out.bel
    | true =>
      obtain ⟨rfl, rfl⟩ := hx hp
      have SF := Lib.hid (S2.set2 0 rfl (.int .i64 (wrap64 (-(valD (digs s1) : Int)))) (.slice none 0 0) hx0 (by simp only [fsnoc, offs, offAll, Fct.box, and_true]))
      have HQ := Lib.hid (termQ.var (d := d) (s := 120 :: s1) (x := (valD (digs s1) : Int)) hdd (by rw [tkB_cons]; rfl) (fun _ => by rw [tkR_cons]))
      rw [tkR_cons, hp] at HQ
      have HLE := Lib.hid (numR_le s1)
      clear S2 hx
      go_wp2_with fail
      refine ret_c2 (.int .i64 (wrap64 (-(valD (digs s1) : Int)))) (.slice none 0 0) (.tuple #[.agg #[.int .i64 (wrap64 (-(valD (digs s1) : Int))), .slice none 0 0], sV (numR s1), .bool true]) bx 45 (SF.out.block 0) (fun w' q0 q1 => by simp [results, Tryz.results48, go_sem, q0, q1]) rfl ?_
      exact ⟨.node (wrap64 (-(valD (digs s1) : Int))) [], none, 0, numR s1, true, rfl, TreeP.leaf _ _ _, HQ.out, by have := HLE.out; simp only [List.length_cons]; omega, fun _ => by have := HLE.out; simp only [List.length_cons]; omega, SF.out.bel⟩
  by_cases has : a = 115
  · subst has
    have ha1 : (((115 : UInt8).toNat : Int) != 120) = true := by decide
    have ha2 : (((115 : UInt8).toNat : Int) != 115) = false := by decide
    have ha3 : (((115 : UInt8).toNat : Int) == 120) = false := by decide
    go_wp2_with fail
    refine (HN1.out _).mono ?_
    rintro e w2 ⟨x, r1, rfl, hx, hb2⟩
    have S2 := S.step hb2
    have z2 : bx + 1 ≤ w2.heap.size := by have := hb2.size; omega
    clear S SF HN1 y0 y1 y2 y3
    obtain ⟨⟨y0, y1⟩, y2, y3⟩ := S2.two 0
    cases hp : posB s1 with
    | false =>
      have SF := Lib.hid (S2.set2 0 rfl (.int .i64 0) (.slice none 0 0) hx0 (by simp only [fsnoc, offs, offAll, Fct.box, and_true]))
      have HQ := Lib.hid (fun t r => termQ.bad (d := d) (s := 115 :: s1) (t := t) (r := r) hdd (by rw [tkB_cons]; rfl) (by rw [tkB_cons]; rfl) (by rw [tkR_cons]; exact hp))
      clear S2 hx
      go_wp2_with fail
      refine ret_c2 (.int .i64 0) (.slice none 0 0) (.tuple #[.agg #[.int .i64 0, .slice none 0 0], sV (115 :: s1), .bool false]) bx 45 (SF.out.block 0) (fun w' q0 q1 => by simp [results, Tryz.results48, go_sem, q0, q1]) rfl ?_
      exact RTP.bad HQ.out SF.out.bel
    | true =>
      obtain ⟨rfl, rfl⟩ := hx hp
      obtain ⟨x, hxx⟩ : ∃ x : Int, x = valD (digs s1) := ⟨_, rfl⟩
      rw [← hxx]
      obtain ⟨b5, hb5⟩ : ∃ b, b = w2.heap.size := ⟨_, rfl⟩
      have S5 := S2.box hb5.symm #[.int .i64 x, .slice none 0 0] 45
      have hz5 : (w2.alloc (.cells #[.int .i64 x, .slice none 0 0] 45)).heap.size = b5 + 1 := by simp [hb5]
      have HB5 := Lib.hid (show bx + 1 ≤ b5 by omega)
      have HP := Lib.hid hp
      have HXX := Lib.hid hxx
      have HLE := Lib.hid (numR_le s1)
      clear S2 hx hp hxx hb2 z1 z2 y0 y1 y2 y3
      go_upto_region 9 with fail
      rw [← hb5]
      refine S5.genC (z := b5 + 1) (by omega) ?_
      clear S5 hz5 hb5
      intro w3 z3 S
      obtain ⟨⟨v0, v1⟩, v2, v3⟩ := S.two 1
      obtain ⟨⟨y0, y1⟩, y2, y3⟩ := S.two 0
      obtain ⟨rs, hrs⟩ : ∃ r, r = numR s1 := ⟨_, rfl⟩
      have HRS := Lib.hid hrs
      rw [← hrs]
      have hrl : rs.length ≤ s1.length := by have := HLE.out; rw [hrs]; exact this
      clear hrs
      by_cases h40 : tkB [40] rs = false
      · have HQ := Lib.hid (termQ.con (d := d) (s := 115 :: s1) (x := x) (ok := true) hdd (by rw [tkB_cons]; rfl) (by rw [tkB_cons]; rfl) (by rw [tkR_cons]; exact HP.out.symm) (fun _ => by rw [tkR_cons]; exact HXX.out) (by rw [tkR_cons, ← HRS.out]; exact h40))
        rw [tkR_cons, ← HRS.out] at HQ
        have SF := Lib.hid (S.set2 0 rfl (.int .i64 x) (.slice none 0 0) hx0 (by have := HB5.out; simp only [fsnoc, offs, offAll, Fct.box, and_true]; omega))
        clear S
        have hr : rs = [] ∨ ∃ c r, rs = c :: r ∧ c ≠ 40 := by
          cases rs with
          | nil => exact .inl rfl
          | cons c r => rw [tkB_cons] at h40; exact .inr ⟨c, r, rfl, fun e => of_decide_eq_false h40 e.symm⟩
        clear h40
        rcases hr with rfl | ⟨c, r, rfl, hc⟩
        · go_wp2_with fail
          refine ret_c2 (.int .i64 x) (.slice none 0 0) (.tuple #[.agg #[.int .i64 x, .slice none 0 0], sV [], .bool true]) bx 45 (SF.out.block 0) (fun w' q0 q1 => by simp [results, Tryz.results48, go_sem, q0, q1]) rfl ?_
          exact ⟨.node x [], none, 0, [], true, rfl, TreeP.leaf _ _ _, HQ.out, by simp, fun _ => by simp, SF.out.bel⟩
        · have hc1 : ((c.toNat : Int) != 40) = true := by rw [bne_iff_ne]; exact fun e => hc (u8_eq (by have : (40 : UInt8).toNat = 40 := rfl; omega))
          have hl1 : (((r.length : Int) + 1) == 0) = false := by rw [beq_eq_false_iff_ne]; omega
          clear hc
          go_wp2_with fail
          refine ret_c2 (.int .i64 x) (.slice none 0 0) (.tuple #[.agg #[.int .i64 x, .slice none 0 0], sV (c :: r), .bool true]) bx 45 (SF.out.block 0) (fun w' q0 q1 => by simp [results, Tryz.results48, go_sem, q0, q1]) rfl ?_
          exact ⟨.node x [], none, 0, c :: r, true, rfl, TreeP.leaf _ _ _, HQ.out, by simp only [List.length_cons] at hrl ⊢; omega, fun _ => by simp only [List.length_cons] at hrl ⊢; omega, SF.out.bel⟩
      · obtain ⟨r2, rfl⟩ : ∃ r2, rs = 40 :: r2 := by
          cases rs with
          | nil => exact absurd (tkB_nil 40) h40
          | cons c r => exact ⟨r, by rw [tkB_40 h40]⟩
        clear h40
        have hc1 : (((40 : UInt8).toNat : Int) != 40) = false := by decide
        have hl1 : (((r2.length : Int) + 1) == 0) = false := by rw [beq_eq_false_iff_ne]; omega
        have HQ := Lib.hid (fun (ks : List T) (r : Bs) (ok : Bool) (h : kidsQ d r2 true ks r ok) => termQ.row (d := d) (s := 115 :: s1) (x := x) (okp := true) (ok := ok) (ks := ks) (r := r) hdd (by rw [tkB_cons]; rfl) (by rw [tkB_cons]; rfl) (by rw [tkR_cons]; exact HP.out.symm) (fun _ => by rw [tkR_cons]; exact HXX.out) (by rw [tkR_cons, ← HRS.out, tkB_cons]; rfl) (by rw [tkR_cons, ← HRS.out, tkR_cons]; exact h))
        have S7 := S.add (.owns treeE (b5 + 1) (fun c => b5 + 1 ≤ c) (.slice none 0 0) []) (Elt.Own.nil _ _ _ _)
        have HRL := Lib.hid (show r2.length + 1 ≤ s1.length by simp only [List.length_cons] at hrl; omega)
        clear S hrl v0 v1 v2 v3 y0 y1 y2 y3
        go_wp2_with fail
        go_loopg [8] (r2.length + 1) (fun m o8 wr => ∃ (ks : List T) (c : UInt8) (r : Bs) (o : Value), m = r.length + 1 ∧ o8 = sV (c :: r) ∧ Hid (kidsI d r2 true ks r true) ∧ ks.length + r.length ≤ r2.length ∧ b5 + 1 ≤ wr.heap.size ∧ St w wr [.box bx #[.int .i64 0, .slice none 0 0] 45, .box b5 #[.int .i64 x, o] 45, .owns treeE (b5 + 1) (fun c => b5 + 1 ≤ c) o ks])
        case atStart => exact ⟨[], 40, r2, _, rfl, rfl, Lib.hid (kidsI.start _ _ _), by simp, z3, S7⟩
        case round =>
          clear S7
          obtain ⟨ks, c, r, o, hm, rfl, HI, hr, zr, S⟩ := hrel
          have hih := HIH.out r (d + 1) wr (by have h1 := HSN.out; have h2 := HRL.out; rw [List.length_cons] at h1; omega) (by have := HRL.out; omega) (by omega)
          rw [show ((d + 1 : Nat) : Int) = (d : Int) + 1 from rfl] at hih
          have HC := Lib.hid hih
          have HOW := Lib.hid (fun c (hc : o.ownBlock = some c) => S.ownlt treeE 2 rfl c hc)
          clear hih
          go_wp2_with fail
          refine (HC.out).mono ?_
          rintro e w4 ⟨t, k, sp, r1, ok1, rfl, ht, hq, hr1, hr2, hb4⟩
          have S4 := (S.step hb4).add (.treeP (fun b => wr.heap.size ≤ b) (.agg #[.int .i64 t.head, .slice k t.kids.length (t.kids.length + sp)]) t) ht
          obtain ⟨b6, hb6⟩ : ∃ b, b = w4.heap.size := ⟨_, rfl⟩
          have S5 := (((S4.pick [0, 1, 2]).add (.treeP (fun b => wr.heap.size ≤ b ∧ b < b6) (.agg #[.int .i64 t.head, .slice k t.kids.length (t.kids.length + sp)]) t) ((S4.treeP 3 rfl).mono (fun b h hl => ⟨h, by rw [hb6]; exact hl⟩)))).box hb6.symm #[.int .i64 t.head, .slice k t.kids.length (t.kids.length + sp)] 45
          have S6 : St w (w4.alloc (.cells #[.int .i64 t.head, .slice k t.kids.length (t.kids.length + sp)] 45)) [.box bx #[.int .i64 0, .slice none 0 0] 45, .box b5 #[.int .i64 x, o] 45, .owns treeE (b5 + 1) (fun c => b5 + 1 ≤ c) o ks, .treeP (fun b => wr.heap.size ≤ b ∧ b < b6) (.agg #[.int .i64 t.head, .slice k t.kids.length (t.kids.length + sp)]) t, .box b6 #[.int .i64 t.head, .slice k t.kids.length (t.kids.length + sp)] 45] := S5
          have hz6 : (w4.alloc (.cells #[.int .i64 t.head, .slice k t.kids.length (t.kids.length + sp)] 45)).heap.size = b6 + 1 := by simp [hb6]
          have HB6 := Lib.hid (show wr.heap.size ≤ b6 ∧ b5 + 1 ≤ wr.heap.size from ⟨by have := hb4.size; omega, zr⟩)
          have HGO := Lib.hid (HI.out.go hq)
          have HR1 := Lib.hid (And.intro hr1 hr2)
          clear S S4 S5 HC ht hq hr1 hr2 hb4 HI
          go_upto_region 12 with fail
          rw [← hb6]
          refine S6.genC (z := b6 + 1) (by omega) ?_
          clear S6 hz6 hb6
          intro w5 z5 S
          obtain ⟨⟨y0, y1⟩, y2, y3⟩ := S.two 0
          obtain ⟨⟨v0, v1⟩, v2, v3⟩ := S.two 1
          obtain ⟨⟨u0, u1⟩, u2, u3⟩ := S.two 4
          have HOF := Lib.hid (show offs bx 0 [.box bx #[.int .i64 0, .slice none 0 0] 45, .box b5 #[.int .i64 x, o] 45, .owns treeE (b5 + 1) (fun c => b5 + 1 ≤ c) o ks, .treeP (fun b => wr.heap.size ≤ b ∧ b < b6) (.agg #[.int .i64 t.head, .slice k t.kids.length (t.kids.length + sp)]) t, .box b6 #[.int .i64 t.head, .slice k t.kids.length (t.kids.length + sp)] 45] by
            have h1 := HB5.out; have h2 := HB6.out
            simp only [offs, offAll, Fct.box, Fct.owns, Fct.treeP, and_true]
            refine ⟨by omega, fun e => ?_, by omega, by omega⟩
            rcases e with e | e
            · have := HOW.out _ e; omega
            · omega)
          have SF := Lib.hid (S.set2 0 rfl (.int .i64 0) (.slice none 0 0) hx0 HOF.out)
          -- what does not go on
          have hsplit : ok1 = false ∨ (ok1 = true ∧ r1 = []) ∨ (ok1 = true ∧ ∃ c2 r3, r1 = c2 :: r3 ∧ c2 ≠ 41 ∧ c2 ≠ 44) ∨ (ok1 = true ∧ ∃ r3, r1 = 41 :: r3) ∨ (ok1 = true ∧ ∃ r3, r1 = 44 :: r3) := by
            cases ok1 with
            | false => exact .inl rfl
            | true =>
              cases r1 with
              | nil => exact .inr (.inl ⟨rfl, rfl⟩)
              | cons c2 r3 =>
                by_cases h1 : c2 = 41
                · exact .inr (.inr (.inr (.inl ⟨rfl, r3, by rw [h1]⟩)))
                · by_cases h2 : c2 = 44
                  · exact .inr (.inr (.inr (.inr ⟨rfl, r3, by rw [h2]⟩)))
                  · exact .inr (.inr (.inl ⟨rfl, c2, r3, rfl, h1, h2⟩))
          rcases hsplit with rfl | ⟨rfl, rfl⟩ | ⟨rfl, c2, r3, rfl, h41, h44⟩ | ⟨rfl, r3, rfl⟩ | ⟨rfl, r3, rfl⟩
          · have HQ2 := Lib.hid (fun tt rr => (termQ.of_false (tt := tt) (rr := rr) (HQ.out (ks ++ [t]) r1 false (HGO.out.1 rfl)) (by simp)))
            clear S
            go_wp2_with fail
            refine ret_c2 (.int .i64 0) (.slice none 0 0) (.tuple #[.agg #[.int .i64 0, .slice none 0 0], sV (115 :: s1), .bool false]) bx 45 (SF.out.block 0) (fun w' q0 q1 => by simp [results, Tryz.results48, go_sem, q0, q1]) rfl ?_
            exact RTP.bad HQ2.out SF.out.bel
          · have HQ2 := Lib.hid (fun tt rr => (termQ.of_false (tt := tt) (rr := rr) (HQ.out (ks ++ [t]) [] true (HGO.out.2.1 rfl (tkB_nil 44))) (by rw [tkB_nil]; rfl)))
            clear S
            go_wp2_with fail
            refine ret_c2 (.int .i64 0) (.slice none 0 0) (.tuple #[.agg #[.int .i64 0, .slice none 0 0], sV (115 :: s1), .bool false]) bx 45 (SF.out.block 0) (fun w' q0 q1 => by simp [results, Tryz.results48, go_sem, q0, q1]) rfl ?_
            exact RTP.bad HQ2.out SF.out.bel
          · have HQ2 := Lib.hid (fun tt rr => (termQ.of_false (tt := tt) (rr := rr) (HQ.out (ks ++ [t]) (c2 :: r3) true (HGO.out.2.1 rfl (by rw [tkB_cons]; exact decide_eq_false (fun e => h44 e.symm)))) (by rw [tkB_cons, decide_eq_false (fun e => h41 e.symm)]; rfl)))
            have hc2 : ((c2.toNat : Int) != 41) = true := by rw [bne_iff_ne]; exact fun e => h41 (u8_eq (by have : (41 : UInt8).toNat = 41 := rfl; omega))
            have hc3 : ((c2.toNat : Int) != 44) = true := by rw [bne_iff_ne]; exact fun e => h44 (u8_eq (by have : (44 : UInt8).toNat = 44 := rfl; omega))
            have hl3 : (((r3.length : Int) + 1) == 0) = false := by rw [beq_eq_false_iff_ne]; omega
            clear S h41 h44
            go_wp2_with fail
            refine ret_c2 (.int .i64 0) (.slice none 0 0) (.tuple #[.agg #[.int .i64 0, .slice none 0 0], sV (115 :: s1), .bool false]) bx 45 (SF.out.block 0) (fun w' q0 q1 => by simp [results, Tryz.results48, go_sem, q0, q1]) rfl ?_
            exact RTP.bad HQ2.out SF.out.bel
          · clear SF HOF
            have hno := HR1.out
            have HXE := Lib.hid (show treeE.is (fun b => wr.heap.size ≤ b ∧ b < b6) w5 [.int .i64 t.head, .slice k t.kids.length (t.kids.length + sp)] t from ⟨k, sp, rfl, S.treeP 3 rfl⟩)
            have hc2 : (((41 : UInt8).toNat : Int) != 41) = false := by decide
            have hc3 : (((41 : UInt8).toNat : Int) != 44) = true := by decide
            have hc4 : (((41 : UInt8).toNat : Int) == 41) = true := by decide
            have hl3 : (((r3.length : Int) + 1) == 0) = false := by rw [beq_eq_false_iff_ne]; omega
            go_wp2_with (at_builtin; refine wpList_app rfl (.tmp 92) (.tmp 94) 38 rfl treeE S 2 rfl (x := t) (q := fun b => wr.heap.size ≤ b ∧ b < b6) (p' := fun b => b5 + 1 ≤ b) HXE.out Tryz.underlying38 gi gz0 gz1 gz2 rfl rfl rfl rfl ?c1 ?c2 ?c3 ?c4 ?c5 ?c6 ?c7 ?_)
            case c1 => have := HRL.out; unfold maxLen; omega
            case c2 => have := HRL.out; omega
            case c3 => have := HB6.out; omega
            case c4 => have := HB5.out; have := HBX.out; omega
            case c5 =>
              intro bb h1 h2 h3
              have h4 := (HOW.out bb h1); have h5 := HB5.out; have h6 := HB6.out
              simp only [offs, offAll, Fct.box, Fct.owns, Fct.treeP, and_true]
              omega
            case c6 => intro bb h1 h1b h2; have h4 := (HOW.out bb h2); have := HB6.out; omega
            case c7 => intro bb h1; have := HB6.out; rcases h1 with h1 | h1; exact h1; omega
            intro gg cap w6 S6 z6 hgl hgg
            have hgb : b5 + 1 ≤ gg := (S6.ownlt treeE 2 rfl gg rfl).1
            clear v0 v1 v2 v3 y0 y1 y2 y3 u0 u1 u2 u3
            obtain ⟨⟨v0, v1⟩, v2, v3⟩ := S6.two 1
            have S7 := (S6.set21 1 rfl (.slice (some ⟨gg, 0, none⟩) (ks.length + 1) cap) (by have := HBX.out; have := HB5.out; omega) (by
              have h5 := HBX.out; have h6 := HB5.out; have h7 := HB6.out
              simp only [fset, offs, offAll, Fct.box, Fct.owns, Fct.treeP, and_true]
              refine ⟨by omega, fun e => ?_, by omega, by omega⟩
              rcases e with e | e
              · have e' : gg = b5 := by simpa [Value.ownBlock] using e
                omega
              · omega)).pick [0, 1, 2]
            have HS8 := Lib.hid (show St w (w6.setCell ⟨b5, 1, none⟩ (.slice (some ⟨gg, 0, none⟩) (ks.length + 1) cap)) [.box bx #[.int .i64 0, .slice none 0 0] 45, .box b5 #[.int .i64 x, .slice (some ⟨gg, 0, none⟩) (ks.length + 1) cap] 45, .owns treeE (b5 + 1) (fun c => b5 + 1 ≤ c) (.slice (some ⟨gg, 0, none⟩) (ks.length + 1) cap) (ks ++ [t])] from S7)
            have hz8 : b5 + 1 ≤ (w6.setCell ⟨b5, 1, none⟩ (.slice (some ⟨gg, 0, none⟩) (ks.length + 1) cap)).heap.size := by simp; have := HB6.out; omega
            clear S S6 S7 HXE hgl hgg z6
            go_upto_region 17 with fail
            refine HS8.out.genC (z := b5 + 1) hz8 ?_
            clear HS8 hz8 v0 v1 v2 v3
            intro w7 z7 S
            have HK := Lib.hid (HGO.out.2.1 (by trivial) (by rw [tkB_cons]; rfl))
            have hq := HQ.out _ _ _ HK.out
            rw [tkR_cons, tkB_cons] at hq
            have HQ2 := Lib.hid hq
            have SF := Lib.hid ((S.set2 0 rfl (.int .i64 x) (.slice (some ⟨gg, 0, none⟩) (ks.length + 1) cap) hx0 (by
              have h5 := HBX.out; have h6 := HB5.out; have h7 := HB6.out
              simp only [offs, offAll, Fct.box, Fct.owns, Fct.treeP, and_true]
              refine ⟨by omega, fun e => ?_⟩
              rcases e with e | e
              · have e' : gg = bx := by simpa [Value.ownBlock] using e
                omega
              · omega)).drew)
            obtain ⟨ro, rsp, e0, hrow, hml⟩ := (SF.out.owns treeE 2).row (fun b h => h)
            simp only [Value.slice.injEq] at e0
            obtain ⟨e1, e2, e3⟩ := e0
            subst e1
            have hT := (TreeP.close (h := x) (sp := rsp) hrow.rowP hml).mono (q := fun b => w.heap.size ≤ b) (fun b h _ => by have h5 := HBX.out; have h6 := HB5.out; omega)
            have HT := Lib.hid hT
            have HE := Lib.hid e3
            obtain ⟨⟨y0, y1⟩, y2, y3⟩ := S.two 0
            obtain ⟨⟨v0, v1⟩, v2, v3⟩ := S.two 1
            have HL3 := Lib.hid (show r3.length + 1 ≤ s1.length by simp only [List.length_cons] at hno; have := HRL.out; omega)
            clear S e2 e3 hrow hml hT HK hq
            go_region
            all_goals go_wp2_with fail
            all_goals
              refine ret_c2 (.int .i64 x) (.slice (some ⟨gg, 0, none⟩) (ks.length + 1) cap) (.tuple #[.agg #[.int .i64 x, .slice (some ⟨gg, 0, none⟩) (ks.length + 1) cap], sV r3, .bool true]) bx 45 (SF.out.block 0) (fun w' q0 q1 => by simp [results, Tryz.results48, go_sem, q0, q1]) rfl ?_
              exact ⟨.node x (ks ++ [t]), some ⟨gg, 0, none⟩, rsp, r3, true, by simp [T.head, T.kids, HE.out], HT.out, HQ2.out, by have := HL3.out; rw [List.length_cons]; omega, fun _ => by have := HL3.out; rw [List.length_cons]; omega, SF.out.bel⟩
          · clear SF HOF
            have hno := HR1.out
            have HXE := Lib.hid (show treeE.is (fun b => wr.heap.size ≤ b ∧ b < b6) w5 [.int .i64 t.head, .slice k t.kids.length (t.kids.length + sp)] t from ⟨k, sp, rfl, S.treeP 3 rfl⟩)
            have hc2 : (((44 : UInt8).toNat : Int) != 41) = true := by decide
            have hc3 : (((44 : UInt8).toNat : Int) != 44) = false := by decide
            have hc4 : (((44 : UInt8).toNat : Int) == 41) = false := by decide
            have hl3 : (((r3.length : Int) + 1) == 0) = false := by rw [beq_eq_false_iff_ne]; omega
            go_wp2_with (at_builtin; refine wpList_app rfl (.tmp 92) (.tmp 94) 38 rfl treeE S 2 rfl (x := t) (q := fun b => wr.heap.size ≤ b ∧ b < b6) (p' := fun b => b5 + 1 ≤ b) HXE.out Tryz.underlying38 gi gz0 gz1 gz2 rfl rfl rfl rfl ?c1 ?c2 ?c3 ?c4 ?c5 ?c6 ?c7 ?_)
            case c1 => have := HRL.out; unfold maxLen; omega
            case c2 => have := HRL.out; omega
            case c3 => have := HB6.out; omega
            case c4 => have := HB5.out; have := HBX.out; omega
            case c5 =>
              intro bb h1 h2 h3
              have h4 := (HOW.out bb h1); have h5 := HB5.out; have h6 := HB6.out
              simp only [offs, offAll, Fct.box, Fct.owns, Fct.treeP, and_true]
              omega
            case c6 => intro bb h1 h1b h2; have h4 := (HOW.out bb h2); have := HB6.out; omega
            case c7 => intro bb h1; have := HB6.out; rcases h1 with h1 | h1; exact h1; omega
            intro gg cap w6 S6 z6 hgl hgg
            have hgb : b5 + 1 ≤ gg := (S6.ownlt treeE 2 rfl gg rfl).1
            clear v0 v1 v2 v3 y0 y1 y2 y3 u0 u1 u2 u3
            obtain ⟨⟨v0, v1⟩, v2, v3⟩ := S6.two 1
            have S7 := (S6.set21 1 rfl (.slice (some ⟨gg, 0, none⟩) (ks.length + 1) cap) (by have := HBX.out; have := HB5.out; omega) (by
              have h5 := HBX.out; have h6 := HB5.out; have h7 := HB6.out
              simp only [fset, offs, offAll, Fct.box, Fct.owns, Fct.treeP, and_true]
              refine ⟨by omega, fun e => ?_, by omega, by omega⟩
              rcases e with e | e
              · have e' : gg = b5 := by simpa [Value.ownBlock] using e
                omega
              · omega)).pick [0, 1, 2]
            have HS8 := Lib.hid (show St w (w6.setCell ⟨b5, 1, none⟩ (.slice (some ⟨gg, 0, none⟩) (ks.length + 1) cap)) [.box bx #[.int .i64 0, .slice none 0 0] 45, .box b5 #[.int .i64 x, .slice (some ⟨gg, 0, none⟩) (ks.length + 1) cap] 45, .owns treeE (b5 + 1) (fun c => b5 + 1 ≤ c) (.slice (some ⟨gg, 0, none⟩) (ks.length + 1) cap) (ks ++ [t])] from S7)
            have hz8 : b5 + 1 ≤ (w6.setCell ⟨b5, 1, none⟩ (.slice (some ⟨gg, 0, none⟩) (ks.length + 1) cap)).heap.size := by simp; have := HB6.out; omega
            clear S S6 S7 HXE hgl hgg z6
            go_wp2_with fail
            have HK := Lib.hid (HGO.out.2.2 (by trivial) (by rw [tkB_cons]; rfl) hno.1)
            go_roundg (r3.length + 1)
            case measure => simp only [List.length_cons] at hno; omega
            case rel => exact ⟨ks ++ [t], 44, r3, _, rfl, rfl, by rw [tkR_cons] at HK; exact HK, by rw [List.length_append]; simp only [List.length_cons, List.length_nil] at hno ⊢; omega, hz8, HS8.out⟩
  · have HQ := Lib.hid (fun t r => termQ.none (d := d) (s := a :: s1) (t := t) (r := r) (by rw [tkB_cons]; exact decide_eq_false (fun e => hax e.symm)) (by rw [tkB_cons]; exact decide_eq_false (fun e => has e.symm)))
    have ha1 : ((a.toNat : Int) != 120) = true := by rw [bne_iff_ne]; exact fun e => hax (u8_eq (by have : (120 : UInt8).toNat = 120 := rfl; omega))
    have ha2 : ((a.toNat : Int) != 115) = true := by rw [bne_iff_ne]; exact fun e => has (u8_eq (by have : (115 : UInt8).toNat = 115 := rfl; omega))
    clear S
    go_wp2_with fail
    refine ret_c2 (.int .i64 0) (.slice none 0 0) (.tuple #[.agg #[.int .i64 0, .slice none 0 0], sV (a :: s1), .bool false]) bx 45 (SF.out.block 0) (fun w' q0 q1 => by simp [results, Tryz.results48, go_sem, q0, q1]) rfl ?_
    exact RTP.bad HQ.out SF.out.bel
end Go.Proofs.YtidgnbdlfngeaaaGreatDoor
