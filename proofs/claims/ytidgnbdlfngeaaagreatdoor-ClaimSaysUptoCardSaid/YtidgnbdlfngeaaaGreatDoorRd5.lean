/-
  Walks: the reader of a line: term.
-/
import Derived.Test.YtidgnbdlfngeaaaGreatDoorRd4
import Derived.Test.YtidgnbdlfngeaaaGreatDoorM2
import Derived.Test.YtidgnbdlfngeaaaGreatDoorG7
namespace Go.Proofs.YtidgnbdlfngeaaaGreatDoor
open Go.RowKit Go.Shelf
set_option linter.unusedVariables false
set_option linter.unusedSimpArgs false
set_option maxHeartbeats 400000

theorem tkR_le (p s : Bs) : (tkR p s).length ≤ s.length := by
  unfold tkR takeO
  by_cases h : p.isPrefixOf s = true
  · rw [if_pos h]; simp
  · rw [if_neg h]; simp
theorem tk1_lt {a : UInt8} {s : Bs} (h : tkB [a] s = true) : (tkR [a] s).length + 1 ≤ s.length := by
  unfold tkB at h
  obtain ⟨r, hr⟩ := Option.isSome_iff_exists.1 h
  rw [(tk_some hr).1, take_say hr]; simp
theorem tk_eq {p s : Bs} : takeO p s = if tkB p s = true then some (tkR p s) else none := by
  unfold tkB tkR
  cases takeO p s <;> simp
theorem numR_le (s : Bs) : (numR s).length ≤ s.length := by unfold numR; simp
/-- what a state knows goes over what writes one old block alone -/
theorem St.over {w0 w w' : World} {l : List Fct} {b : Nat} (S : St w0 w l) (hoff : offAll b l) (hb : Below w0.heap.size w0 w') (hk : ∀ c, c < w.heap.size → c ≠ b → w'.heap[c]? = w.heap[c]?) : St w0 w' l :=
  S.carry hb (fun i c hf hlt => hk c hlt (fun e => offAll_at hoff i (e ▸ hf)))

/-- what term answers -/
def termQ (d : Nat) (s : Bs) (ok : Bool) (t : T) (r : Bs) (ok' : Bool) : Prop :=
  (ok' = true → ok = true ∧ ∀ f, 2 * s.length + 1 ≤ f → termO f d s = some (t, r)) ∧ (ok = true → ok' = false → ∀ f, 2 * s.length + 1 ≤ f → termO f d s = none)
theorem termQ.off {d : Nat} {s : Bs} {t : T} {r : Bs} : termQ d s false t r false := ⟨(fun h => by cases h), (fun h => by cases h)⟩
theorem termQ.deep {d : Nat} {s : Bs} {ok : Bool} {t : T} {r : Bs} (h : 12 < d) : termQ d s ok t r false := ⟨(fun h => by cases h), (fun _ _ f hf => by
  match f, hf with
  | f + 1, _ => rw [termO, if_pos h])⟩

theorem valD_lt {s : Bs} (h : numOk s = true) : valD (digs s) < 1000 := by
  unfold numOk at h
  simp only [Bool.and_eq_true, decide_eq_true_eq] at h
  have hd : ∀ (l : Bs) (a : Nat), (∀ x ∈ l, isDig x = true) → l.foldl (fun n b => n * 10 + (b.toNat - 48)) a + 1 ≤ (a + 1) * 10 ^ l.length := by
    intro l
    induction l with
    | nil => intro a _; simp
    | cons b l ih =>
      intro a ha
      have hb := ha b (by simp)
      unfold isDig at hb
      simp only [Bool.and_eq_true, decide_eq_true_eq] at hb
      have := ih (a * 10 + (b.toNat - 48)) (fun x hx => ha x (by simp [hx]))
      rw [List.foldl_cons, List.length_cons, Nat.pow_succ, Nat.mul_comm (10 ^ l.length), ← Nat.mul_assoc]
      exact Nat.le_trans this (Nat.mul_le_mul_right _ (by omega))
  have h5 := hd (digs s) 0 (digs_all s)
  have h6 : 10 ^ (digs s).length ≤ 10 ^ 3 := Nat.pow_le_pow_right (by decide) h.1.2
  unfold valD; omega
theorem posB_num {s : Bs} (h : posB s = true) : numOk s = true := by unfold posB at h; simp at h; exact h.1
theorem tkR_miss {p s : Bs} (hx : tkB p s = false) : tkR p s = s := by
  unfold tkB at hx; unfold tkR
  cases h : takeO p s with
  | none => rfl
  | some r => rw [h] at hx; cases hx
theorem termQ.var {d : Nat} {s : Bs} {x : Int} (hd : d ≤ 12) (hx : tkB [120] s = true) (hv : posB (tkR [120] s) = true → x = valD (digs (tkR [120] s))) : termQ d s true (.node (wrap64 (-x)) []) (numR (tkR [120] s)) (true && posB (tkR [120] s)) := by
  have e : ∀ f, termO (f + 1) d s = (posO (tkR [120] s)).map fun x => (.node (-(x.1 : Int)) [], x.2) := fun f => by
    rw [termO, if_neg (by omega), tk_eq, if_pos hx]
  refine ⟨fun h => ⟨rfl, fun f hf => ?_⟩, fun _ h f hf => ?_⟩
  · match f, hf with
    | f + 1, _ =>
      have hp : posB (tkR [120] s) = true := by simpa using h
      rw [e, posO_eq, if_pos hp, hv hp]
      have := valD_lt (posB_num hp)
      rw [IntWalk.wrap64_in _ (by omega)]
      rfl
  · match f, hf with
    | f + 1, _ =>
      have hp : ¬ posB (tkR [120] s) = true := by simpa using h
      rw [e, posO_eq, if_neg hp]
      rfl
theorem termQ.none {d : Nat} {s : Bs} {t : T} {r : Bs} (hx : tkB [120] s = false) (hy : tkB [115] s = false) : termQ d s true t r false :=
  ⟨(fun h => by cases h), (fun _ _ f hf => by
    match f, hf with
    | f + 1, _ =>
      rw [termO]
      split
      · rfl
      · rw [tk_eq, if_neg (by rw [hx]; simp)]
        simp only []
        rw [tk_eq, if_neg (by rw [hy]; simp)])⟩
theorem termQ.con {d : Nat} {s : Bs} {x : Int} {ok : Bool} (hd : d ≤ 12) (hx : tkB [120] s = false) (hy : tkB [115] s = true) (hok : ok = posB (tkR [115] s)) (hv : posB (tkR [115] s) = true → x = valD (digs (tkR [115] s)))
    (hz : tkB [40] (numR (tkR [115] s)) = false) : termQ d s true (.node x []) (numR (tkR [115] s)) ok := by
  have e : ∀ f, termO (f + 1) d s = match posO (tkR [115] s) with | Option.none => Option.none | some x => some (.node (x.1 : Int) [], x.2) := fun f => by
    rw [termO, if_neg (by omega), tk_eq, if_neg (by rw [hx]; simp)]
    simp only []
    rw [tk_eq, if_pos hy]
    simp only []
    rw [posO_eq]
    by_cases hp : posB (tkR [115] s) = true
    · rw [if_pos hp]
      simp only []
      rw [tk_eq, if_neg (by rw [hz]; simp)]
    · rw [if_neg hp]
  refine ⟨fun h => ⟨rfl, fun f hf => ?_⟩, fun _ h f hf => ?_⟩
  · match f, hf with
    | f + 1, _ =>
      have hp : posB (tkR [115] s) = true := hok ▸ h
      rw [e, posO_eq, if_pos hp, hv hp]
  · match f, hf with
    | f + 1, _ =>
      have hp : ¬ posB (tkR [115] s) = true := by rw [← hok, h]; simp
      rw [e, posO_eq, if_neg hp]
/-- what the reading of kids answers, behind the opening bracket -/
def kidsQ (d : Nat) (r0 : Bs) (okp : Bool) (ks : List T) (r : Bs) (ok : Bool) : Prop :=
  (ok = true → okp = true ∧ ∀ f, 2 * r0.length + 2 ≤ f → kidsO f d r0 = match takeO [41] r with | some r2 => some (ks, r2) | Option.none => Option.none) ∧ (okp = true → ok = false → ∀ f, 2 * r0.length + 2 ≤ f → kidsO f d r0 = Option.none)
theorem termQ.row {d : Nat} {s r : Bs} {x : Int} {ks : List T} {okp ok : Bool} (hd : d ≤ 12) (hx : tkB [120] s = false) (hy : tkB [115] s = true) (hok : okp = posB (tkR [115] s)) (hv : posB (tkR [115] s) = true → x = valD (digs (tkR [115] s)))
    (hz : tkB [40] (numR (tkR [115] s)) = true) (hk : kidsQ d (tkR [40] (numR (tkR [115] s))) okp ks r ok) : termQ d s true (.node x ks) (tkR [41] r) (tkB [41] r && ok) := by
  have hlen : ∀ f, 2 * s.length + 1 ≤ f + 1 → 2 * (tkR [40] (numR (tkR [115] s))).length + 2 ≤ f := fun f hf => by
    have h1 := tk1_lt hy
    have h2 := numR_le (tkR [115] s)
    have h3 := tk1_lt hz
    omega
  have e : ∀ f, termO (f + 1) d s = match posO (tkR [115] s) with | Option.none => Option.none | some x => (kidsO f d (tkR [40] (numR (tkR [115] s)))).map fun y => (.node (x.1 : Int) y.1, y.2) := fun f => by
    rw [termO, if_neg (by omega), tk_eq, if_neg (by rw [hx]; simp)]
    simp only []
    rw [tk_eq, if_pos hy]
    simp only []
    rw [posO_eq]
    by_cases hp : posB (tkR [115] s) = true
    · rw [if_pos hp]
      simp only []
      rw [tk_eq, if_pos hz]
    · rw [if_neg hp]
  refine ⟨fun h => ⟨rfl, fun f hf => ?_⟩, fun _ h f hf => ?_⟩
  · match f, hf with
    | f + 1, hf =>
      obtain ⟨h1, h2⟩ : tkB [41] r = true ∧ ok = true := by simpa using h
      obtain ⟨h3, h4⟩ := hk.1 h2
      have hp : posB (tkR [115] s) = true := hok ▸ h3
      rw [e, posO_eq, if_pos hp]
      simp only []
      rw [h4 f (hlen f hf), tk_eq, if_pos h1, hv hp]
      rfl
  · match f, hf with
    | f + 1, hf =>
      rw [e, posO_eq]
      by_cases hp : posB (tkR [115] s) = true
      · rw [if_pos hp]
        simp only []
        have hop : okp = true := hok.trans hp
        cases hok2 : ok with
        | false => rw [hk.2 hop hok2 f (hlen f hf)]; rfl
        | true =>
          have h1 : ¬ tkB [41] r = true := by rw [hok2] at h; simpa using h
          rw [(hk.1 hok2).2 f (hlen f hf), tk_eq, if_neg h1]; rfl
      · rw [if_neg hp]
/-- .. on the way -/
def kidsI (d : Nat) (r0 : Bs) (okp : Bool) (ks : List T) (r : Bs) (ok : Bool) : Prop :=
  (ok = true → okp = true ∧ ∀ f, 2 * r0.length + 2 ≤ f → ∃ f', 2 * r.length + 2 ≤ f' ∧ kidsO f d r0 = (kidsO f' d r).map fun y => (ks ++ y.1, y.2)) ∧ (ok = false → okp = false)
theorem kidsI.start (d : Nat) (r0 : Bs) (okp : Bool) : kidsI d r0 okp [] r0 okp :=
  ⟨fun h => ⟨h, fun f hf => ⟨f, hf, by cases kidsO f d r0 <;> rfl⟩⟩, fun h => h⟩
theorem kidsI.go {d : Nat} {r0 r r1 : Bs} {okp ok ok1 : Bool} {ks : List T} {t : T} (h : kidsI d r0 okp ks r ok) (ht : termQ (d + 1) r ok t r1 ok1) :
    (ok1 = false → kidsQ d r0 okp (ks ++ [t]) r1 false) ∧ (ok1 = true → tkB [44] r1 = false → kidsQ d r0 okp (ks ++ [t]) r1 true) ∧ (ok1 = true → tkB [44] r1 = true → r1.length ≤ r.length → kidsI d r0 okp (ks ++ [t]) (tkR [44] r1) true) := by
  refine ⟨fun h1 => ⟨(fun h2 => by cases h2), fun h2 _ f hf => ?_⟩, fun h1 h2 => ⟨fun _ => ?_, (fun _ h3 => by cases h3)⟩, fun h1 h2 hle => ⟨fun _ => ?_, (fun h3 => by cases h3)⟩⟩
  · have hok : ok = true := by
      cases ok with
      | true => rfl
      | false => rw [h.2 rfl] at h2; cases h2
    obtain ⟨f', hf', e⟩ := (h.1 hok).2 f hf
    match f', hf' with
    | f' + 1, hf' => rw [e, kidsO, ht.2 hok h1 f' (by omega)]; rfl
  · obtain ⟨hok, h4⟩ := ht.1 h1
    obtain ⟨hop, h5⟩ := h.1 hok
    refine ⟨hop, fun f hf => ?_⟩
    obtain ⟨f', hf', e⟩ := h5 f hf
    match f', hf' with
    | f' + 1, hf' =>
      rw [e, kidsO, h4 f' (by omega)]
      simp only []
      rw [tk_eq, if_neg (by rw [h2]; simp)]
      simp only []
      cases takeO [41] r1 <;> rfl
  · obtain ⟨hok, h4⟩ := ht.1 h1
    obtain ⟨hop, h5⟩ := h.1 hok
    refine ⟨hop, fun f hf => ?_⟩
    obtain ⟨f', hf', e⟩ := h5 f hf
    match f', hf' with
    | f' + 1, hf' =>
      have h6 := tk1_lt h2
      refine ⟨f', by omega, ?_⟩
      rw [e, kidsO, h4 f' (by omega)]
      simp only []
      rw [tk_eq, if_pos h2]
      simp only []
      cases kidsO f' d (tkR [44] r1) <;> simp

def TermP (bR d : Nat) (s : Bs) (ok : Bool) (w0 w : World) (e : Ending) (w' : World) : Prop :=
  ∃ t k sp r ok', e = .returned (.agg #[.int .i64 t.head, .slice k t.kids.length (t.kids.length + sp)]) ∧ TreeP (fun b => w.heap.size ≤ b) w' (.agg #[.int .i64 t.head, .slice k t.kids.length (t.kids.length + sp)]) t ∧ termQ d s ok t r ok' ∧
    r.length ≤ s.length ∧ w.heap.size ≤ w'.heap.size ∧ St w0 w' [rdr bR r ok', .kept w bR]

set_option maxRecDepth 100000 in
set_option maxHeartbeats 8000000 in
theorem term39 (n : Nat) : ∀ (s : Bs) (ok : Bool) (d bR : Nat) (w0 w : World), s.length < n → St w0 w [rdr bR s ok] → w0.heap.size ≤ bR → GV w0 → s.length ≤ 100000 → d ≤ 13 →
    Calls Tryz.prog 46 #[.pointer (some ⟨bR, 0, none⟩), .int .i64 d] w (TermP bR d s ok w0 w) := by
  obtain ⟨i44, gi, gz0, gz1, gz2⟩ := info_parts info44
  induction n with
  | zero => intro s ok d bR w0 w h; omega
  | succ n ih =>
  intro s ok d bR w0 w hsn S h0 hg hs hd
  have HIH := Lib.hid ih
  have HG := Lib.hid hg
  obtain ⟨bx, hbx⟩ : ∃ b, b = w.heap.size := ⟨_, rfl⟩
  have hlR := S.lt 0
  have S1 := (S.add (.kept w bR) (fun c _ _ => rfl)).box hbx.symm #[.int .i64 0, .slice none 0 0] 45
  have HBX := Lib.hid (show w.heap.size = bx ∧ bR < bx from ⟨hbx.symm, by omega⟩)
  clear S ih hg
  go_enter Tryz.func46, Tryz.ntmps46
  go_upto_region 1 with fail
  rw [← hbx]
  refine S1.genC (z := bx + 1) (by simp [hbx]) ?_
  clear S1 hbx
  intro w1 z1 S
  obtain ⟨⟨y0, y1⟩, y2, y3⟩ := S.two 0
  obtain ⟨⟨v0, v1⟩, v2, v3⟩ := S.two 2
  by_cases hbad : ok = false ∨ 12 < d
  · have HQ : Hid (∀ t r, termQ d s ok t r false) := Lib.hid (fun t r => by
      rcases hbad with rfl | h
      · exact termQ.off
      · exact termQ.deep h)
    have hx0 : w0.heap.size ≤ bx := by have := HBX.out; omega
    have hRx : bx ≠ bR := by have := HBX.out; omega
    have SF := Lib.hid ((S.set21 0 rfl (.bool false) h0 (by simp only [fsnoc, offs, offAll, rdr, Fct.box, Fct.kept, and_true]; exact ⟨by simp, by omega⟩)).set2 2 rfl (.int .i64 0) (.slice none 0 0) hx0 (by simp only [fset, fsnoc, offs, offAll, rdr, Fct.box, Fct.kept, and_true]; exact ⟨by omega, by have := HBX.out; omega⟩))
    clear S
    have hq : (ok = false) ∨ (ok = true ∧ ¬ (d : Int) ≤ 12) := by
      cases ok with
      | false => exact .inl rfl
      | true => rcases hbad with h | h
                · cases h
                · exact .inr ⟨rfl, by omega⟩
    clear hbad
    rcases hq with rfl | ⟨rfl, hdd⟩
    all_goals
      go_wp2_with fail
      refine ret_box2 (.int .i64 0) (.slice none 0 0) bx 45 (SF.out.block 2) (fun w' q0 q1 => by simp [results, Tryz.results46, go_sem, q0, q1]) rfl ?_
      exact ⟨.node 0 [], none, 0, s, false, rfl, TreeP.leaf _ _ _, HQ.out _ _, Nat.le_refl _, by simp; have := HBX.out; omega, SF.out.pick [0, 1]⟩
  · obtain ⟨rfl, hd12⟩ : ok = true ∧ d ≤ 12 := by
      cases ok
      · exact absurd (.inl rfl) hbad
      · exact ⟨rfl, by omega⟩
    clear hbad
    have hdd : (d : Int) ≤ 12 := by omega
    have hRx : bx ≠ bR := by have := HBX.out; omega
    have hx0 : w0.heap.size ≤ bx := by have := HBX.out; omega
    have HOF := Lib.hid (show offAll bR [Fct.kept w bR, Fct.box bx #[.int .i64 0, .slice none 0 0] 45] by simp only [offAll, rdr, Fct.box, Fct.kept, and_true]; exact ⟨by simp, by have := HBX.out; omega⟩)
    have S2 : St w0 (w1.setCell ⟨bR, 1, none⟩ (.bool true)) [rdr bR s true, .kept w bR, .box bx #[.int .i64 0, .slice none 0 0] 45] := S.set21 0 rfl (.bool true) h0 HOF.out
    have HT1 := Lib.hid (take37 [120] s true bR w0 _ _ S2 h0 HOF.out)
    clear S S2
    have hz2 : (w1.setCell ⟨bR, 1, none⟩ (.bool true)).heap.size = w1.heap.size := by simp
    go_wp2_with fail
    refine (HT1.out).mono ?_
    rintro e w2 ⟨rfl, z2, S⟩
    rw [hz2] at z2
    clear HT1 y0 y1 y2 y3 v0 v1 v2 v3 hz2
    cases hx : tkB [120] s with
    | true =>
      have HP := Lib.hid (positive52 _ true bR w0 w2 _ S h0 HOF.out HG.out (by have := tkR_le [120] s; omega))
      clear S
      go_wp2_with fail
      refine (HP.out).mono ?_
      rintro e w3 ⟨x, rfl, hxv, z3, S⟩
      clear HP
      obtain ⟨⟨v0, v1⟩, v2, v3⟩ := S.two 2
      have SF := Lib.hid (S.set2 2 rfl (.int .i64 (wrap64 (-x))) (.slice none 0 0) hx0 (by simp only [fset, fsnoc, offs, offAll, rdr, Fct.box, Fct.kept, and_true]; exact ⟨by have := HBX.out; omega, by have := HBX.out; omega⟩))
      have HQ := Lib.hid (termQ.var hd12 hx hxv)
      clear S hxv
      go_wp2_with fail
      refine ret_box2 (.int .i64 (wrap64 (-x))) (.slice none 0 0) bx 45 (SF.out.block 2) (fun w' q0 q1 => by simp [results, Tryz.results46, go_sem, q0, q1]) rfl ?_
      exact ⟨.node (wrap64 (-x)) [], none, 0, _, _, rfl, TreeP.leaf _ _ _, HQ.out, Nat.le_trans (numR_le _) (tkR_le _ _), by simp; have := HBX.out; omega, SF.out.pick [0, 1]⟩
    | false =>
      rw [tkR_miss hx] at S
      have HT2 := Lib.hid (take37 [115] s true bR w0 _ _ S h0 HOF.out)
      clear S
      go_wp2_with fail
      refine (HT2.out).mono ?_
      rintro e w3 ⟨rfl, z3, S⟩
      clear HT2
      cases hy : tkB [115] s with
      | false =>
        rw [tkR_miss hy] at S
        obtain ⟨⟨y0, y1⟩, y2, y3⟩ := S.two 0
        obtain ⟨⟨v0, v1⟩, v2, v3⟩ := S.two 2
        have SF := Lib.hid ((S.set21 0 rfl (.bool false) h0 HOF.out).set2 2 rfl (.int .i64 0) (.slice none 0 0) hx0 (by simp only [fset, fsnoc, offs, offAll, rdr, Fct.box, Fct.kept, and_true]; exact ⟨by have := HBX.out; omega, by have := HBX.out; omega⟩))
        have HQ := Lib.hid (fun t r => termQ.none (d := d) (t := t) (r := r) hx hy)
        clear S
        go_wp2_with fail
        refine ret_box2 (.int .i64 0) (.slice none 0 0) bx 45 (SF.out.block 2) (fun w' q0 q1 => by simp [results, Tryz.results46, go_sem, q0, q1]) rfl ?_
        exact ⟨.node 0 [], none, 0, s, false, rfl, TreeP.leaf _ _ _, HQ.out _ _, Nat.le_refl _, by simp; have := HBX.out; omega, SF.out.pick [0, 1]⟩
      | true =>
        have HP := Lib.hid (positive52 _ true bR w0 w3 _ S h0 HOF.out HG.out (by have := tkR_le [115] s; omega))
        clear S
        go_wp2_with fail
        refine (HP.out).mono ?_
        rintro e w4 ⟨x, rfl, hxv, z4, S⟩
        clear HP
        obtain ⟨b5, hb5⟩ : ∃ b, b = w4.heap.size := ⟨_, rfl⟩
        have S5 := S.box hb5.symm #[.int .i64 x, .slice none 0 0] 45
        have hz5 : (w4.alloc (.cells #[.int .i64 x, .slice none 0 0] 45)).heap.size = b5 + 1 := by simp [hb5]
        have HB5 := Lib.hid (show bx < b5 ∧ w4.heap.size = b5 from ⟨by have := HBX.out; omega, hb5.symm⟩)
        clear S
        go_upto_region 10 with fail
        rw [← hb5]
        refine S5.genC (z := b5 + 1) (by omega) ?_
        clear S5 hz5 hb5
        intro w5 z5 S
        have HOF5 := Lib.hid (show offAll bR [Fct.kept w bR, Fct.box bx #[.int .i64 0, .slice none 0 0] 45, Fct.box b5 #[.int .i64 x, .slice none 0 0] 45] by simp only [offAll, Fct.box, Fct.kept, and_true]; exact ⟨by simp, by have := HBX.out; omega, by have := HBX.out; have := HB5.out; omega⟩)
        obtain ⟨s2, hs2⟩ : ∃ s2, s2 = tkR [115] s := ⟨_, rfl⟩
        obtain ⟨okp, hokp⟩ : ∃ b, b = posB (tkR [115] s) := ⟨_, rfl⟩
        rw [← hokp, Bool.true_and, ← hs2] at S
        have HT3 := Lib.hid (take37 [40] (numR s2) okp bR w0 _ _ S h0 HOF5.out)
        clear S
        go_wp2_with fail
        refine (HT3.out).mono ?_
        rintro e w6 ⟨rfl, z6, S⟩
        clear HT3
        cases hz : tkB [40] (numR s2) with
        | false =>
          rw [tkR_miss hz] at S
          obtain ⟨⟨v0, v1⟩, v2, v3⟩ := S.two 2
          obtain ⟨⟨u0, u1⟩, u2, u3⟩ := S.two 3
          have SF := Lib.hid (S.set2 2 rfl (.int .i64 x) (.slice none 0 0) hx0 (by simp only [fset, fsnoc, offs, offAll, rdr, Fct.box, Fct.kept, and_true]; exact ⟨by have := HBX.out; omega, by have := HBX.out; omega, by have := HB5.out; omega⟩))
          have HQ := Lib.hid (termQ.con hd12 hx hy hokp hxv (by rw [← hs2]; exact hz))
          rw [← hs2] at HQ
          clear S hxv
          go_wp2_with fail
          refine ret_box2 (.int .i64 x) (.slice none 0 0) bx 45 (SF.out.block 2) (fun w' q0 q1 => by simp [results, Tryz.results46, go_sem, q0, q1]) rfl ?_
          exact ⟨.node x [], none, 0, _, _, rfl, TreeP.leaf _ _ _, HQ.out, Nat.le_trans (numR_le _) (by rw [hs2]; exact tkR_le _ _), by simp; have := HBX.out; have := HB5.out; omega, SF.out.pick [0, 1]⟩
        | true =>
          have HQ := Lib.hid (fun (ks : List T) (r : Bs) (ok : Bool) (h : kidsQ d (tkR [40] (numR s2)) okp ks r ok) => termQ.row hd12 hx hy hokp hxv (by rw [← hs2]; exact hz) (by rw [← hs2]; exact h))
          have HL0 := Lib.hid (show (tkR [40] (numR s2)).length + 2 ≤ s.length by
            have h1 := tk1_lt hz
            have h2 := numR_le s2
            have h3 := tk1_lt hy
            rw [← hs2] at h3
            omega)
          obtain ⟨r0, hr0⟩ : ∃ r, r = tkR [40] (numR s2) := ⟨_, rfl⟩
          rw [← hr0] at S HQ HL0
          clear hxv hz hr0 hokp hs2 hx hy
          have S7 := S.add (.owns treeE (b5 + 1) (fun c => b5 + 1 ≤ c) (.slice none 0 0) []) (Elt.Own.nil _ _ _ _)
          have z7 : b5 + 1 ≤ w6.heap.size := by omega
          clear S
          go_upto_block 1 with fail
          go_cut [] (fun W => ∃ (ks : List T) (r : Bs) (ok : Bool) (o : Value), kidsQ d r0 okp ks r ok ∧ r.length ≤ r0.length ∧ b5 + 1 ≤ W.heap.size ∧ St w0 W [rdr bR r ok, .kept w bR, .box bx #[.int .i64 0, .slice none 0 0] 45, .box b5 #[.int .i64 x, o] 45, .owns treeE (b5 + 1) (fun c => b5 + 1 ≤ c) o ks])
          case first =>
            go_wp2_with fail
            go_loopg [] (r0.length + 1) (fun m wr => ∃ (ks : List T) (r : Bs) (ok : Bool) (o : Value), m = r.length + 1 ∧ kidsI d r0 okp ks r ok ∧ ks.length + r.length ≤ r0.length ∧ b5 + 1 ≤ wr.heap.size ∧ St w0 wr [rdr bR r ok, .kept w bR, .box bx #[.int .i64 0, .slice none 0 0] 45, .box b5 #[.int .i64 x, o] 45, .owns treeE (b5 + 1) (fun c => b5 + 1 ≤ c) o ks])
            case atStart => exact ⟨[], r0, okp, _, rfl, kidsI.start _ _ _, by simp, z7, S7⟩
            case round =>
              clear S7
              obtain ⟨ks, r, ok, o, rfl, hi, hlen, hzr, S⟩ := hrel
              have SD := S.drew
              have hb0 := HL0.out
              have HI := Lib.hid hi
              have HOW := Lib.hid (fun c (hc : o.ownBlock = some c) => S.ownlt treeE 4 rfl c hc)
              have HOFD := Lib.hid (show offAll bR [Fct.kept w bR, Fct.box bx #[.int .i64 0, .slice none 0 0] 45, Fct.box b5 #[.int .i64 x, o] 45, .owns treeE (b5 + 1) (fun c => b5 + 1 ≤ c) o ks] by
                have h1 := HBX.out; have h2 := HB5.out
                simp only [offAll, Fct.box, Fct.kept, Fct.owns, and_true]
                refine ⟨by simp, by omega, by omega, fun e => ?_⟩
                rcases e with e | e
                · have := (S.ownlt treeE 4 rfl _ e).1; omega
                · omega)
              have HC := Lib.hid (HIH.out r ok (d + 1) bR w0 wr.drew (by omega) (SD.pick [0]) h0 HG.out (by omega) (by omega))
              rw [show ((d + 1 : Nat) : Int) = (d : Int) + 1 from rfl] at HC
              have HSD := Lib.hid SD
              have hzd : wr.drew.heap.size = wr.heap.size := rfl
              have HSIZE := Lib.hid (show b5 + 1 ≤ wr.heap.size ∧ wr.drew.heap.size = wr.heap.size from ⟨hzr, hzd⟩)
              have HLEN := Lib.hid hlen
              have HS : wr.drew.cell? ⟨b5, 1, none⟩ = some o := (SD.two 3).2.1
              clear S SD hi hlen hzr hzd
              go_upto_region 11 with fail
              refine wpT_region [9] (fun W => W.cell? ⟨b5, 1, none⟩ = some o) (by kernel_rfl) ?_
              try simp only [Act.put, List.setIfInBounds_toArray, List.set_cons_zero, List.set_cons_succ]
              refine wpT.pure (i := 0) (by kernel_rfl) (by kernel_rfl) (by kernel_rfl) (by kernel_rfl) (by kernel_rfl) (fun _ => HS) ?_
              intro oi ho
              simp only [List.getElem?_toArray, List.getElem?_cons_succ, List.getElem?_cons_zero, Option.some.injEq] at ho
              subst ho
              refine ⟨?_, Or.inl ⟨by rfl, ?_⟩, fun _ _ _ h => h, ?_⟩
              rotate_left 1
              · intro W hW
                try (subst hW)
                try dsimp only at hW
                go_simp
                try with_reducible rfl
              try simp only [Act.put, List.setIfInBounds_toArray, List.set_cons_zero, List.set_cons_succ]
              refine wpT.take (i := 1) (by kernel_rfl) (by kernel_rfl) (by kernel_rfl) (by kernel_rfl) (by kernel_rfl) (fun _ => HS) ?_
              intro oi ho
              simp only [List.getElem?_toArray, List.getElem?_cons_succ, List.getElem?_cons_zero, Option.some.injEq] at ho
              subst ho
              refine ⟨?_, Or.inl ⟨by rfl, ?_⟩, fun _ _ _ h => h, ?_⟩
              rotate_left 1
              · intro W hW
                try (subst hW)
                try dsimp only at hW
                go_simp
                try with_reducible rfl
              try simp only [Act.put, List.setIfInBounds_toArray, List.set_cons_zero, List.set_cons_succ]
              refine wpT.pure (i := 2) (by kernel_rfl) (by kernel_rfl) (by kernel_rfl) (by kernel_rfl) (by kernel_rfl) (fun _ => HS) ?_
              intro oi ho
              simp only [List.getElem?_toArray, List.getElem?_cons_succ, List.getElem?_cons_zero, Option.some.injEq] at ho
              subst ho
              refine ⟨?_, Or.inl ⟨by rfl, ?_⟩, fun _ _ _ h => h, ?_⟩
              rotate_left 1
              · intro W hW
                try (subst hW)
                try dsimp only at hW
                go_simp
                try with_reducible rfl
              try simp only [Act.put, List.setIfInBounds_toArray, List.set_cons_zero, List.set_cons_succ]
              refine wpT.pure (i := 3) (by kernel_rfl) (by kernel_rfl) (by kernel_rfl) (by kernel_rfl) (by kernel_rfl) (fun _ => HS) ?_
              intro oi ho
              simp only [List.getElem?_toArray, List.getElem?_cons_succ, List.getElem?_cons_zero, Option.some.injEq] at ho
              subst ho
              refine ⟨?_, Or.inl ⟨by rfl, ?_⟩, fun _ _ _ h => h, ?_⟩
              rotate_left 1
              · intro W hW
                try (subst hW)
                try dsimp only at hW
                go_simp
                try with_reducible rfl
              try simp only [Act.put, List.setIfInBounds_toArray, List.set_cons_zero, List.set_cons_succ]
              refine wpT.pure (i := 4) (by kernel_rfl) (by kernel_rfl) (by kernel_rfl) (by kernel_rfl) (by kernel_rfl) (fun _ => HS) ?_
              intro oi ho
              simp only [List.getElem?_toArray, List.getElem?_cons_succ, List.getElem?_cons_zero, Option.some.injEq] at ho
              subst ho
              refine ⟨?_, Or.inl ⟨by rfl, ?_⟩, fun _ _ _ h => h, ?_⟩
              rotate_left 1
              · intro W hW
                try (subst hW)
                try dsimp only at hW
                go_simp
                try with_reducible rfl
              try simp only [Act.put, List.setIfInBounds_toArray, List.set_cons_zero, List.set_cons_succ]
              refine wpT.one (i := 5) (by kernel_rfl) ?_
              intro oi ho
              simp only [List.getElem?_toArray, List.getElem?_cons_succ, List.getElem?_cons_zero, Option.some.injEq] at ho
              subst ho
              intro K' hK
              have HK := Lib.hid hK
              clear hK
              go_simp
              rw [show IntKind.i64.wrap ((d : Int) + 1) = (d : Int) + 1 by rw [IntWalk.i64_left, IntWalk.wrap64_in _ (by omega)]]
              go_at_call 46
              refine (HC.out).mono ?_
              rintro e w8 ⟨t, k, sp, r1, ok1, rfl, ht, hq, hr1, hz8, SR⟩
              have S9 := (((HSD.out.drop).over HOFD.out SR.bel (SR.kept 1)).add (.treeP (fun b => wr.drew.heap.size ≤ b) (.agg #[.int .i64 t.head, .slice k t.kids.length (t.kids.length + sp)]) t) ht).cons (rdr bR r1 ok1) (SR.get 0)
              have HS8 : w8.cell? ⟨b5, 1, none⟩ = some o := (S9.two 3).2.1
              have HQ9 := Lib.hid (HI.out.go hq)
              have HR1 := Lib.hid (show r1.length ≤ r.length ∧ wr.heap.size ≤ w8.heap.size from ⟨hr1, hz8⟩)
              have HS9 := Lib.hid S9
              clear HC HI hq hr1 hz8 SR S9 ht HS
              refine HK.out _ _ (fun _ => HS8) ?_
              try simp only [Act.put, List.setIfInBounds_toArray, List.set_cons_zero, List.set_cons_succ]
              refine wpT.one (i := 6) (by kernel_rfl) ?_
              intro oi ho
              simp only [List.getElem?_toArray, List.getElem?_cons_succ, List.getElem?_cons_zero, Option.some.injEq] at ho
              subst ho
              intro K' hK
              have HK := Lib.hid hK
              clear hK
              go_simp
              refine HK.out _ _ (fun _ => Below.cellOf ((Below.refl _ w8).alloc (Nat.le_refl _) _) HS8) ?_
              try simp only [Act.put, List.setIfInBounds_toArray, List.set_cons_zero, List.set_cons_succ]
              refine wpT.one (i := 7) (by kernel_rfl) ?_
              intro oi ho
              simp only [List.getElem?_toArray, List.getElem?_cons_succ, List.getElem?_cons_zero, Option.some.injEq] at ho
              subst ho
              intro K' hK
              have HK := Lib.hid hK
              clear hK
              refine step_app (by rfl) (.tmp 45) (.tmp 50) 38 (by rfl) treeE HS9.out 4 rfl (x := t) (q := fun b => wr.drew.heap.size ≤ b) (p' := fun b => b5 + 1 ≤ b) ⟨k, sp, rfl, HS9.out.treeP 5⟩ Tryz.underlying38 gi gz0 gz1 gz2 (by rfl) (by rfl) (by rfl) (by rfl)
                (by have := HLEN.out; unfold maxLen; omega) (by have := HLEN.out; omega) (by have := HSIZE.out; have := HR1.out; omega) (by have := HBX.out; have := HB5.out; omega)
                (fun bb h1 h2 h3 => by
                  have h4 := (HOW.out bb h1).2; have h5 := HBX.out; have h6 := HB5.out; have h7 := HSIZE.out
                  simp only [fsnoc, offs, offAll, rdr, Fct.box, Fct.kept, Fct.treeP, and_true]
                  omega)
                (fun bb h1 h2 => by have h4 := (HOW.out bb h2).2; have h7 := HSIZE.out; omega)
                (fun bb h1 => by have h7 := HSIZE.out; rcases h1 with h1 | h1; exact h1; omega) ?_
              intro gg cap w9 S10 hz9 hgl hgg
              have HS10 : w9.cell? ⟨b5, 1, none⟩ = some o := (S10.two 3).2.1
              refine HK.out _ _ (fun _ => HS10) ?_
              clear HS8 HS9
              try simp only [Act.put, List.setIfInBounds_toArray, List.set_cons_zero, List.set_cons_succ]
              refine wpT.pure (i := 8) (by kernel_rfl) (by kernel_rfl) (by kernel_rfl) (by kernel_rfl) (by kernel_rfl) (fun _ => HS10) ?_
              intro oi ho
              simp only [List.getElem?_toArray, List.getElem?_cons_succ, List.getElem?_cons_zero, Option.some.injEq] at ho
              subst ho
              refine ⟨?_, Or.inl ⟨by rfl, ?_⟩, fun _ _ _ h => h, ?_⟩
              rotate_left 1
              · intro W hW
                try (subst hW)
                try dsimp only at hW
                go_simp
                try with_reducible rfl
              obtain ⟨⟨u0, u1⟩, u2, u3⟩ := S10.two 3
              try simp only [Act.put, List.setIfInBounds_toArray, List.set_cons_zero, List.set_cons_succ]
              refine wpT.one (i := 9) (by kernel_rfl) ?_
              intro oi ho
              simp only [List.getElem?_toArray, List.getElem?_cons_succ, List.getElem?_cons_zero, Option.some.injEq] at ho
              subst ho
              intro K' hK
              have HK := Lib.hid hK
              clear hK
              go_simp
              refine HK.out _ _ (fun h => absurd h (by decide)) ?_
              have hgb : b5 + 1 ≤ gg := (S10.ownlt treeE 4 rfl gg rfl).1
              have S11 := (S10.set21 3 rfl (.slice (some ⟨gg, 0, none⟩) (ks.length + 1) cap) (by have := HBX.out; have := HB5.out; omega) (by
                have h1 := HBX.out; have h2 := HB5.out; have h7 := HSIZE.out
                simp only [fset, fsnoc, offs, offAll, rdr, Fct.box, Fct.kept, Fct.owns, Fct.treeP, and_true]
                refine ⟨by omega, by omega, by omega, fun e => ?_, by omega⟩
                rcases e with e | e
                · have e' : gg = b5 := by simpa [Value.ownBlock] using e
                  omega
                · omega)).pick [0, 1, 2, 3, 4]
              try simp only [Act.put, List.setIfInBounds_toArray, List.set_cons_zero, List.set_cons_succ]
              refine wpT.done (by kernel_rfl) ?_
              have S12 : St w0 (w9.setCell ⟨b5, 1, none⟩ (.slice (some ⟨gg, 0, none⟩) (ks.length + 1) cap)) [rdr bR r1 ok1, .kept w bR, .box bx #[.int .i64 0, .slice none 0 0] 45, .box b5 #[.int .i64 x, .slice (some ⟨gg, 0, none⟩) (ks.length + 1) cap] 45, .owns treeE (b5 + 1) (fun c => b5 + 1 ≤ c) (.slice (some ⟨gg, 0, none⟩) (ks.length + 1) cap) (ks ++ [t])] := S11
              have hzf : b5 + 1 ≤ w9.heap.size := by have := HSIZE.out; have := HR1.out; omega
              clear S11 S10 u0 u1 u2 u3 HS10 HOW HOFD HSD hgg
              refine S12.genX (z := b5 + 1) (by simp; exact hzf) ?_
              clear S12 hzf hz9 hgl
              intro wa za S
              have HOF7 := Lib.hid (show offAll bR [Fct.kept w bR, Fct.box bx #[.int .i64 0, .slice none 0 0] 45, Fct.box b5 #[.int .i64 x, .slice (some ⟨gg, 0, none⟩) (ks.length + 1) cap] 45, .owns treeE (b5 + 1) (fun c => b5 + 1 ≤ c) (.slice (some ⟨gg, 0, none⟩) (ks.length + 1) cap) (ks ++ [t])] by
                have h1 := HBX.out; have h2 := HB5.out
                simp only [offAll, Fct.box, Fct.kept, Fct.owns, and_true]
                refine ⟨by simp, by omega, by omega, fun e => ?_⟩
                rcases e with e | e
                · have := (S.ownlt treeE 4 rfl _ e).1; omega
                · omega)
              obtain ⟨⟨y0, y1⟩, y2, y3⟩ := S.two 0
              cases ok1 with
              | false =>
                have hk := HQ9.out.1 rfl
                go_wp2_with fail
                go_meet
                case rel => exact ⟨ks ++ [t], r1, false, _, hk, by have := HR1.out; have := HLEN.out; omega, za, S⟩
              | true =>
                have HT5 := Lib.hid (take37 [44] r1 true bR w0 _ _ S h0 HOF7.out)
                clear S
                go_wp2_with fail
                refine (HT5.out).mono ?_
                rintro e wb ⟨rfl, zb, S⟩
                clear HT5
                cases hcm : tkB [44] r1 with
                | false =>
                  rw [tkR_miss hcm] at S
                  have hk := HQ9.out.2.1 (by trivial) hcm
                  go_wp2_with fail
                  go_meet
                  case rel => exact ⟨ks ++ [t], r1, true, _, hk, by have := HR1.out; have := HLEN.out; omega, by omega, S⟩
                | true =>
                  have hk := HQ9.out.2.2 (by trivial) hcm HR1.out.1
                  have hlt := tk1_lt hcm
                  have hr1 := HR1.out; have hlen := HLEN.out
                  go_wp2_with fail
                  go_roundg ((tkR [44] r1).length + 1)
                  case measure => omega
                  case rel => exact ⟨ks ++ [t], tkR [44] r1, true, _, rfl, hk, by rw [List.length_append]; simp; omega, by omega, S⟩
          case rest =>
            obtain ⟨ks, r, ok, o, hk, hr, hzc, S⟩ := hcut
            obtain ⟨ro, rsp, rfl, hrow, hml⟩ := (S.owns treeE 4).row (fun b h => h)
            have HOF6 := Lib.hid (show offAll bR [Fct.kept w bR, Fct.box bx #[.int .i64 0, .slice none 0 0] 45, Fct.box b5 #[.int .i64 x, .slice ro ks.length (ks.length + rsp)] 45, .owns treeE (b5 + 1) (fun c => b5 + 1 ≤ c) (.slice ro ks.length (ks.length + rsp)) ks] by
              have h1 := HBX.out; have h2 := HB5.out
              simp only [offAll, Fct.box, Fct.kept, Fct.owns, and_true]
              refine ⟨by simp, by omega, by omega, fun e => ?_⟩
              rcases e with e | e
              · have := (S.ownlt treeE 4 rfl _ e).1; omega
              · omega)
            have HT4 := Lib.hid (take37 [41] r ok bR w0 _ _ S h0 HOF6.out)
            have HQ2 := Lib.hid (HQ.out ks r ok hk)
            have HML := Lib.hid hml
            clear S S7 hrow hml hk
            go_wp2_with fail
            refine (HT4.out).mono ?_
            rintro e w7 ⟨rfl, z8, S⟩
            clear HT4
            obtain ⟨⟨y0, y1⟩, y2, y3⟩ := S.two 0
            obtain ⟨⟨v0, v1⟩, v2, v3⟩ := S.two 2
            obtain ⟨⟨u0, u1⟩, u2, u3⟩ := S.two 3
            have hR5 : b5 ≠ bR := by have := HBX.out; have := HB5.out; omega
            have FIN := Lib.hid (show ∀ ok', ok' = (tkB [41] r && ok) → ∃ W, W = ((w7.setCell ⟨bR, 1, none⟩ (.bool ok')).setCell ⟨bx, 0, none⟩ (.int .i64 x)).setCell ⟨bx, 1, none⟩ (.slice ro ks.length (ks.length + rsp)) ∧
                W.heap[bx]? = some (.cells #[.int .i64 x, .slice ro ks.length (ks.length + rsp)] 45 (0, 0)) ∧ TermP bR d s true w0 w (.returned (.agg #[.int .i64 x, .slice ro ks.length (ks.length + rsp)])) W by
              intro ok' hok'
              have h1 := HBX.out; have h2 := HB5.out
              have SA := (S.set21 0 rfl (.bool ok') h0 HOF6.out).set2 2 rfl (.int .i64 x) (.slice ro ks.length (ks.length + rsp)) hx0 (by
                simp only [fset, offs, offAll, rdr, Fct.box, Fct.kept, Fct.owns, and_true]
                refine ⟨by omega, by omega, by omega, fun e => ?_⟩
                rcases e with e | e
                · have := (S.ownlt treeE 4 rfl _ e).1; omega
                · omega)
              refine ⟨_, rfl, SA.block 2, ?_⟩
              obtain ⟨ro', rsp', e, hrow, _⟩ := (SA.owns treeE 4).row (fun b h => h)
              simp only [Value.slice.injEq, true_and] at e
              obtain ⟨e1, e2⟩ := e
              have e3 : rsp' = rsp := by omega
              subst e1; subst e3
              have hq := HQ2.out
              rw [← hok'] at hq
              refine ⟨.node x ks, ro, rsp', tkR [41] r, ok', rfl, ?_, hq, Nat.le_trans (tkR_le _ _) (by have := HL0.out; omega), by simp; omega, SA.pick [0, 1]⟩
              exact (TreeP.close (h := x) (sp := rsp') hrow.rowP HML.out).mono (fun b h _ => by omega))
            clear S HQ2 HML HOF6 HQ
            cases hq : tkB [41] r with
            | true =>
              obtain ⟨W, hW, hb, hT⟩ := FIN.out ok (by rw [hq]; simp)
              have HT := Lib.hid hT; have HB := Lib.hid hb
              clear FIN hT hb
              go_wp2_with fail
              rw [← hW]
              exact ret_box2 _ _ bx 45 HB.out (fun w' q0 q1 => by simp [results, Tryz.results46, go_sem, q0, q1]) rfl HT.out
            | false =>
              obtain ⟨W, hW, hb, hT⟩ := FIN.out false (by rw [hq]; simp)
              have HT := Lib.hid hT; have HB := Lib.hid hb
              clear FIN hT hb
              go_wp2_with fail
              rw [← hW]
              exact ret_box2 _ _ bx 45 HB.out (fun w' q0 q1 => by simp [results, Tryz.results46, go_sem, q0, q1]) rfl HT.out
end Go.Proofs.YtidgnbdlfngeaaaGreatDoor
