/-
  Walks: the document's ReadSigns.
-/
import Derived.Test.YtidgnbdlfngeaaaGreatDoorDg
namespace Go.Proofs.YtidgnbdlfngeaaaGreatDoor
open Go.RowKit Go.Shelf
set_option linter.unusedVariables false
set_option linter.unusedSimpArgs false
set_option maxHeartbeats 400000
attribute [local go_sem 3000] index0_sV slice1_sV

/-- what ReadSigns answers -/
def RSP (s : Bs) (w : World) (e : Ending) (w' : World) : Prop := ∃ (ns : List Int) (ro : Option Addr) (sp : Nat) (ok : Bool), e = .returned (.tuple #[.slice ro ns.length (ns.length + sp), .bool ok]) ∧
  intE.Row (fun b => w.heap.size ≤ b) w' ro ns ∧ (ok = true → signsL (s.length + 1) s = some ns) ∧ (ok = false → signsL (s.length + 1) s = none) ∧ ns.length ≤ s.length ∧ Below w.heap.size w w'
theorem RSP.bad {s : Bs} {w w' : World} (h : signsL (s.length + 1) s = none) (hb : Below w.heap.size w w') : RSP s w (.returned (.tuple #[.slice none 0 0, .bool false])) w' :=
  ⟨[], none, 0, false, rfl, (fun i x h => by cases h), (fun h => by cases h), fun _ => h, by simp, hb⟩

/-- what it knows on its way: a nought ahead of a digit is told from the next place alone -/
def sgJ (s : Bs) (ns : List Int) (r : Bs) : Prop := sgI s ns r ∨ (signsL (s.length + 1) s = none ∧ ∃ c r', r = c :: r' ∧ c ≠ 32)
theorem sgJ.of32 {s r : Bs} {ns : List Int} (h : sgJ s ns (32 :: r)) : sgI s ns (32 :: r) := by
  rcases h with h | ⟨_, c, r', e, hc⟩
  · exact h
  · exact absurd (List.cons.inj e).1.symm hc
theorem sgJ.ofNil {s : Bs} {ns : List Int} (h : sgJ s ns []) : sgI s ns [] := by
  rcases h with h | ⟨_, c, r', e, hc⟩
  · exact h
  · cases e
theorem sgJ.bad {s r : Bs} {ns : List Int} {a : UInt8} (h : sgJ s ns (a :: r)) (ha : a ≠ 32) : signsL (s.length + 1) s = none := by
  rcases h with h | ⟨h, _⟩
  · exact h.noGap ha
  · exact h
theorem sgJ.zero {s r : Bs} {ns : List Int} (h : sgJ s ns (32 :: 48 :: r)) : sgJ s (ns ++ [0]) r := by
  have h1 := h.of32
  by_cases hd : noDig r
  · obtain ⟨h2, h3, h4⟩ := (nought r).1 hd
    have h5 := h1.go h2
    rw [h3, h4] at h5
    exact .inl h5
  · refine .inr ⟨h1.noNum ((nought r).2 hd), ?_⟩
    cases r with
    | nil => exact absurd (fun x hx => by simp at hx) hd
    | cons c r =>
      refine ⟨c, r, rfl, fun e => hd ?_⟩
      subst e
      intro x hx
      simp at hx
      subst hx
      decide
theorem posB_nil : posB [] = false := by decide

set_option maxRecDepth 100000 in
set_option maxHeartbeats 8000000 in
theorem readSigns32 (s : Bs) (w : World) (hs : s.length ≤ 100000) : Calls Tryz.prog 32 #[sV s] w (RSP s w) := by
  obtain ⟨i3, gi, gz0, gz1, gz2⟩ := info_parts info3
  have S1 := (St.start w).add (.owns intE w.heap.size (fun b => w.heap.size ≤ b) (.slice none 0 0) []) (Elt.Own.nil _ _ _ _)
  go_enter Tryz.func32, Tryz.ntmps32
  go_upto_block 0 with fail
  go_cut [0, 4] (fun a o W => ∃ ns : List Int, Hid (sgI s ns []) ∧ ns.length ≤ s.length ∧ St w W [.owns intE w.heap.size (fun b => w.heap.size ≤ b) o ns])
  case first =>
    go_wp2_with fail
    go_loopg [0, 4] (s.length + 1) (fun m a o wr => ∃ (ns : List Int) (r : Bs), m = r.length + 1 ∧ a = sV r ∧ Hid (sgJ s ns r) ∧ ns.length + r.length ≤ s.length ∧ St w wr [.owns intE w.heap.size (fun b => w.heap.size ≤ b) o ns])
    case atStart => exact ⟨[], s, rfl, rfl, Lib.hid (.inl (sgI.start s)), by simp, S1⟩
    case round =>
      clear S1
      obtain ⟨ns, r, hm, rfl, HI, hl, S⟩ := hrel
      cases r with
      | nil =>
        go_wp2_with fail
        go_meet
        case rel => exact ⟨ns, Lib.hid HI.out.ofNil, by simpa using hl, S⟩
      | cons a r =>
      have hl0 : (0 : Int) < (r.length : Int) + 1 := by omega
      by_cases ha : a = 32
      · subst ha
        have ha1 : (((32 : UInt8).toNat : Int) != 32) = false := by decide
        cases r with
        | nil =>
          have HN := Lib.hid (number47 [] (by simp) wr)
          rw [posB_nil] at HN
          have HB := Lib.hid (HI.out.of32.noNum num_nil)
          go_wp2_with fail
          refine (HN.out).mono ?_
          rintro e w2 ⟨x, r1, rfl, hx, hb2⟩
          have HBE := Lib.hid ((S.step hb2).bel)
          clear S HN hb2 hx
          go_wp2_with fail
          refine ret_t (.tuple #[.slice none 0 0, .bool false]) (by simp [results, Tryz.results32, go_sem]) rfl ?_
          exact RSP.bad HB.out HBE.out
        | cons c r2 =>
        have hl1 : (0 : Int) < (r2.length : Int) + 1 := by omega
        by_cases hc : c = 48
        · subst hc
          have hc1 : (((48 : UInt8).toNat : Int) == 48) = true := by decide
          have HI2 := Lib.hid (HI.out.zero)
          have HOW := Lib.hid (fun c (hc : u4.ownBlock = some c) => S.ownlt intE 0 rfl c hc)
          go_wp2_with (at_builtin; refine wpList_app rfl (.tmp 24) (.tmp 25) 22 rfl intE S 0 rfl (x := 0) (q := pF) (p' := fun b => w.heap.size ≤ b) rfl Tryz.underlying22 gi gz0 gz1 gz2 rfl rfl rfl rfl ?c1 ?c2 ?c3 ?c4 ?c5 ?c6 ?c7 ?_)
          case c1 => unfold maxLen; simp only [List.length_cons] at hl; omega
          case c2 => simp only [List.length_cons] at hl; omega
          case c3 => exact S.size
          case c4 => omega
          case c5 => intro bb h1 h2 h3; simp only [offs, offAll]
          case c6 => intro bb h1; exact h1.elim
          case c7 => intro bb h1; rcases h1 with h1 | h1; exact h1; exact h1.elim
          intro gg cap w6 S6 z6 hgl hgg
          go_wp2_with fail
          go_roundg (r2.length + 1)
          case measure => simp only [List.length_cons] at hm; omega
          case rel => exact ⟨ns ++ [0], r2, rfl, rfl, HI2, by rw [List.length_append]; simp only [List.length_cons, List.length_nil] at hl ⊢; omega, S6⟩
        · have hc1 : ((c.toNat : Int) == 48) = false := by rw [beq_eq_false_iff_ne]; exact fun e => hc (u8_eq (by have : (48 : UInt8).toNat = 48 := rfl; omega))
          have HN := Lib.hid (number47 (c :: r2) (by simp only [List.length_cons] at hl ⊢; omega) wr)
          have HNP := Lib.hid (num_pos (s := c :: r2) rfl hc)
          clear hc
          go_wp2_with fail
          refine (HN.out).mono ?_
          rintro e w2 ⟨x, r1, rfl, hx, hb2⟩
          have S2 := S.step hb2
          clear S HN hb2
          cases hp : posB (c :: r2) with
          | false =>
            have HB := Lib.hid (HI.out.of32.noNum (HNP.out.trans hp))
            have HBE := Lib.hid S2.bel
            clear S2 hx
            go_wp2_with fail
            refine ret_t (.tuple #[.slice none 0 0, .bool false]) (by simp [results, Tryz.results32, go_sem]) rfl ?_
            exact RSP.bad HB.out HBE.out
          | true =>
          obtain ⟨rfl, rfl⟩ := hx hp
          have HI2 := Lib.hid (HI.out.of32.go (HNP.out.trans hp))
          have hnl := numR_le (c :: r2)
          obtain ⟨v, hv⟩ : ∃ v : Int, v = valD (digs (c :: r2)) := ⟨_, rfl⟩
          obtain ⟨r3, hr3⟩ : ∃ v, v = numR (c :: r2) := ⟨_, rfl⟩
          rw [← hv, ← hr3] at HI2 ⊢
          rw [← hr3] at hnl
          have S := S2
          clear S2 hx hp hv hr3
          have HOW := Lib.hid (fun c (hc : u4.ownBlock = some c) => S.ownlt intE 0 rfl c hc)
          go_wp2_with (at_builtin; refine wpList_app rfl (.tmp 37) (.tmp 39) 22 rfl intE S 0 rfl (x := v) (q := pF) (p' := fun b => w.heap.size ≤ b) rfl Tryz.underlying22 gi gz0 gz1 gz2 rfl rfl rfl rfl ?c1 ?c2 ?c3 ?c4 ?c5 ?c6 ?c7 ?_)
          case c1 => unfold maxLen; simp only [List.length_cons] at hl; omega
          case c2 => simp only [List.length_cons] at hl; omega
          case c3 => exact S.size
          case c4 => omega
          case c5 => intro bb h1 h2 h3; simp only [offs, offAll]
          case c6 => intro bb h1; exact h1.elim
          case c7 => intro bb h1; rcases h1 with h1 | h1; exact h1; exact h1.elim
          intro gg cap w6 S6 z6 hgl hgg
          go_wp2_with fail
          go_roundg (r3.length + 1)
          case measure => simp only [List.length_cons] at hm hnl; omega
          case rel => exact ⟨ns ++ [v], r3, rfl, rfl, Lib.hid (.inl HI2.out), by rw [List.length_append]; simp only [List.length_cons, List.length_nil] at hl ⊢; simp only [List.length_cons] at hnl; omega, S6⟩
      · have ha1 : ((a.toNat : Int) != 32) = true := by rw [bne_iff_ne]; exact fun e => ha (u8_eq (by have : (32 : UInt8).toNat = 32 := rfl; omega))
        have HB := Lib.hid (HI.out.bad ha)
        have HBE := Lib.hid S.bel
        clear ha S
        go_wp2_with fail
        refine ret_t (.tuple #[.slice none 0 0, .bool false]) (by simp [results, Tryz.results32, go_sem]) rfl ?_
        exact RSP.bad HB.out HBE.out
  case rest =>
    obtain ⟨ns, HI, hl, S⟩ := hcut
    obtain ⟨ro, rsp, rfl, hrow, hml⟩ := (S.owns intE 0).row (fun b h => h)
    have HR := Lib.hid hrow
    have HB := Lib.hid S.bel
    clear S hrow
    go_wp2_with fail
    refine ret_t (.tuple #[.slice ro ns.length (ns.length + rsp), .bool true]) (by simp [results, Tryz.results32, go_sem]) rfl ?_
    exact ⟨ns, ro, rsp, true, rfl, HR.out, fun _ => HI.out.fin, (fun h => by cases h), hl, HB.out⟩
end Go.Proofs.YtidgnbdlfngeaaaGreatDoor
