/-
  Walks: the reader of a line: number, positive.
-/
import Derived.Test.YtidgnbdlfngeaaaGreatDoorRd2
namespace Go.Proofs.YtidgnbdlfngeaaaGreatDoor
open Go.RowKit Go.Shelf
set_option linter.unusedVariables false
set_option maxHeartbeats 400000
attribute [local go_sem 2000] index_sV sliceL_sV sliceR_sV

theorem digs_take (s : Bs) : s.take (digs s).length = digs s := by
  have := digs_rest s
  unfold numR at this
  obtain ⟨d, hd⟩ : ∃ d, d = digs s := ⟨_, rfl⟩
  rw [← hd] at this ⊢
  conv => lhs; rw [← this]
  simp
theorem digs_le (s : Bs) : (digs s).length ≤ s.length := by
  have := congrArg List.length (digs_rest s)
  rw [List.length_append] at this; omega
theorem digs_in {s : Bs} {k : Nat} (h : k < (digs s).length) : isDig (s.getD k 0) = true := by
  have h1 := digs_rest s
  have h2 : s.getD k 0 = (digs s)[k] := by
    conv => lhs; rw [← h1]
    simp [List.getD, List.getElem?_append_left h, h]
  rw [h2]; exact digs_all s _ (List.getElem_mem h)
theorem digs_out {s : Bs} {k : Nat} (h : k = (digs s).length) (hk : k < s.length) : isDig (s.getD k 0) = false := by
  subst h
  unfold digs at hk ⊢
  induction s with
  | nil => simp at hk
  | cons a s ih =>
    rw [List.takeWhile_cons] at hk ⊢
    split
    · rename_i ha
      rw [if_pos ha] at hk
      simp only [List.length_cons, Nat.add_lt_add_iff_right] at hk
      simpa [List.getD] using ih hk
    · rename_i ha
      simpa [List.getD] using ha

set_option maxRecDepth 100000 in
set_option maxHeartbeats 8000000 in
theorem number38 (s : Bs) (ok : Bool) (bR : Nat) (w0 w : World) (l : List Fct) (S : St w0 w (rdr bR s ok :: l)) (h0 : w0.heap.size ≤ bR) (hoff : offAll bR l) (hg : GV w0) (hs : s.length ≤ 100000) :
    Calls Tryz.prog 45 #[.pointer (some ⟨bR, 0, none⟩)] w fun e w' => ∃ x, e = .returned (.int .i64 x) ∧ (numOk s = true → x = valD (digs s)) ∧ w.heap.size ≤ w'.heap.size ∧ St w0 w' (rdr bR (numR s) (ok && numOk s) :: l) := by
  obtain ⟨⟨y0, y1⟩, y2, y3⟩ := S.two 0
  have HS := Lib.hid S
  have HO := Lib.hid hoff
  have HG := Lib.hid hg
  clear hoff S hg
  have hz : (⟨s.toArray⟩ : ByteArray).size = s.length := by simp [ByteArray.size]
  obtain ⟨n, hn⟩ : ∃ n, n = (digs s).length := ⟨_, rfl⟩
  have hns : n ≤ s.length := by rw [hn]; exact digs_le s
  have HN := Lib.hid hn
  clear hn
  have hs' : s.length ≤ 9223372036854775807 := by omega
  go_enter Tryz.func45, Tryz.ntmps45
  go_upto_block 0 with fail
  go_cut [3] (fun i W => i = .int .i64 n ∧ W = w)
  case first =>
    go_wp2_with fail
    go_loopw [3] (fun i wr => ∃ k : Nat, k ≤ n ∧ i = .int .i64 k ∧ wr = w) (fun i _ => n - (intOf i).toNat)
    case atStart => exact ⟨0, Nat.zero_le _, rfl, rfl⟩
    case round =>
      obtain ⟨k, hk, rfl, rfl⟩ := hrel
      by_cases hlt : k < n
      · have hks : k < s.length := by omega
        have hd := digs_in (s := s) (k := k) (by have := HN.out; omega)
        rw [show s.getD k 0 = s[k] by simp [List.getD, hks]] at hd
        unfold isDig at hd
        simp only [Bool.and_eq_true, decide_eq_true_eq] at hd
        have hd1 : (48 : Int) ≤ (s[k].toNat : Int) := by omega
        have hd2 : ((s[k].toNat : Nat) : Int) ≤ 57 := by omega
        clear hd
        go_wp2_with fail
        go_roundw
        case rel => exact ⟨k + 1, by omega, by simp, trivial⟩
        all_goals (simp [intOf]; omega)
      · obtain rfl : k = n := by omega
        by_cases hks : k < s.length
        · have hd := digs_out (s := s) HN.out hks
          rw [show s.getD k 0 = s[k] by simp [List.getD, hks]] at hd
          unfold isDig at hd
          simp only [Bool.and_eq_false_iff, decide_eq_false_iff_not] at hd
          by_cases hd1 : (48 : Int) ≤ (s[k].toNat : Int)
          · have hd2 : ¬ ((s[k].toNat : Nat) : Int) ≤ 57 := by omega
            clear hd
            go_wp2_with fail
            go_meet
            case rel => exact ⟨rfl, rfl⟩
          · clear hd
            go_wp2_with fail
            go_meet
            case rel => exact ⟨rfl, rfl⟩
        · go_wp2_with fail
          go_meet
          case rel => exact ⟨rfl, rfl⟩
  case rest =>
    obtain ⟨rfl, rfl⟩ := hcut
    have S1 : St w0 (wc.setCell ⟨bR, 0, none⟩ (sV (s.drop n))) (rdr bR (s.drop n) ok :: l) := HS.out.set20 0 rfl _ h0 HO.out
    have HS1 := Lib.hid S1
    have hzz : (wc.setCell ⟨bR, 0, none⟩ (sV (s.drop n))).heap.size = wc.heap.size := by simp
    have HZ := Lib.hid hzz
    clear S1 hzz
    have hls : (s.take n).length ≤ 100000 := by rw [List.length_take]; omega
    go_wp2_with fail
    refine (atoi51 (s.take n) hls _ (HG.out.kept HS1.out.bel)).mono ?_
    rintro e w2 ⟨x, ev, rfl, hev, hx, hb⟩
    have S2 := HS1.out.step hb
    have hsz := hb.size
    rw [HZ.out] at hsz
    obtain ⟨⟨z0, z1⟩, z2, z3⟩ := S2.two 0
    have HX := Lib.hid (show numOk s = true → x = valD (digs s) by
      intro h
      unfold numOk at h
      simp only [Bool.and_eq_true, decide_eq_true_eq, ← HN.out] at h
      refine hx _ ?_
      rw [show s.take n = digs s by rw [HN.out]; exact digs_take s]
      exact atoi_val (digs_all s) (by rw [← HN.out]; exact h.1.1) (by rw [← HN.out]; exact h.1.2))
    have FIN := Lib.hid (show ∀ b : Bool, b = (ok && numOk s) → St w0 (w2.setCell ⟨bR, 1, none⟩ (.bool b)) (rdr bR (numR s) (ok && numOk s) :: l) by
      intro b hb
      rw [← hb, show numR s = s.drop n by unfold numR; rw [HN.out]]
      exact S2.set21 0 rfl (.bool b) h0 HO.out)
    have HSZ := Lib.hid hsz
    clear S2 HS1 HS HZ hx hb hsz y0 y1 y2 y3 HG
    cases ok with
    | false =>
      go_wp2_with fail
      go_ret
      exact ⟨x, rfl, HX.out, by simp; exact HSZ.out, FIN.out _ rfl⟩
    | true =>
      by_cases h1 : 1 ≤ n
      · by_cases h3 : n ≤ 3
        · have hl0 : 0 < s.length := by omega
          by_cases he : n = 1
          · have HB := Lib.hid (show numOk s = true by
              unfold numOk; rw [← HN.out, he]; simp)
            go_wp2_with fail
            go_ret
            exact ⟨x, rfl, HX.out, by simp; exact HSZ.out, FIN.out _ (by rw [HB.out]; rfl)⟩
          · have hne : ((n : Int) = 1) = False := eq_false (by omega)
            by_cases h8 : (s[0].toNat : Int) = 48
            · have HB := Lib.hid (show numOk s = false by
                have hh : s.head? = some 48 := by
                  rw [List.head?_eq_getElem?, List.getElem?_eq_getElem hl0]
                  exact congrArg some (u8_eq (by have : (48 : UInt8).toNat = 48 := rfl; omega))
                unfold numOk; rw [← HN.out, hh]; simp [he])
              go_wp2_with fail
              go_ret
              exact ⟨x, rfl, HX.out, by simp; exact HSZ.out, FIN.out _ (by rw [HB.out]; simp [ByteArray.getElem_eq_getElem_data]; omega)⟩
            · have HB := Lib.hid (show numOk s = true by
                have hh : s.head? ≠ some 48 := by
                  rw [List.head?_eq_getElem?, List.getElem?_eq_getElem hl0]
                  intro e
                  have := congrArg UInt8.toNat (Option.some.inj e)
                  have h48 : (48 : UInt8).toNat = 48 := rfl
                  omega
                unfold numOk; rw [← HN.out]; simp [hh, h1, h3])
              go_wp2_with fail
              go_ret
              exact ⟨x, rfl, HX.out, by simp; exact HSZ.out, FIN.out _ (by rw [HB.out]; simp [ByteArray.getElem_eq_getElem_data]; omega)⟩
        · have HB := Lib.hid (show numOk s = false by
            unfold numOk; rw [← HN.out]; simp [h3])
          have h3' : ¬ ((n : Int) ≤ 3) := by omega
          go_wp2_with fail
          go_ret
          exact ⟨x, rfl, HX.out, by simp; exact HSZ.out, FIN.out _ (by rw [HB.out]; rfl)⟩
      · have HB := Lib.hid (show numOk s = false by
          unfold numOk; rw [← HN.out]; simp [h1])
        have h1' : ¬ ((1 : Int) ≤ n) := by omega
        go_wp2_with fail
        go_ret
        exact ⟨x, rfl, HX.out, by simp; exact HSZ.out, FIN.out _ (by rw [HB.out]; rfl)⟩
end Go.Proofs.YtidgnbdlfngeaaaGreatDoor
