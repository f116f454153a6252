/-
  Plain: the classes are the least congruence, and what follows.
-/
import Derived.Test.YtcckgfgobakphabCmath
import Derived.Test.YtcckgfgobakphabW7
namespace Go.Proofs.Ytcckgfgobakphab
set_option linter.unusedVariables false

/-- f tells the two terms' kids alike -/
def KidsLike (f : Nat → Int) (s t : Tm) : Prop := s.head = t.head ∧ s.kids.length = t.kids.length ∧ ∀ j, j < s.kids.length → f (gI s.kids j).toNat = f (gI t.kids j).toNat
structure Mod (ts : List Tm) (f : Nat → Int) : Prop where
  cong : ∀ i k, i < ts.length → k < i → KidsLike f (gT ts i) (gT ts k) → f i = f k
def Sat (ps : List (Int × Int)) (f : Nat → Int) : Prop := ∀ j, j < ps.length → f (gP ps j).1.toNat = f (gP ps j).2.toNat
def Resp (f : Nat → Int) (n : Nat) (c : List Nat) : Prop := ∀ j, j < n → f (gN c j) = f j

theorem Resp.merge {f : Nat → Int} {n : Nat} {c : List Nat} (h : Resp f n c) (hl : c.length = n) {a b : Nat} (ha : a < n) (hb : b < n) (e : f a = f b) : Resp f n (merge c a b) := by
  intro j hj
  rw [gN_merge (by omega)]
  unfold mergeW
  have h1 := h a ha; have h2 := h b hb; have h3 := h j hj
  split
  · rename_i hc
    rcases Nat.le_total (gN c a) (gN c b) with hle | hle
    · rw [Nat.min_eq_left hle]; rw [Nat.max_eq_right hle] at hc; rw [← h3, hc, h1, h2, e]
    · rw [Nat.min_eq_right hle]; rw [Nat.max_eq_left hle] at hc; rw [← h3, hc, h1, h2, e]
  · exact h3
theorem alikeN_like {cl : List Nat} {s t : Tm} (h : alikeN cl s t = true) : KidsLike (fun j => (gN cl j : Int)) s t := by
  simp only [alikeN, kidsEq, Bool.and_eq_true, beq_iff_eq] at h
  refine ⟨h.1, h.2.1, fun j hj => ?_⟩
  have := allB_iff.1 h.2.2 j hj
  simp only [kidEq, beq_iff_eq] at this
  simp [this]
theorem like_alikeN {cl : List Nat} {s t : Tm} (h : KidsLike (fun j => (gN cl j : Int)) s t) : alikeN cl s t = true := by
  obtain ⟨h1, h2, h3⟩ := h
  simp only [alikeN, kidsEq, Bool.and_eq_true, beq_iff_eq]
  refine ⟨h1, h2, allB_iff.2 fun j hj => ?_⟩
  have := h3 j hj
  simp only [kidEq, beq_iff_eq]
  exact Int.ofNat.inj this

section
variable {ts : List Tm} {f : Nat → Int}
theorem Resp.stepP (hm : Mod ts f) (hk : kidsIn ts) {st : List Nat × Bool} (h : Resp f ts.length st.1) (hg : Good ts.length st.1) {i k : Nat} (hi : i < ts.length) (hki : k < i) : Resp f ts.length (stepP ts st i k).1 := by
  unfold Ytcckgfgobakphab.stepP; split
  · rename_i hc
    simp only [Bool.and_eq_true] at hc
    obtain ⟨h1, h2, h3⟩ := alikeN_like hc.2
    refine h.merge hg.len hi (by omega) (hm.cong i k hi hki ⟨h1, h2, fun j hj => ?_⟩)
    have e := Int.ofNat.inj (h3 j hj)
    have b1 := (hk i hi).2 j hj
    have b2 := (hk k (by omega)).2 j (by omega)
    have r1 := h (gI (gT ts i).kids j).toNat (by omega)
    have r2 := h (gI (gT ts k).kids j).toNat (by omega)
    rw [← r1, ← r2, e]
  · exact h
theorem Resp.innerTo (hm : Mod ts f) (hkk : kidsIn ts) {st : List Nat × Bool} (h : Resp f ts.length st.1) (hg : Good ts.length st.1) {i : Nat} (hi : i < ts.length) : ∀ {k : Nat}, k ≤ i → Resp f ts.length (innerTo ts i st k).1
  | 0, _ => h
  | k + 1, hk => Resp.stepP hm hkk (Resp.innerTo hm hkk h hg hi (by omega)) (Good.innerTo hg hi (by omega)) hi (by omega)
theorem Resp.outerTo (hm : Mod ts f) (hkk : kidsIn ts) {st : List Nat × Bool} (h : Resp f ts.length st.1) (hg : Good ts.length st.1) : ∀ {i : Nat}, i ≤ ts.length → Resp f ts.length (outerTo ts st i).1
  | 0, _ => h
  | i + 1, hi => Resp.innerTo hm hkk (Resp.outerTo hm hkk h hg (by omega)) (Good.outerTo hg (by omega)) (by omega) (Nat.le_refl _)
theorem Resp.round (hm : Mod ts f) (hkk : kidsIn ts) {c : List Nat} (h : Resp f ts.length c) (hg : Good ts.length c) : Resp f ts.length (roundOf ts c).1 := Resp.outerTo hm hkk (st := (c, false)) h hg (Nat.le_refl _)
theorem Resp.sat (hm : Mod ts f) (hkk : kidsIn ts) {c d : List Nat} (s : SatTo ts c d) : Resp f ts.length c → Good ts.length c → Resp f ts.length d := by
  induction s with
  | done h1 => intro h hg; have := Resp.round hm hkk h hg; rw [h1] at this; exact this
  | more h1 _ ih => intro h hg; have := Resp.round hm hkk h hg; have g := round_good hg; rw [h1] at this g; exact ih this g
theorem Resp.init {ps : List (Int × Int)} (hs : Sat ps f) (hp : pairsIn ts.length ps) : ∀ {k : Nat}, k ≤ ps.length → Resp f ts.length (initTo ts.length ps k)
  | 0, _ => fun j hj => by simp only [initTo]; rw [gN_get (by simpa using hj)]; simp
  | k + 1, hk => by
    have := hp k (by omega)
    exact (Resp.init hs hp (by omega)).merge (Good.initTo hp (by omega)).len (by omega) (by omega) (hs k (by omega))
/-- THE CLASSES ARE BELOW EVERY MODEL -/
theorem classes_resp {ps : List (Int × Int)} (hm : Mod ts f) (hkk : kidsIn ts) (hs : Sat ps f) (hp : pairsIn ts.length ps) : Resp f ts.length (classes ts ps) :=
  Resp.sat hm hkk (satOf_spec (Good.initTo hp (Nat.le_refl _))) (Resp.init hs hp (Nat.le_refl _)) (Good.initTo hp (Nat.le_refl _))
end

/-! what is the same stays the same -/
def Finer (n : Nat) (c d : List Nat) : Prop := ∀ i j, i < n → j < n → gN c i = gN c j → gN d i = gN d j
theorem Finer.refl (n : Nat) (c : List Nat) : Finer n c c := fun _ _ _ _ h => h
theorem Finer.trans {n : Nat} {c d e : List Nat} (h : Finer n c d) (k : Finer n d e) : Finer n c e := fun i j hi hj hh => k i j hi hj (h i j hi hj hh)
theorem Finer.merge {n : Nat} {c : List Nat} (hl : c.length = n) (a b : Nat) : Finer n c (merge c a b) := fun i j hi hj h => by
  rw [gN_merge (by omega), gN_merge (by omega), h]
theorem merge_same {n : Nat} {c : List Nat} (hl : c.length = n) {a b : Nat} (ha : a < n) (hb : b < n) : gN (merge c a b) a = gN (merge c a b) b := by
  rw [gN_merge (by omega), gN_merge (by omega)]; unfold mergeW; split <;> split <;> omega
theorem Finer.stepP {ts : List Tm} {n : Nat} {st : List Nat × Bool} (h : Good n st.1) (i k : Nat) : Finer n st.1 (stepP ts st i k).1 := by
  unfold Ytcckgfgobakphab.stepP; split
  · exact Finer.merge h.len i k
  · exact Finer.refl _ _
theorem Finer.innerTo {ts : List Tm} {n : Nat} {st : List Nat × Bool} (h : Good n st.1) {i : Nat} (hi : i < n) : ∀ {k : Nat}, k ≤ i → Finer n st.1 (innerTo ts i st k).1
  | 0, _ => Finer.refl _ _
  | k + 1, hk => (Finer.innerTo h hi (by omega)).trans (Finer.stepP (Good.innerTo h hi (by omega)) i k)
theorem Finer.outerTo {ts : List Tm} {n : Nat} {st : List Nat × Bool} (h : Good n st.1) : ∀ {i : Nat}, i ≤ n → Finer n st.1 (outerTo ts st i).1
  | 0, _ => Finer.refl _ _
  | i + 1, hi => (Finer.outerTo h (by omega)).trans (Finer.innerTo (Good.outerTo h (by omega)) (by omega) (Nat.le_refl _))
theorem Finer.sat {ts : List Tm} {c d : List Nat} (s : SatTo ts c d) : Good ts.length c → Finer ts.length c d := by
  induction s with
  | done h1 => intro hg; have := Finer.outerTo (ts := ts) (st := (_, false)) hg (Nat.le_refl _); unfold roundOf at h1; rw [h1] at this; exact this
  | more h1 _ ih => intro hg; have := Finer.outerTo (ts := ts) (st := (_, false)) hg (Nat.le_refl _); have g := round_good hg; unfold roundOf at h1 g; rw [h1] at this g; exact this.trans (ih g)
theorem init_pairs {n : Nat} {ps : List (Int × Int)} (hp : pairsIn n ps) : ∀ {k : Nat}, k ≤ ps.length → ∀ j, j < k → gN (initTo n ps k) (gP ps j).1.toNat = gN (initTo n ps k) (gP ps j).2.toNat
  | k + 1, hk, j, hj => by
    have hg := Good.initTo hp (k := k) (by omega)
    have b := hp k (by omega)
    simp only [initTo]
    by_cases e : j = k
    · subst e; exact merge_same hg.len (by omega) (by omega)
    · have b' := hp j (by omega)
      exact Finer.merge hg.len _ _ _ _ (by omega) (by omega) (init_pairs hp (by omega) j (by omega))
theorem stepP_false {ts : List Tm} {st : List Nat × Bool} {i k : Nat} (h : (stepP ts st i k).2 = false) : stepP ts st i k = st ∧ (gN st.1 i = gN st.1 k ∨ alikeN st.1 (gT ts i) (gT ts k) = false) := by
  unfold Ytcckgfgobakphab.stepP at h ⊢
  split
  · rename_i hc; rw [if_pos hc] at h; cases h
  · rename_i hc
    refine ⟨rfl, ?_⟩
    cases ha : alikeN st.1 (gT ts i) (gT ts k) with
    | false => exact .inr rfl
    | true => left; simp [ha] at hc; exact hc
theorem innerTo_false {ts : List Tm} {st : List Nat × Bool} {i : Nat} : ∀ {k : Nat}, (innerTo ts i st k).2 = false → innerTo ts i st k = st ∧ ∀ j, j < k → (gN st.1 i = gN st.1 j ∨ alikeN st.1 (gT ts i) (gT ts j) = false)
  | 0, _ => ⟨rfl, fun j hj => by omega⟩
  | k + 1, h => by
    obtain ⟨e, o⟩ := stepP_false (st := innerTo ts i st k) h
    have h' : (innerTo ts i st k).2 = false := by rw [← e]; exact h
    obtain ⟨e', o'⟩ := innerTo_false h'
    rw [e'] at o
    refine ⟨e.trans e', fun j hj => ?_⟩
    by_cases hjk : j = k
    · subst hjk; exact o
    · exact o' j (by omega)
theorem outerTo_false {ts : List Tm} {st : List Nat × Bool} : ∀ {i : Nat}, (outerTo ts st i).2 = false → outerTo ts st i = st ∧ ∀ m j, m < i → j < m → (gN st.1 m = gN st.1 j ∨ alikeN st.1 (gT ts m) (gT ts j) = false)
  | 0, _ => ⟨rfl, fun m j hm => by omega⟩
  | i + 1, h => by
    obtain ⟨e, o⟩ := innerTo_false (st := outerTo ts st i) (k := i) h
    have e2 : outerTo ts st (i + 1) = outerTo ts st i := e
    have h' : (outerTo ts st i).2 = false := by rw [← e2]; exact h
    obtain ⟨e', o'⟩ := outerTo_false h'
    rw [e'] at o
    refine ⟨e2.trans e', fun m j hm hj => ?_⟩
    by_cases hmi : m = i
    · subst hmi; exact o j hj
    · exact o' m j (by omega) hj
theorem SatTo.end {ts : List Tm} {c d : List Nat} (s : SatTo ts c d) : ∀ m j, m < ts.length → j < m → (gN d m = gN d j ∨ alikeN d (gT ts m) (gT ts j) = false) := by
  induction s with
  | done h1 =>
    rename_i c d
    have hf : (outerTo ts (c, false) ts.length).2 = false := by unfold roundOf at h1; rw [h1]
    obtain ⟨e, o⟩ := outerTo_false hf
    unfold roundOf at h1
    rw [h1] at e
    simp only [Prod.mk.injEq, and_true] at e
    subst e
    exact o
  | more _ _ ih => exact ih
/-- THE CLASSES ARE A MODEL -/
theorem classes_sat {ts : List Tm} {ps : List (Int × Int)} (hp : pairsIn ts.length ps) : Sat ps (fun j => (gN (classes ts ps) j : Int)) := fun j hj => by
  have b := hp j hj
  have hg := Good.initTo hp (Nat.le_refl _)
  have := Finer.sat (satOf_spec hg) hg _ _ (by omega) (by omega) (init_pairs hp (Nat.le_refl _) j hj)
  show (gN (classes ts ps) _ : Int) = (gN (classes ts ps) _ : Int)
  unfold classes
  rw [this]
theorem classes_mod {ts : List Tm} {ps : List (Int × Int)} (hp : pairsIn ts.length ps) : Mod ts (fun j => (gN (classes ts ps) j : Int)) := ⟨fun i k hi hk hl => by
  rcases (satOf_spec (Good.initTo hp (Nat.le_refl _))).end i k hi hk with h | h
  · show (gN (classes ts ps) _ : Int) = (gN (classes ts ps) _ : Int)
    unfold classes; rw [h]
  · have e := like_alikeN hl
    unfold classes at e
    rw [e] at h
    cases h⟩

/-! the least of a class stands for it -/
structure Least (n : Nat) (c : List Nat) : Prop where
  le : ∀ j, j < n → gN c j ≤ j
  idem : ∀ j, j < n → gN c (gN c j) = gN c j
theorem Least.range (n : Nat) : Least n (List.range n) := by
  have h : ∀ j, j < n → gN (List.range n) j = j := fun j hj => by rw [gN_get (by simpa using hj)]; simp
  exact ⟨fun j hj => by rw [h j hj]; exact Nat.le_refl _, fun j hj => by rw [h j hj, h j hj]⟩
theorem Least.merge {n : Nat} {c : List Nat} (h : Least n c) (hg : Good n c) {a b : Nat} (ha : a < n) (hb : b < n) : Least n (merge c a b) := by
  have l1 := hg.lt a ha; have l2 := hg.lt b hb
  have i1 := h.idem a ha; have i2 := h.idem b hb
  have hl := hg.len
  have key : ∀ j, j < n → gN (Ytcckgfgobakphab.merge c a b) j = mergeW (min (gN c a) (gN c b)) (max (gN c a) (gN c b)) (gN c j) := fun j hj => gN_merge (by omega)
  have hX : min (gN c a) (gN c b) = gN c a ∨ min (gN c a) (gN c b) = gN c b := by omega
  have fX : gN c (min (gN c a) (gN c b)) = min (gN c a) (gN c b) := by rcases hX with h | h <;> rw [h] <;> assumption
  refine ⟨fun j hj => ?_, fun j hj => ?_⟩
  · have := h.le j hj
    rw [key j hj]
    have : ∀ x y z : Nat, x ≤ y → mergeW x y z ≤ z := fun x y z h => mergeW_le h z
    have := this (min (gN c a) (gN c b)) (max (gN c a) (gN c b)) (gN c j) (by omega)
    omega
  · have lj := hg.lt j hj; have ij := h.idem j hj
    rw [key j hj]
    unfold mergeW
    split
    · rw [key _ (by omega), fX]; unfold mergeW; split <;> rfl
    · rename_i hc
      rw [key _ lj, ij]; unfold mergeW; rw [if_neg hc]
theorem Least.stepP {ts : List Tm} {n : Nat} {st : List Nat × Bool} (h : Least n st.1) (hg : Good n st.1) {i k : Nat} (hi : i < n) (hk : k < n) : Least n (stepP ts st i k).1 := by
  unfold Ytcckgfgobakphab.stepP; split
  · exact h.merge hg hi hk
  · exact h
theorem Least.innerTo {ts : List Tm} {n : Nat} {st : List Nat × Bool} (h : Least n st.1) (hg : Good n st.1) {i : Nat} (hi : i < n) : ∀ {k : Nat}, k ≤ i → Least n (innerTo ts i st k).1
  | 0, _ => h
  | k + 1, hk => Least.stepP (Least.innerTo h hg hi (by omega)) (Good.innerTo hg hi (by omega)) hi (by omega)
theorem Least.outerTo {ts : List Tm} {n : Nat} {st : List Nat × Bool} (h : Least n st.1) (hg : Good n st.1) : ∀ {i : Nat}, i ≤ n → Least n (outerTo ts st i).1
  | 0, _ => h
  | i + 1, hi => Least.innerTo (Least.outerTo h hg (by omega)) (Good.outerTo hg (by omega)) (by omega) (Nat.le_refl _)
theorem Least.sat {ts : List Tm} {c d : List Nat} (s : SatTo ts c d) : Least ts.length c → Good ts.length c → Least ts.length d := by
  induction s with
  | done h1 => intro h hg; have := Least.outerTo (ts := ts) (st := (_, false)) h hg (Nat.le_refl _); unfold roundOf at h1; rw [h1] at this; exact this
  | more h1 _ ih => intro h hg; have := Least.outerTo (ts := ts) (st := (_, false)) h hg (Nat.le_refl _); have g := round_good hg; unfold roundOf at h1 g; rw [h1] at this g; exact ih this g
theorem Least.initTo {n : Nat} {ps : List (Int × Int)} (hp : pairsIn n ps) : ∀ {k : Nat}, k ≤ ps.length → Least n (initTo n ps k)
  | 0, _ => Least.range n
  | k + 1, hk => by
    have := hp k (by omega)
    exact (Least.initTo hp (by omega)).merge (Good.initTo hp (by omega)) (by omega) (by omega)
theorem classes_least {ts : List Tm} {ps : List (Int × Int)} (hp : pairsIn ts.length ps) : Least ts.length (classes ts ps) :=
  Least.sat (satOf_spec (Good.initTo hp (Nat.le_refl _))) (Least.initTo hp (Nat.le_refl _)) (Good.initTo hp (Nat.le_refl _))

/-! more pairs, other orders -/
theorem classes_more {ts : List Tm} {ps qs : List (Int × Int)} (hk : kidsIn ts) (hq : pairsIn ts.length qs) (hsub : ∀ x ∈ ps, x ∈ qs) (hp : pairsIn ts.length ps) :
    ∀ j, j < ts.length → gN (classes ts qs) (gN (classes ts ps) j) = gN (classes ts qs) j := fun j hj => by
  have hs : Sat ps (fun j => (gN (classes ts qs) j : Int)) := fun i hi => by
    have hm : gP ps i ∈ qs := hsub _ (by simp [gP, hi])
    obtain ⟨m, hm1, hm2⟩ := List.getElem_of_mem hm
    have := classes_sat hq m hm1
    have e : gP qs m = gP ps i := by simp [gP, hm1] at hm2 ⊢; exact hm2
    rw [e] at this; exact this
  exact Int.ofNat.inj (classes_resp (classes_mod hq) hk hs hp j hj)
theorem classes_finer {ts : List Tm} {ps qs : List (Int × Int)} (hk : kidsIn ts) (hq : pairsIn ts.length qs) (hsub : ∀ x ∈ ps, x ∈ qs) (hp : pairsIn ts.length ps) : Finer ts.length (classes ts ps) (classes ts qs) :=
  fun i j hi hj h => by rw [← classes_more hk hq hsub hp i hi, ← classes_more hk hq hsub hp j hj, h]
theorem least_unique {n : Nat} {c d : List Nat} (hc : Least n c) (hd : Least n d) (gc : Good n c) (gd : Good n d) (h1 : Finer n c d) (h2 : Finer n d c) : c = d := by
  have half : ∀ c d : List Nat, Least n c → Least n d → Good n c → Good n d → Finer n c d → ∀ j, j < n → gN d j ≤ gN c j := by
    intro c d hc hd gc gd h j hj
    have e := h (gN c j) j (gc.lt j hj) hj (hc.idem j hj)
    rw [← e]
    exact hd.le _ (gc.lt j hj)
  apply List.ext_getElem (by rw [gc.len, gd.len])
  intro j hj1 hj2
  rw [← gN_get hj1, ← gN_get hj2]
  have hj : j < n := by rw [← gc.len]; exact hj1
  exact Nat.le_antisymm (half d c hd hc gd gc h2 j hj) (half c d hc hd gc gd h1 j hj)
theorem classes_perm {ts : List Tm} {ps qs : List (Int × Int)} (hk : kidsIn ts) (hp : pairsIn ts.length ps) (hq : pairsIn ts.length qs) (h1 : ∀ x ∈ ps, x ∈ qs) (h2 : ∀ x ∈ qs, x ∈ ps) : classes ts ps = classes ts qs :=
  least_unique (classes_least hp) (classes_least hq) (classes_good hp) (classes_good hq) (classes_finer hk hq h1 hp) (classes_finer hk hp h2 hq)

/-! what is told is enough, and none of it may go -/
theorem relD_mono {ts : List Tm} {ps qs : List (Int × Int)} (hk : kidsIn ts) (hp : pairsIn ts.length ps) (hq : pairsIn ts.length qs) (h : ∀ x ∈ ps, x ∈ qs) {a b : Nat} (ha : a < ts.length) (hb : b < ts.length)
    (hr : relD ts ps a b = true) : relD ts qs a b = true := by
  simp only [relD, beq_iff_eq] at hr ⊢
  exact classes_finer hk hq h hp a b ha hb hr
theorem mem_pairsOf {ps : List (Int × Int)} {p : Nat → Bool} {k : Nat} {x : Int × Int} : x ∈ pairsOf ps p k ↔ ∃ j, j < k ∧ p j = true ∧ gP ps j = x := by
  simp only [pairsOf, List.mem_map, List.mem_filter, List.mem_range]
  exact ⟨fun ⟨j, ⟨h1, h2⟩, h3⟩ => ⟨j, h1, h2, h3⟩, fun ⟨j, h1, h2, h3⟩ => ⟨j, ⟨h1, h2⟩, h3⟩⟩
theorem pairsOf_sub {ps : List (Int × Int)} {p q : Nat → Bool} {k : Nat} (h : ∀ j, j < k → p j = true → q j = true) : ∀ x ∈ pairsOf ps p k, x ∈ pairsOf ps q k := fun x hx => by
  obtain ⟨j, h1, h2, h3⟩ := mem_pairsOf.1 hx
  exact mem_pairsOf.2 ⟨j, h1, h j h1 h2, h3⟩

structure Kept (ts : List Tm) (ps : List (Int × Int)) (a b i : Nat) (p q : Nat → Bool) : Prop where
  sub : ∀ j, q j = true → p j = true
  above : ∀ j, i ≤ j → q j = p j
  rel : relD ts (pairsOf ps p ps.length) a b = true → relD ts (pairsOf ps q ps.length) a b = true
  least : ∀ j, j < i → q j = true → relD ts (pairsOf ps (setP q j false) ps.length) a b = false
theorem whyP_kept {ts : List Tm} {ps : List (Int × Int)} (hk : kidsIn ts) (hp : pairsIn ts.length ps) {a b : Nat} (ha : a < ts.length) (hb : b < ts.length) : ∀ (i : Nat) (p : Nat → Bool), (∀ j, j < i → p j = true) → i ≤ ps.length → Kept ts ps a b i p (whyP ts ps a b i p)
  | 0, p, _, _ => ⟨fun _ h => h, fun _ _ => rfl, fun h => h, fun j hj => by omega⟩
  | i + 1, p, ht, hi => by
    simp only [whyP]
    split
    · rename_i hr
      have ih := whyP_kept hk hp ha hb i (setP p i false) (fun j hj => by simp only [setP]; rw [if_neg (by omega)]; exact ht j (by omega)) (by omega)
      refine ⟨fun j hj => ?_, fun j hj => ?_, fun h => ih.rel hr, fun j hj hq => ?_⟩
      · have := ih.sub j hj; simp only [setP] at this; split at this
        · cases this
        · exact this
      · rw [ih.above j (by omega)]; simp only [setP]; rw [if_neg (by omega)]
      · by_cases e : j = i
        · subst e; have := ih.sub j hq; simp [setP] at this
        · exact ih.least j (by omega) hq
    · rename_i hr
      have hr' : relD ts (pairsOf ps (setP p i false) ps.length) a b = false := by simpa using hr
      have e : setP (setP p i false) i true = p := by
        funext j; simp only [setP]; split
        · rename_i hj; rw [hj]; exact (ht i (by omega)).symm
        · rfl
      rw [e]
      have ih := whyP_kept hk hp ha hb i p (fun j hj => ht j (by omega)) (by omega)
      refine ⟨ih.sub, fun j hj => ih.above j (by omega), ih.rel, fun j hj hq => ?_⟩
      by_cases e : j = i
      · subst e
        cases hc : relD ts (pairsOf ps (setP (whyP ts ps a b j p) j false) ps.length) a b with
        | false => rfl
        | true =>
          have hm := relD_mono (ts := ts) (qs := pairsOf ps (setP p j false) ps.length) hk (pairsOf_in hp (Nat.le_refl _)) (pairsOf_in hp (Nat.le_refl _)) (pairsOf_sub fun m hm h => by
            simp only [setP] at h ⊢; split at h
            · cases h
            · rename_i hne; rw [if_neg hne]; exact ih.sub m h) ha hb hc
          rw [hr'] at hm; cases hm
      · exact ih.least j (by omega) hq
theorem pairsOf_all (ps : List (Int × Int)) : pairsOf ps (fun _ => true) ps.length = ps := by
  have e : (List.range ps.length).filter (fun _ => true) = List.range ps.length := List.filter_eq_self.2 (by simp)
  simp only [pairsOf, e]
  apply List.ext_getElem (by simp)
  intro j h1 h2
  simp [gP, h2]

/-- what is told: all of it is needed -/
theorem whyL_spec {ts : List Tm} {ps : List (Int × Int)} (hk : kidsIn ts) (hp : pairsIn ts.length ps) {a b : Nat} (ha : a < ts.length) (hb : b < ts.length) (hr : relD ts ps a b = true) :
    let p := whyP ts ps a b ps.length (fun _ => true)
    relD ts (pairsOf ps p ps.length) a b = true ∧ ∀ j, j < ps.length → p j = true → relD ts (pairsOf ps (setP p j false) ps.length) a b = false := by
  have k := whyP_kept hk hp ha hb ps.length (fun _ => true) (fun _ _ => rfl) (Nat.le_refl _)
  exact ⟨k.rel (by rw [pairsOf_all]; exact hr), k.least⟩
theorem gP_mem {l : List (Int × Int)} {j : Nat} (h : j < l.length) : gP l j ∈ l := by simp [gP, h]
/-- where none may go, all are told -/
theorem whyP_all {ts : List Tm} {qs : List (Int × Int)} {a b : Nat} (h : ∀ i, i < qs.length → relD ts (pairsOf qs (setP (fun _ => true) i false) qs.length) a b = false) : ∀ i, i ≤ qs.length → whyP ts qs a b i (fun _ => true) = fun _ => true
  | 0, _ => rfl
  | i + 1, hi => by
    simp only [whyP]
    rw [h i (by omega)]
    simp only [Bool.false_eq_true, if_false]
    have e : setP (setP (fun _ => true) i false) i true = fun _ => true := by funext j; simp only [setP]; split <;> rfl
    rw [e]
    exact whyP_all h i (by omega)
theorem whyL_all {ts : List Tm} {qs : List (Int × Int)} {a b : Nat} (h : ∀ i, i < qs.length → relD ts (pairsOf qs (setP (fun _ => true) i false) qs.length) a b = false) : (whyL ts qs a b).length = qs.length := by
  simp only [whyL, whyP_all h _ (Nat.le_refl _)]
  rw [List.filter_eq_self.2 (by simp)]; simp
end Go.Proofs.Ytcckgfgobakphab
