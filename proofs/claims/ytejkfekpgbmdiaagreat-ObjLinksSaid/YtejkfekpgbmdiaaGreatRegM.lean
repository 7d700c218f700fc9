/- The closed facts of a drawn region by bit masks: one table a region, one quick check. -/
import Derived.Test.YtejkfekpgbmdiaaGreatReg
namespace Go.Proofs.YtejkfekpgbmdiaaGreat
open Go.RowKit
set_option linter.unusedVariables false

def maskL : List Nat → Nat
  | [] => 0
  | b :: l => Nat.lor (2 ^ b) (maskL l)
theorem maskL_test (l : List Nat) (j : Nat) : (maskL l).testBit j = l.contains j := by
  induction l with
  | nil => simp [maskL]
  | cons b l ih =>
    show ((2 ^ b) ||| maskL l).testBit j = _
    rw [Nat.testBit_or, ih, Nat.testBit_two_pow, List.contains_cons]
    congr 1
    by_cases h : b = j
    · subst h; simp
    · have h' : ¬ j = b := fun e => h e.symm
      simp [h, h']
/-- is a bit set? -/
def hasBit (m i : Nat) : Bool := Nat.beq (Nat.land (Nat.shiftRight m i) 1) 1
theorem hasBit_test (m i : Nat) : hasBit m i = m.testBit i := by
  have e : Nat.land (Nat.shiftRight m i) 1 = (m >>> i) &&& 1 := rfl
  unfold hasBit
  rw [e, Nat.and_one_is_mod, Nat.testBit, Nat.and_comm, Nat.and_one_is_mod, Bool.eq_iff_iff, Nat.beq_eq]
  have := Nat.mod_two_eq_zero_or_one (m >>> i)
  rcases this with h | h <;> simp [h]
/-- are all bits of e in m? -/
def subB (e m : Nat) : Bool := Nat.beq (Nat.land e m) e
theorem subB_test {e m : Nat} : subB e m = true ↔ ∀ j, e.testBit j = true → m.testBit j = true := by
  have e' : Nat.land e m = e &&& m := rfl
  unfold subB
  rw [Nat.beq_eq, e']
  constructor
  · intro h j hj
    rw [← h, Nat.testBit_and, Bool.and_eq_true] at hj
    exact hj.2
  · intro h
    apply Nat.eq_of_testBit_eq
    intro j
    rw [Nat.testBit_and]
    cases hj : e.testBit j with
    | false => rfl
    | true => rw [h j hj]; rfl
theorem land_zero {a b : Nat} (h : Nat.land a b = 0) (j : Nat) : ¬ (a.testBit j = true ∧ b.testBit j = true) := by
  have e : a &&& b = 0 := h
  intro hj
  have := congrArg (fun x => Nat.testBit x j) e
  simp [Nat.testBit_and, hj.1, hj.2] at this
theorem lor_zero {a b : Nat} (h : Nat.lor a b = 0) : a = 0 ∧ b = 0 := by
  have e : a ||| b = 0 := h
  exact Nat.or_eq_zero_iff.1 e

/-- what is written, looked at, waited for -/
structure Rw where
  d : Nat
  l : Nat
  e : Nat
def rowOf (md : Region.Mode) (ops : Array Oper) (o : Oper) : Rw := ⟨maskL o.dst.toList, maskL (o.looksAt ops), maskL ((o.after.toList.filter fun e => Region.binds md e).map (·.on))⟩
def tabOf (md : Region.Mode) (ops : Array Oper) : List Rw := ops.toList.map (rowOf md ops)
def pairM (i : Nat) (a : Rw) (j : Nat) (b : Rw) : Bool := hasBit b.e i || hasBit a.e j || Nat.beq (Nat.lor (Nat.land a.d (Nat.lor b.l b.d)) (Nat.land b.d a.l)) 0
def pairsM (i : Nat) (a : Rw) : Nat → List Rw → Bool
  | _, [] => true
  | j, b :: t => (Nat.beq i j || pairM i a j b) && pairsM i a (j + 1) t
def apartM (n : Nat) (T : List Rw) : Nat → List Rw → Bool
  | _, [] => true
  | i, a :: t => (Nat.ble n i || pairsM i a 0 T) && apartM n T (i + 1) t
def readyM (m i : Nat) (a : Rw) : Bool := !hasBit m i && subB a.e m
/-- i alone is ready -/
def aloneM (m i : Nat) : Nat → List Rw → Bool
  | _, [] => true
  | j, b :: t => (readyM m j b == Nat.beq i j) && aloneM m i (j + 1) t
def noneM (m : Nat) : Nat → List Rw → Bool
  | _, [] => true
  | j, b :: t => !readyM m j b && noneM m (j + 1) t
def seqM (T : List Rw) : Nat → Nat → Nat → Bool
  | 0, _, m => noneM m 0 T
  | g + 1, k, m => Nat.ble (k + 1) T.length && aloneM m k 0 T && seqM T g (k + 1) (Nat.lor m (2 ^ k))
def schedM (n : Nat) (T : List Rw) : List (Bool × Nat) → Nat → Bool
  | [], m => seqM T (T.length - n) n m
  | (true, i) :: s, m => Nat.ble (i + 1) n && (match T[i]? with | some a => readyM m i a | none => false) && schedM n T s (Nat.lor m (2 ^ i))
  | (false, i) :: s, m => Nat.ble (i + 1) n && Nat.ble (i + 1) T.length && aloneM m i 0 T && schedM n T s (Nat.lor m (2 ^ i))
def orE : List Rw → Nat
  | [] => 0
  | a :: t => Nat.lor a.e (orE t)
/-- edges lead back -/
def backM : Nat → List Rw → Bool
  | _, [] => true
  | j, b :: t => Nat.ble (b.e + 1) (2 ^ j) && backM (j + 1) t
def chainM (n : Nat) : Nat → List Rw → Bool
  | _, [] => true
  | t, b :: r => (Nat.ble t n || hasBit b.e (t - 1)) && chainM n (t + 1) r
def regM (n : Nat) (T : List Rw) (s : List (Bool × Nat)) : Bool :=
  Nat.ble (n + 1) T.length && backM 0 T && subB (2 ^ n - 1) (orE (T.take (n + 1))) && chainM n 0 T && apartM n T 0 T && schedM n T s 0

section
variable {md : Region.Mode} {ops : Array Oper}
/-- the mask m says what is listed -/
structure InvM (k m : Nat) (listed : Array Bool) : Prop where
  size : listed.size = k
  bit : ∀ j, j < k → listed.getD j true = m.testBit j
  out : ∀ j, k ≤ j → m.testBit j = false
theorem InvM.bit' {k m : Nat} {listed : Array Bool} (h : InvM k m listed) (j : Nat) : listed.getD j false = m.testBit j := by
  rcases Nat.lt_or_ge j k with hj | hj
  · rw [← h.bit j hj]
    have : j < listed.size := by rw [h.size]; exact hj
    simp [this]
  · rw [h.out j hj]
    have : listed.size ≤ j := by rw [h.size]; exact hj
    simp [Array.getElem?_eq_none this]
theorem InvM.start (k : Nat) : InvM k 0 (Array.replicate k false) := ⟨by simp, fun j hj => by simp [hj], fun j _ => by simp⟩
theorem InvM.set {k m : Nat} {listed : Array Bool} (h : InvM k m listed) {i : Nat} (hi : i < k) : InvM k (Nat.lor m (2 ^ i)) (listed.setIfInBounds i true) := by
  have e : ∀ j, (Nat.lor m (2 ^ i)).testBit j = (m.testBit j || decide (i = j)) := fun j => by
    show (m ||| 2 ^ i).testBit j = _
    rw [Nat.testBit_or, Nat.testBit_two_pow]
  refine ⟨by simp [h.size], fun j hj => ?_, fun j hj => ?_⟩
  · rw [e]
    by_cases hij : i = j
    · subst hij
      have : i < listed.size := by rw [h.size]; exact hi
      simp [this]
    · have := h.bit j hj
      simp only [hij, decide_false, Bool.or_false]
      rw [← this]
      simp [Array.getElem?_setIfInBounds_ne hij]
  · rw [e, h.out j hj]
    have : ¬ i = j := by omega
    simp [this]
theorem tab_len : (tabOf md ops).length = ops.size := by simp [tabOf]
theorem tab_get (j : Nat) : (tabOf md ops)[j]? = (ops[j]?).map (rowOf md ops) := by simp [tabOf]
theorem row_e (o : Oper) (i : Nat) : (rowOf md ops o).e.testBit i = true ↔ ∃ e ∈ o.after, Region.binds md e = true ∧ e.on = i := by
  simp only [rowOf, maskL_test, List.contains_iff_mem, List.mem_map, List.mem_filter, Array.mem_toList_iff, and_assoc]
theorem row_d (o : Oper) (t : Nat) : (rowOf md ops o).d.testBit t = true ↔ o.dst = some t := by
  simp only [rowOf, maskL_test, List.contains_iff_mem]
  cases o.dst <;> simp [eq_comm]
theorem row_l (o : Oper) (t : Nat) : (rowOf md ops o).l.testBit t = true ↔ t ∈ o.looksAt ops := by
  simp only [rowOf, maskL_test, List.contains_iff_mem]
theorem readyM_iff {m : Nat} {listed : Array Bool} (h : InvM ops.size m listed) {j : Nat} {a : Rw} (ha : (tabOf md ops)[j]? = some a) : readyM m j a = true ↔ j ∈ Region.ready md ops listed := by
  rw [tab_get] at ha
  cases ho : ops[j]? with
  | none => rw [ho] at ha; cases ha
  | some oj =>
    rw [ho] at ha
    simp only [Option.map_some, Option.some.injEq] at ha
    subst ha
    have hj : j < ops.size := (Array.getElem?_eq_some_iff.1 ho).1
    rw [mem_ready]
    unfold readyM
    rw [Bool.and_eq_true, Bool.not_eq_true', hasBit_test, ← h.bit j hj, subB_test]
    refine and_congr_right (fun _ => ?_)
    constructor
    · intro hs
      exact ⟨oj, ho, fun e he hb => by rw [h.bit']; exact hs _ ((row_e oj e.on).2 ⟨e, he, hb, rfl⟩)⟩
    · rintro ⟨o', ho', hall⟩ i hi
      rw [ho] at ho'
      injection ho' with ho'
      subst ho'
      obtain ⟨e, he, hb, rfl⟩ := (row_e oj i).1 hi
      rw [← h.bit']; exact hall e he hb
theorem aloneM_get {m i : Nat} : ∀ (T : List Rw) (j : Nat), aloneM m i j T = true → ∀ (q : Nat) (a : Rw), T[q]? = some a → readyM m (j + q) a = Nat.beq i (j + q)
  | [], _, _, q, a, ha => by simp at ha
  | b :: T, j, h, q, a, ha => by
    simp only [aloneM, Bool.and_eq_true, beq_iff_eq] at h
    cases q with
    | zero => simp at ha; subst ha; exact h.1
    | succ q =>
      have := aloneM_get T (j + 1) h.2 q a (by simpa using ha)
      rw [show j + (q + 1) = j + 1 + q by omega]; exact this
theorem noneM_get {m : Nat} : ∀ (T : List Rw) (j : Nat), noneM m j T = true → ∀ (q : Nat) (a : Rw), T[q]? = some a → readyM m (j + q) a = false
  | [], _, _, q, a, ha => by simp at ha
  | b :: T, j, h, q, a, ha => by
    simp only [noneM, Bool.and_eq_true, Bool.not_eq_true'] at h
    cases q with
    | zero => simp at ha; subst ha; exact h.1
    | succ q =>
      have := noneM_get T (j + 1) h.2 q a (by simpa using ha)
      rw [show j + (q + 1) = j + 1 + q by omega]; exact this
theorem filter_one (p : Nat → Bool) (i : Nat) : ∀ k, (∀ j, j < k → p j = decide (j = i)) → (List.range k).filter p = if i < k then [i] else []
  | 0, _ => by simp
  | k + 1, h => by
    rw [List.range_succ, List.filter_append, filter_one p i k (fun j hj => h j (by omega))]
    have hk := h k (by omega)
    by_cases e : k = i
    · subst e
      simp [hk]
    · have : (i < k + 1) ↔ i < k := by omega
      simp [hk, e, this]
theorem alone_ready {m i : Nat} {listed : Array Bool} (h : InvM ops.size m listed) (hi : i < ops.size) (ha : aloneM m i 0 (tabOf md ops) = true) : Region.ready md ops listed = [i] := by
  unfold Region.ready
  rw [filter_one _ i ops.size ?_, if_pos hi]
  intro j hj
  obtain ⟨a, hT⟩ : ∃ a, (tabOf md ops)[j]? = some a := ⟨_, List.getElem?_eq_getElem (by rw [tab_len]; exact hj)⟩
  have h1 := aloneM_get _ 0 ha j a hT
  rw [Nat.zero_add] at h1
  have h2 := readyM_iff h hT
  have h3 : j ∈ Region.ready md ops listed ↔ j = i := by
    rw [← h2, h1, Nat.beq_eq]
    exact eq_comm
  unfold Region.ready at h3
  rw [List.mem_filter] at h3
  rw [Bool.eq_iff_iff, decide_eq_true_eq, ← h3]
  simp [hj]
theorem none_ready {m : Nat} {listed : Array Bool} (h : InvM ops.size m listed) (ha : noneM m 0 (tabOf md ops) = true) : Region.ready md ops listed = [] := by
  rw [List.eq_nil_iff_forall_not_mem]
  intro j hj
  obtain ⟨_, oj, hoj, _⟩ := mem_ready.1 hj
  have hjl : j < ops.size := (Array.getElem?_eq_some_iff.1 hoj).1
  obtain ⟨a, hT⟩ : ∃ a, (tabOf md ops)[j]? = some a := ⟨_, List.getElem?_eq_getElem (by rw [tab_len]; exact hjl)⟩
  have h1 := noneM_get _ 0 ha j a hT
  rw [Nat.zero_add] at h1
  have := (readyM_iff h hT).2 hj
  rw [h1] at this; cases this
theorem seqM_sound : ∀ (g k m : Nat) (listed : Array Bool), InvM ops.size m listed → seqM (tabOf md ops) g k m = true → Region.seqB md ops g k listed = true
  | 0, k, m, listed, h, hs => by
    simp only [seqM] at hs
    simp only [Region.seqB, none_ready h hs]; rfl
  | g + 1, k, m, listed, h, hs => by
    simp only [seqM, Bool.and_eq_true, Nat.ble_eq] at hs
    have hk : k < ops.size := by rw [← tab_len (md := md)]; omega
    simp only [Region.seqB, alone_ready h hk hs.1.2, decide_true, Bool.true_and]
    exact seqM_sound g (k + 1) _ _ (h.set hk) hs.2
theorem pairsM_get {i : Nat} {a : Rw} : ∀ (T : List Rw) (j : Nat), pairsM i a j T = true → ∀ (q : Nat) (b : Rw), T[q]? = some b → i ≠ j + q → pairM i a (j + q) b = true
  | [], _, _, q, b, hb, _ => by simp at hb
  | c :: T, j, h, q, b, hb, hne => by
    simp only [pairsM, Bool.and_eq_true, Bool.or_eq_true, Nat.beq_eq] at h
    cases q with
    | zero =>
      simp at hb; subst hb
      exact h.1.resolve_left hne
    | succ q =>
      have := pairsM_get T (j + 1) h.2 q b (by simpa using hb) (by omega)
      rw [show j + (q + 1) = j + 1 + q by omega]; exact this
theorem apartM_get {n : Nat} {U : List Rw} : ∀ (T : List Rw) (i : Nat), apartM n U i T = true → ∀ (q : Nat) (a : Rw), T[q]? = some a → i + q < n → pairsM (i + q) a 0 U = true
  | [], _, _, q, a, ha, _ => by simp at ha
  | c :: T, i, h, q, a, ha, hl => by
    simp only [apartM, Bool.and_eq_true, Bool.or_eq_true, Nat.ble_eq] at h
    cases q with
    | zero =>
      simp at ha; subst ha
      exact h.1.resolve_left (by omega)
    | succ q =>
      have := apartM_get T (i + 1) h.2 q a (by simpa using ha) (by omega)
      rw [show i + (q + 1) = i + 1 + q by omega]; exact this
theorem free_of {n m i : Nat} {listed : Array Bool} (h : InvM ops.size m listed) (hn : i < n) (ha : apartM n (tabOf md ops) 0 (tabOf md ops) = true) (hr : i ∈ Region.ready md ops listed) : Region.free md ops listed i = true := by
  obtain ⟨_, oi, hoi, hall⟩ := mem_ready.1 hr
  unfold Region.free
  simp only [hoi, List.all_eq_true, List.mem_range, Bool.or_eq_true, beq_iff_eq]
  intro j hj
  by_cases hji : j = i
  · exact .inl (.inl hji)
  · by_cases hun : listed.getD j true = true
    · exact .inl (.inr hun)
    · right
      obtain ⟨oj, hoj⟩ : ∃ oj, ops[j]? = some oj := ⟨_, Array.getElem?_eq_getElem hj⟩
      rw [hoj]
      simp only [Bool.or_eq_true]
      have hTi : (tabOf md ops)[i]? = some (rowOf md ops oi) := by rw [tab_get, hoi]; rfl
      have hTj : (tabOf md ops)[j]? = some (rowOf md ops oj) := by rw [tab_get, hoj]; rfl
      have h1 := apartM_get _ 0 ha i _ hTi (by omega)
      rw [Nat.zero_add] at h1
      have h2 := pairsM_get _ 0 h1 j _ hTj (by omega)
      rw [Nat.zero_add] at h2
      simp only [pairM, Bool.or_eq_true, hasBit_test, Nat.beq_eq] at h2
      rcases h2 with (h2 | h2) | h2
      · left
        obtain ⟨e, he, hb, hon⟩ := (row_e oj i).1 h2
        rw [Array.any_eq_true']
        exact ⟨e, he, by simp [hb, hon]⟩
      · exfalso
        obtain ⟨e, he, hb, hon⟩ := (row_e oi j).1 h2
        have := hall e he hb
        rw [hon, h.bit', ← h.bit j hj] at this
        exact hun this
      · right
        obtain ⟨h3, h4⟩ := lor_zero h2
        have e3 : ∀ d, oi.dst = some d → d ∉ oj.looksAt ops ∧ oj.dst ≠ some d := by
          intro d hd
          have hd' := (row_d (md := md) (ops := ops) oi d).2 hd
          have := land_zero h3 d
          have e : (Nat.lor (rowOf md ops oj).l (rowOf md ops oj).d).testBit d = ((rowOf md ops oj).l.testBit d || (rowOf md ops oj).d.testBit d) := Nat.testBit_or _ _ _
          rw [e] at this
          refine ⟨fun hl => this ⟨hd', by rw [(row_l oj d).2 hl]; rfl⟩, fun hd2 => this ⟨hd', by rw [(row_d oj d).2 hd2, Bool.or_true]⟩⟩
        have e4 : ∀ d, oj.dst = some d → d ∉ oi.looksAt ops := by
          intro d hd hl
          exact land_zero h4 d ⟨(row_d oj d).2 hd, (row_l oi d).2 hl⟩
        unfold Oper.apart
        rw [Bool.and_eq_true]
        constructor
        · cases hd : oi.dst with
          | none => rfl
          | some d =>
            have := e3 d hd
            simp only [Bool.and_eq_true, Bool.not_eq_true', bne_iff_ne, ne_eq]
            exact ⟨by simpa using this.1, this.2⟩
        · cases hd : oj.dst with
          | none => rfl
          | some d =>
            have := e4 d hd
            simpa using this
theorem schedM_sound {n : Nat} (ha : apartM n (tabOf md ops) 0 (tabOf md ops) = true) (hn : n < ops.size) : ∀ (s : List (Bool × Nat)) (m : Nat) (listed : Array Bool), InvM ops.size m listed → schedM n (tabOf md ops) s m = true → schedB md ops n s listed = true
  | [], m, listed, h, hs => by
    simp only [schedM] at hs
    rw [tab_len] at hs
    exact seqM_sound _ _ _ _ h hs
  | (true, i) :: s, m, listed, h, hs => by
    simp only [schedM, Bool.and_eq_true, Nat.ble_eq] at hs
    have hin : i < n := by omega
    obtain ⟨a, hT⟩ : ∃ a, (tabOf md ops)[i]? = some a := ⟨_, List.getElem?_eq_getElem (by rw [tab_len]; omega)⟩
    rw [hT] at hs
    have hr := (readyM_iff h hT).1 hs.1.2
    simp only [schedB, Bool.and_eq_true, decide_eq_true_eq]
    exact ⟨⟨⟨hin, free_of h hin ha hr⟩, by simpa using hr⟩, schedM_sound ha hn s _ _ (h.set (by omega)) hs.2⟩
  | (false, i) :: s, m, listed, h, hs => by
    simp only [schedM, Bool.and_eq_true, Nat.ble_eq] at hs
    have hin : i < n := by omega
    simp only [schedB, Bool.and_eq_true, decide_eq_true_eq]
    exact ⟨⟨hin, alone_ready h (by omega) hs.1.2⟩, schedM_sound ha hn s _ _ (h.set (by omega)) hs.2⟩
theorem backM_get : ∀ (T : List Rw) (j : Nat), backM j T = true → ∀ (q : Nat) (b : Rw), T[q]? = some b → b.e < 2 ^ (j + q)
  | [], _, _, q, b, hb => by simp at hb
  | c :: T, j, h, q, b, hb => by
    simp only [backM, Bool.and_eq_true, Nat.ble_eq] at h
    cases q with
    | zero => simp at hb; subst hb; exact h.1
    | succ q =>
      have := backM_get T (j + 1) h.2 q b (by simpa using hb)
      rw [show j + (q + 1) = j + 1 + q by omega]; exact this
theorem orE_get {i : Nat} : ∀ (T : List Rw), (orE T).testBit i = true → ∃ (q : Nat) (b : Rw), T[q]? = some b ∧ b.e.testBit i = true
  | [], h => by simp [orE] at h
  | c :: T, h => by
    have e : (Nat.lor c.e (orE T)).testBit i = (c.e.testBit i || (orE T).testBit i) := Nat.testBit_or _ _ _
    rw [orE, e, Bool.or_eq_true] at h
    rcases h with h | h
    · exact ⟨0, c, rfl, h⟩
    · obtain ⟨q, b, h1, h2⟩ := orE_get T h
      exact ⟨q + 1, b, by simpa using h1, h2⟩
theorem chainM_get {n : Nat} : ∀ (T : List Rw) (t : Nat), chainM n t T = true → ∀ (q : Nat) (b : Rw), T[q]? = some b → ¬ t + q ≤ n → b.e.testBit (t + q - 1) = true
  | [], _, _, q, b, hb, _ => by simp at hb
  | c :: T, t, h, q, b, hb, hl => by
    simp only [chainM, Bool.and_eq_true, Bool.or_eq_true, Nat.ble_eq, hasBit_test] at h
    cases q with
    | zero => simp at hb; subst hb; exact h.1.resolve_left (by omega)
    | succ q =>
      have := chainM_get T (t + 1) h.2 q b (by simpa using hb) (by omega)
      rw [show t + (q + 1) = t + 1 + q by omega]; exact this
theorem waits_of {j i : Nat} {oj : Oper} (hj : ops[j]? = some oj) (h : (rowOf md ops oj).e.testBit i = true) : Region.waitsFor md ops j i = true := by
  obtain ⟨e, he, hb, hon⟩ := (row_e oj i).1 h
  unfold Region.waitsFor
  rw [hj]
  simp only
  rw [Array.any_eq_true']
  exact ⟨e, he, by simp [hb, hon]⟩
theorem regM_sound {n : Nat} {T : List Rw} {s : List (Bool × Nat)} (hT : tabOf md ops = T) (hn : Region.noSelect ops = true) (h : regM n T s = true) : regB md ops n = true ∧ schedB md ops n s (Array.replicate ops.size false) = true := by
  subst hT
  simp only [regM, Bool.and_eq_true, Nat.ble_eq] at h
  obtain ⟨⟨⟨⟨⟨h1, h2⟩, h3⟩, h4⟩, h5⟩, h6⟩ := h
  rw [tab_len] at h1
  have hns : n < ops.size := by omega
  have get : ∀ (q : Nat) (b : Rw), (tabOf md ops)[q]? = some b → ∃ o : Oper, ops[q]? = some o ∧ b = rowOf md ops o := by
    intro q b hb
    rw [tab_get] at hb
    cases ho : ops[q]? with
    | none => rw [ho] at hb; cases hb
    | some o => rw [ho] at hb; simp at hb; exact ⟨o, rfl, hb.symm⟩
  refine ⟨?_, schedM_sound h5 hns s 0 _ (InvM.start _) h6⟩
  simp only [regB, Bool.and_eq_true, decide_eq_true_eq]
  refine ⟨⟨⟨hn, hns⟩, ?_⟩, ?_⟩
  · unfold Region.sinkB
    rw [List.all_eq_true]
    intro i hi
    rw [List.mem_range] at hi
    have hb : (2 ^ n - 1).testBit i = true := by rw [Nat.testBit_two_pow_sub_one]; simpa using hi
    obtain ⟨q, b, hq, he⟩ := orE_get _ (subB_test.1 h3 i hb)
    rw [List.getElem?_take] at hq
    split at hq
    · rename_i hqn
      obtain ⟨o, ho, rfl⟩ := get q b hq
      have hlt := backM_get _ 0 h2 q _ hq
      rw [Nat.zero_add] at hlt
      have hiq : i < q := by
        rcases Nat.lt_or_ge i q with h | h
        · exact h
        · have := Nat.testBit_lt_two_pow (Nat.lt_of_lt_of_le hlt (Nat.pow_le_pow_right (by decide) h))
          rw [this] at he; cases he
      rw [List.any_eq_true]
      exact ⟨q, List.mem_range.2 hqn, by simp [hiq, waits_of ho he]⟩
    · cases hq
  · unfold Region.chainB
    rw [List.all_eq_true]
    intro t ht
    rw [List.mem_range] at ht
    rw [Bool.or_eq_true, decide_eq_true_eq]
    by_cases htn : t ≤ n
    · exact .inl htn
    · right
      obtain ⟨b, hb⟩ : ∃ b, (tabOf md ops)[t]? = some b := ⟨_, List.getElem?_eq_getElem (by rw [tab_len]; exact ht)⟩
      obtain ⟨o, ho, rfl⟩ := get t b hb
      have := chainM_get _ 0 h4 t _ hb (by omega)
      rw [Nat.zero_add] at this
      exact waits_of ho this
end
/-- a drawn region with its table T and its schedule s -/
theorem wp_region_M {P : Program} {Q : Exit → Act → World → Prop} {id : Nat} {a : Act} {w : World} {l : List Oper} (n k : Nat) (T : List Rw) (s : List (Bool × Nat)) (F : World → Prop) (hm : P.follows .mixedOrders = true) (hk : l.length = k)
    (hT : tabOf .any l.toArray = T) (hn : Region.noSelect l.toArray = true) (hB : regM n T s = true) (hF : F w.drew)
    (h : RegS .any l.toArray n (Array.replicate k false) s → F w.drew → wpAnyN P .any l.toArray Q F n k (Array.replicate k false) a w.drew) : (Code.region id l.toArray true).wp P Q a w := by
  obtain ⟨h1, h2⟩ := regM_sound hT hn hB
  refine wp_region_S n k s F hm hk ?_ hF h
  rw [h1]
  subst hk
  simpa using h2
end Go.Proofs.YtejkfekpgbmdiaaGreat
