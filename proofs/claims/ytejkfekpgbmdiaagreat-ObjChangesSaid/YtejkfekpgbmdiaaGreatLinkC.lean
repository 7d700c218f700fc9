/- Drawn regions with a schedule that parts where two operations may come up: one check by bit masks. Plain: what an object names; obj.Links' contract, its end as said of the sort. Contract: obj.Links of a tag, and of what names nothing. Contract: obj.Links of a directory. Contract: obj.Links of a commit; obj.Links. -/
import Derived.Test.YtejkfekpgbmdiaaGreatRegM
import Derived.Test.YtejkfekpgbmdiaaGreatCpt
import Derived.Test.YtejkfekpgbmdiaaGreatPutD
namespace Go.Proofs.YtejkfekpgbmdiaaGreat
open Go.RowKit
set_option linter.unusedVariables false

inductive Sch where
  | done : Sch
  | take : Nat → Sch → Sch
  | one : Nat → Sch → Sch
  | two : Nat → Nat → Sch → Sch → Sch
def twoM (m i j : Nat) : Nat → List Rw → Bool
  | _, [] => true
  | q, b :: t => (readyM m q b == (Nat.beq i q || Nat.beq j q)) && twoM m i j (q + 1) t
def schT (n : Nat) (T : List Rw) : Sch → Nat → Bool
  | .done, m => seqM T (T.length - n) n m
  | .take i s, m => Nat.ble (i + 1) n && (match T[i]? with | some a => readyM m i a | none => false) && schT n T s (Nat.lor m (2 ^ i))
  | .one i s, m => Nat.ble (i + 1) n && Nat.ble (i + 1) T.length && aloneM m i 0 T && schT n T s (Nat.lor m (2 ^ i))
  | .two i j s t, m => Nat.ble (i + 1) j && Nat.ble (j + 1) n && Nat.ble (j + 1) T.length && twoM m i j 0 T && schT n T s (Nat.lor m (2 ^ i)) && schT n T t (Nat.lor m (2 ^ j))
def regT (n : Nat) (T : List Rw) (s : Sch) : Bool :=
  Nat.ble (n + 1) T.length && backM 0 T && subB (2 ^ n - 1) (orE (T.take (n + 1))) && chainM n 0 T && apartM n T 0 T && schT n T s 0
def schTB (md : Region.Mode) (ops : Array Oper) (n : Nat) : Sch → Array Bool → Bool
  | .done, listed => Region.seqB md ops (ops.size - n) n listed
  | .take i s, listed => decide (i < n) && Region.free md ops listed i && (Region.ready md ops listed).contains i && schTB md ops n s (listed.setIfInBounds i true)
  | .one i s, listed => decide (i < n) && decide (Region.ready md ops listed = [i]) && schTB md ops n s (listed.setIfInBounds i true)
  | .two i j s t, listed => decide (i < n) && decide (j < n) && decide (Region.ready md ops listed = [i, j]) && schTB md ops n s (listed.setIfInBounds i true) && schTB md ops n t (listed.setIfInBounds j true)
section
variable {md : Region.Mode} {ops : Array Oper}
theorem twoM_get {m i j : Nat} : ∀ (T : List Rw) (q0 : Nat), twoM m i j q0 T = true → ∀ (q : Nat) (a : Rw), T[q]? = some a → readyM m (q0 + q) a = (Nat.beq i (q0 + q) || Nat.beq j (q0 + q))
  | [], _, _, q, a, ha => by simp at ha
  | b :: T, q0, h, q, a, ha => by
    simp only [twoM, Bool.and_eq_true, beq_iff_eq] at h
    cases q with
    | zero => simp at ha; subst ha; exact h.1
    | succ q =>
      have := twoM_get T (q0 + 1) h.2 q a (by simpa using ha)
      rw [show q0 + (q + 1) = q0 + 1 + q by omega]; exact this
theorem filter_two (p : Nat → Bool) (i j : Nat) (hij : i < j) : ∀ k, (∀ q, q < k → p q = decide (q = i ∨ q = j)) → (List.range k).filter p = (if i < k then [i] else []) ++ (if j < k then [j] else [])
  | 0, _ => by simp
  | k + 1, h => by
    rw [List.range_succ, List.filter_append, filter_two p i j hij k (fun q hq => h q (by omega))]
    have hk := h k (by omega)
    by_cases e : k = i
    · subst e
      have h1 : ¬ j < k + 1 := by omega
      have h2 : ¬ j < k := by omega
      simp [hk, h1, h2]
    · by_cases e2 : k = j
      · subst e2
        have h1 : i < k + 1 := by omega
        simp [hk, h1, hij]
      · have h1 : (i < k + 1) ↔ i < k := by omega
        have h2 : (j < k + 1) ↔ j < k := by omega
        simp [hk, e, e2, h1, h2]
theorem two_ready {m i j : Nat} {listed : Array Bool} (h : InvM ops.size m listed) (hij : i < j) (hj : j < ops.size) (ha : twoM m i j 0 (tabOf md ops) = true) : Region.ready md ops listed = [i, j] := by
  unfold Region.ready
  rw [filter_two _ i j hij ops.size ?_, if_pos (by omega), if_pos hj]; rfl
  intro q hq
  obtain ⟨a, hT⟩ : ∃ a, (tabOf md ops)[q]? = some a := ⟨_, List.getElem?_eq_getElem (by rw [tab_len]; exact hq)⟩
  have h1 := twoM_get _ 0 ha q a hT
  rw [Nat.zero_add] at h1
  have h2 := readyM_iff h hT
  have h3 : q ∈ Region.ready md ops listed ↔ (q = i ∨ q = j) := by
    rw [← h2, h1, Bool.or_eq_true, Nat.beq_eq, Nat.beq_eq]
    exact or_congr eq_comm eq_comm
  unfold Region.ready at h3
  rw [List.mem_filter] at h3
  rw [Bool.eq_iff_iff, decide_eq_true_eq, ← h3]
  simp [hq]
theorem schT_sound {n : Nat} (ha : apartM n (tabOf md ops) 0 (tabOf md ops) = true) (hn : n < ops.size) : ∀ (s : Sch) (m : Nat) (listed : Array Bool), InvM ops.size m listed → schT n (tabOf md ops) s m = true → schTB md ops n s listed = true
  | .done, m, listed, h, hs => by
    simp only [schT] at hs
    rw [tab_len] at hs
    exact seqM_sound _ _ _ _ h hs
  | .take i s, m, listed, h, hs => by
    simp only [schT, Bool.and_eq_true, Nat.ble_eq] at hs
    have hin : i < n := by omega
    obtain ⟨a, hT⟩ : ∃ a, (tabOf md ops)[i]? = some a := ⟨_, List.getElem?_eq_getElem (by rw [tab_len]; omega)⟩
    rw [hT] at hs
    have hr := (readyM_iff h hT).1 hs.1.2
    simp only [schTB, Bool.and_eq_true, decide_eq_true_eq]
    exact ⟨⟨⟨hin, free_of h hin ha hr⟩, by simpa using hr⟩, schT_sound ha hn s _ _ (h.set (by omega)) hs.2⟩
  | .one i s, m, listed, h, hs => by
    simp only [schT, Bool.and_eq_true, Nat.ble_eq] at hs
    have hin : i < n := by omega
    simp only [schTB, Bool.and_eq_true, decide_eq_true_eq]
    exact ⟨⟨hin, alone_ready h (by omega) hs.1.2⟩, schT_sound ha hn s _ _ (h.set (by omega)) hs.2⟩
  | .two i j s t, m, listed, h, hs => by
    simp only [schT, Bool.and_eq_true, Nat.ble_eq] at hs
    obtain ⟨⟨⟨⟨⟨h1, h2⟩, h3⟩, h4⟩, h5⟩, h6⟩ := hs
    simp only [schTB, Bool.and_eq_true, decide_eq_true_eq]
    exact ⟨⟨⟨⟨by omega, by omega⟩, two_ready h (by omega) (by omega) h4⟩, schT_sound ha hn s _ _ (h.set (by omega)) h5⟩, schT_sound ha hn t _ _ (h.set (by omega)) h6⟩
theorem regT_sound {n : Nat} {T : List Rw} {s : Sch} (hT : tabOf md ops = T) (hn : Region.noSelect ops = true) (h : regT n T s = true) : regB md ops n = true ∧ schTB md ops n s (Array.replicate ops.size false) = true := by
  subst hT
  simp only [regT, Bool.and_eq_true, Nat.ble_eq] at h
  obtain ⟨⟨⟨⟨⟨h1, h2⟩, h3⟩, h4⟩, h5⟩, h6⟩ := h
  rw [tab_len] at h1
  have hns : n < ops.size := by omega
  have get : ∀ (q : Nat) (b : Rw), (tabOf md ops)[q]? = some b → ∃ o : Oper, ops[q]? = some o ∧ b = rowOf md ops o := by
    intro q b hb
    rw [tab_get] at hb
    cases ho : ops[q]? with
    | none => rw [ho] at hb; cases hb
    | some o => rw [ho] at hb; simp at hb; exact ⟨o, rfl, hb.symm⟩
  refine ⟨?_, schT_sound h5 hns s 0 _ (InvM.start _) h6⟩
  simp only [regB, Bool.and_eq_true, decide_eq_true_eq]
  refine ⟨⟨⟨hn, hns⟩, ?_⟩, ?_⟩
  · unfold Region.sinkB
    rw [List.all_eq_true]
    intro i hi
    rw [List.mem_range] at hi
    have hb : (2 ^ n - 1).testBit i = true := by rw [Nat.testBit_two_pow_sub_one]; simpa using hi
    obtain ⟨q, b, hq, he⟩ := orE_get _ (subB_test.1 h3 i hb)
    rw [List.getElem?_take] at hq
    split at hq
    · rename_i hqn
      obtain ⟨o, ho, rfl⟩ := get q b hq
      have hlt := backM_get _ 0 h2 q _ hq
      rw [Nat.zero_add] at hlt
      have hiq : i < q := by
        rcases Nat.lt_or_ge i q with h | h
        · exact h
        · have := Nat.testBit_lt_two_pow (Nat.lt_of_lt_of_le hlt (Nat.pow_le_pow_right (by decide) h))
          rw [this] at he; cases he
      rw [List.any_eq_true]
      exact ⟨q, List.mem_range.2 hqn, by simp [hiq, waits_of ho he]⟩
    · cases hq
  · unfold Region.chainB
    rw [List.all_eq_true]
    intro t ht
    rw [List.mem_range] at ht
    rw [Bool.or_eq_true, decide_eq_true_eq]
    by_cases htn : t ≤ n
    · exact .inl htn
    · right
      obtain ⟨b, hb⟩ : ∃ b, (tabOf md ops)[t]? = some b := ⟨_, List.getElem?_eq_getElem (by rw [tab_len]; exact ht)⟩
      obtain ⟨o, ho, rfl⟩ := get t b hb
      have := chainM_get _ 0 h4 t _ hb (by omega)
      rw [Nat.zero_add] at this
      exact waits_of ho this
end
section
variable {P : Program} {Q : Exit → Act → World → Prop} {F : World → Prop} {md : Region.Mode} {ops : Array Oper} {n : Nat}
structure RegT (md : Region.Mode) (ops : Array Oper) (n : Nat) (listed : Array Bool) (s : Sch) : Prop where
  at_ : RegAt md ops n listed
  b : schTB md ops n s listed = true
theorem wp_region_T {id : Nat} {a : Act} {w : World} {l : List Oper} (n k : Nat) (T : List Rw) (s : Sch) (F : World → Prop) (hm : P.follows .mixedOrders = true) (hk : l.length = k)
    (hT : tabOf .any l.toArray = T) (hn : Region.noSelect l.toArray = true) (hB : regT n T s = true) (hF : F w.drew)
    (h : RegT .any l.toArray n (Array.replicate k false) s → F w.drew → wpAnyN P .any l.toArray Q F n k (Array.replicate k false) a w.drew) : (Code.region id l.toArray true).wp P Q a w := by
  obtain ⟨h1, h2⟩ := regT_sound hT hn hB
  subst hk
  exact wp_region_any hm (wpAny_of_N _ _ _ _ (h ⟨RegAt.start h1, by simpa using h2⟩ hF))
theorem wpAnyT_take {i : Nat} {oi : Oper} {v : Value} {fuel : Nat} {listed : Array Bool} {s : Sch} {a : Act} {w : World} (hA : RegT md ops n listed (.take i s)) (hi : ops[i]? = some oi)
    (hQ : ∀ c a w, Q (.panic c) (a.put oi.dst v) w → Q (.panic c) a w) (hy : YieldsIf P ops F oi v a) (hS : F w)
    (h : RegT md ops n (listed.setIfInBounds i true) s → wpAnyN P md ops Q F n fuel (listed.setIfInBounds i true) (a.put oi.dst v) w) : wpAnyN P md ops Q F n (fuel + 1) listed a w := by
  have hb := hA.b
  simp only [schTB, Bool.and_eq_true, decide_eq_true_eq] at hb
  exact wpAnyN_take hA.at_ hi hb.1.1.1 hb.1.1.2 hb.1.2 hQ hy hS (fun hA' => h ⟨hA', hb.2⟩)
theorem wpAnyT_one {i : Nat} {o : Oper} {fuel : Nat} {listed : Array Bool} {s : Sch} {a : Act} {w : World} (hA : RegT md ops n listed (.one i s)) (hi : ops[i]? = some o)
    (h : ∀ K : Act → World → Prop, Hid (∀ a' w', F w' → (RegT md ops n (listed.setIfInBounds i true) s → wpAnyN P md ops Q F n fuel (listed.setIfInBounds i true) a' w') → K a' w') →
      if Region.wanted o (yielded ops a.tmps) = true then Oper.wp P o a w K Q else K (a.put o.dst undef) w) : wpAnyN P md ops Q F n (fuel + 1) listed a w := by
  have hb := hA.b
  simp only [schTB, Bool.and_eq_true, decide_eq_true_eq] at hb
  refine wpAnyN_one hA.at_ hb.1.2 hb.1.1 hi (fun K hK => h K ?_)
  exact Lib.hid (fun a' w' hF hW => hK.out a' w' hF (fun hA' => hW ⟨hA', hb.2⟩))
theorem wpAnyT_two {i j : Nat} {o p : Oper} {fuel : Nat} {listed : Array Bool} {s t : Sch} {a : Act} {w : World} (hA : RegT md ops n listed (.two i j s t)) (hi : ops[i]? = some o) (hj : ops[j]? = some p)
    (h : ∀ K : Act → World → Prop, Hid (∀ a' w', F w' → (RegT md ops n (listed.setIfInBounds i true) s → wpAnyN P md ops Q F n fuel (listed.setIfInBounds i true) a' w') → K a' w') →
      if Region.wanted o (yielded ops a.tmps) = true then Oper.wp P o a w K Q else K (a.put o.dst undef) w)
    (h' : ∀ K : Act → World → Prop, Hid (∀ a' w', F w' → (RegT md ops n (listed.setIfInBounds j true) t → wpAnyN P md ops Q F n fuel (listed.setIfInBounds j true) a' w') → K a' w') →
      if Region.wanted p (yielded ops a.tmps) = true then Oper.wp P p a w K Q else K (a.put p.dst undef) w) : wpAnyN P md ops Q F n (fuel + 1) listed a w := by
  have hb := hA.b
  simp only [schTB, Bool.and_eq_true, decide_eq_true_eq] at hb
  obtain ⟨⟨⟨⟨b1, b2⟩, b3⟩, b4⟩, b5⟩ := hb
  refine ⟨fun h0 => (by rw [b3] at h0; cases h0), fun q hq => ?_⟩
  have hq' : q = i ∨ q = j := by rw [b3] at hq; simpa using hq
  rcases hq' with rfl | rfl
  · have hA' : RegAt md ops n (listed.setIfInBounds q true) := ⟨hA.at_.inv.set hq b1, hA.at_.b⟩
    have := h (fun a' w' => (q < n → F w') ∧ wpAnyN P md ops Q F n fuel (listed.setIfInBounds q true) a' w') (Lib.hid (fun a' w' hF hW => ⟨fun _ => hF, hW ⟨hA', b4⟩⟩))
    unfold wpOp
    simp only [hi]
    split
    · rename_i hw; rw [if_pos hw] at this; exact .inl this
    · rename_i hw; rw [if_neg hw] at this; exact this
  · have hA' : RegAt md ops n (listed.setIfInBounds q true) := ⟨hA.at_.inv.set hq b2, hA.at_.b⟩
    have := h' (fun a' w' => (q < n → F w') ∧ wpAnyN P md ops Q F n fuel (listed.setIfInBounds q true) a' w') (Lib.hid (fun a' w' hF hW => ⟨fun _ => hF, hW ⟨hA', b5⟩⟩))
    unfold wpOp
    simp only [hj]
    split
    · rename_i hw; rw [if_pos hw] at this; exact .inl this
    · rename_i hw; rw [if_neg hw] at this; exact this
theorem wpAnyT_end {l : List Oper} {g : Nat} {listed : Array Bool} {a : Act} {w : World} (hA : RegT md l.toArray n listed .done) (hg : (l.drop n).length = g)
    (h : wpList P l.toArray Q (l.drop n) a w) : wpAnyN P md l.toArray Q F n g listed a w := by
  have hb := hA.b
  simp only [schTB] at hb
  refine wpAnyN_end hg ?_ h
  rw [← hg, List.length_drop]
  simpa using hb
end
end Go.Proofs.YtejkfekpgbmdiaaGreat
namespace Go.Proofs.YtejkfekpgbmdiaaGreat
open Go.RowKit
set_option linter.unusedVariables false
set_option linter.unusedSimpArgs false

def sortI (l : List ID) : List ID := l.mergeSort fun x y => !decide (cmpI y x < 0)
theorem sortI_len (l : List ID) : (sortI l).length = l.length := List.length_mergeSort l
/-- all that stands in an object, as it stands -/
def linkL (b : List UInt8) : List ID := match rdDr b with
  | some xs => xs.flatMap fun x => x.Sub :: x.Heads.map (·.Data)
  | none => match rdCh b with
    | some c => c.Parents ++ [c.Tree] ++ c.Ops.map (·.Data)
    | none => match rdLb b with
      | some x => [x.Target]
      | none => []
/-- but for the zero ID, which stands first -/
def dropZ (l : List ID) : List ID := if l.head? = some zID then l.tail else l
def linksO (b : List UInt8) : List ID := dropZ (cpt (sortI (linkL b)))
/-- slices.SortFunc on a row of IDs -/
def SortOK : Prop := ∀ (w0 w : World) (A : Option Addr) (c n : Nat) (l : List ID), l.length = n → OwnD w0 w A c l → l.length ≤ 1000000000000 →
  Calls Tryz.prog 54 #[.slice A n c, .func (.func 55) #[] #[]] w fun e w' => e = .returned (.tuple #[]) ∧ OwnD w0 w' A c (sortI l) ∧ Fr (fun b => A.map (·.block) = some b) w w'
def LkTo (w : World) (b : List UInt8) (e : Ending) (w' : World) : Prop :=
  ∃ A c, e = .returned (.slice A (linksO b).length c) ∧ Sl w' A (idc (linksO b)) ∧ Fr noB w w' ∧ (linksO b).length ≤ c
theorem dr_none {l : List UInt8} {k : UInt8} {t : List UInt8} (h : l = k :: t) (hk : k ≠ 2) : rdDr l = none := by
  cases hx : rdDr l with
  | none => rfl
  | some x => rw [rdDr_eq] at hx; obtain ⟨t', ht⟩ := whole_head Ext.dr hx; rw [h] at ht; injection ht with h1; exact absurd h1 hk
theorem ch_none {l : List UInt8} {k : UInt8} {t : List UInt8} (h : l = k :: t) (hk : k ≠ 3) : rdCh l = none := by
  cases hx : rdCh l with
  | none => rfl
  | some x => rw [rdCh_eq] at hx; obtain ⟨t', ht⟩ := whole_head Ext.ch hx; rw [h] at ht; injection ht with h1; exact absurd h1 hk
theorem lb_none {l : List UInt8} {k : UInt8} {t : List UInt8} (h : l = k :: t) (hk : k ≠ 4) : rdLb l = none := by
  cases hx : rdLb l with
  | none => rfl
  | some x => rw [rdLb_eq] at hx; obtain ⟨t', ht⟩ := whole_head Ext.lb hx; rw [h] at ht; injection ht with h1; exact absurd h1 hk
theorem kind_dr {l : List UInt8} {x : List It} (h : rdDr l = some x) : kindO l = 2 ∧ linkL l = x.flatMap fun x => x.Sub :: x.Heads.map (·.Data) := by
  have h0 := h
  rw [rdDr_eq] at h0
  obtain ⟨t, ht⟩ := whole_head Ext.dr h0
  refine ⟨?_, by unfold linkL; rw [h]⟩
  rw [ht] at h ⊢
  rw [kindO_eq, h]; simp
theorem kind_ch {l : List UInt8} {x : Chg} (h : rdCh l = some x) : kindO l = 3 ∧ linkL l = x.Parents ++ [x.Tree] ++ x.Ops.map (·.Data) := by
  have h0 := h
  rw [rdCh_eq] at h0
  obtain ⟨t, ht⟩ := whole_head Ext.ch h0
  refine ⟨?_, by unfold linkL; rw [dr_none ht (by decide), h]⟩
  rw [ht] at h ⊢
  rw [kindO_eq, h]; simp
theorem kind_lb {l : List UInt8} {x : Lbl} (h : rdLb l = some x) : kindO l = 4 ∧ linkL l = [x.Target] := by
  have h0 := h
  rw [rdLb_eq] at h0
  obtain ⟨t, ht⟩ := whole_head Ext.lb h0
  refine ⟨?_, by unfold linkL; rw [dr_none ht (by decide), ch_none ht (by decide), h]⟩
  rw [ht] at h ⊢
  rw [kindO_eq, h]; simp
theorem kind_no {l : List UInt8} (h2 : rdDr l = none) (h3 : rdCh l = none) (h4 : rdLb l = none) : kindO l ≤ 1 ∧ linkL l = [] := by
  refine ⟨?_, by unfold linkL; rw [h2, h3, h4]⟩
  unfold kindO
  rw [h2, h3, h4]
  split <;> simp
theorem kind_z (w : World) (A : Option Addr) (c n : Nat) (l : List UInt8) (hn : l.length = n) (hs : Sl w A (bv l)) (hcap : l.length ≤ c) (hb : l.length ≤ 140737488355328) (k : Nat) (z : Int) (hk : kindO l = k) (hz : (k : Int) = z) : Calls Tryz.prog 14 #[.slice A n c] w (Gives w (.int .i64 z)) := by
  subst hz; subst hk; exact kind_any w A c n l hn hs hcap hb
theorem dropZ_nil : dropZ [] = [] := rfl
theorem dropZ_cons (x : ID) (l : List ID) : dropZ (x :: l) = if x = zID then l else x :: l := by
  unfold dropZ
  by_cases h : x = zID
  · rw [if_pos h]; simp [h]
  · rw [if_neg h]; simp [h]
end Go.Proofs.YtejkfekpgbmdiaaGreat
namespace Go.Proofs.YtejkfekpgbmdiaaGreat
open Go.RowKit
set_option linter.unusedVariables false
set_option linter.unusedSimpArgs false

set_option maxRecDepth 100000 in
set_option maxHeartbeats 2000000 in
theorem links_lb (hsort : SortOK) (w : World) (A : Option Addr) (c n : Nat) (l : List UInt8) (hn : l.length = n) (hs : Sl w A (bv l)) (hcap : l.length ≤ c) (hb : l.length ≤ 140737488355328) (x : Lbl) (h : rdLb l = some x) :
    Calls Tryz.prog 21 #[.slice A n c] w (LkTo w l) := by
  obtain ⟨hk, hl⟩ := kind_lb h
  have HK := Lib.hid hk
  have HL := Lib.hid hl
  have H := Lib.hid h
  clear hk hl h
  go_enter Tryz.func21, Tryz.ntmps21
  go_upto_region 24 with (go_at_call 14; refine (kind_z _ A c n l hn hs hcap hb 4 4 HK.out rfl).mono ?_; rintro e w1 ⟨rfl, f1⟩)
  go_upto_region 25 with (go_at_call 30; refine (label_any _ A c n l hn (hs.fr0 f1) hcap hb).mono ?_; rintro e w2 ⟨rfl, f2⟩; rw [H.out])
  have f12 := f1.step0 f2
  have fn : Fr noB w2 (w2.alloc (codL.o x)) := (Fr.refl noB w2).alloc _
  have k1 := (lbAt (Cod.rd_new' (C := codL) w2 x)).target
  have f3 := f12.step0 fn
  clear fn f12 f2
  generalize w2.alloc (codL.o x) = W at k1 f3 ⊢
  generalize w2.heap.size = N at k1 ⊢
  have fr : Fr noB W (W.alloc (rowo [x.Target])) := (Fr.refl noB W).alloc _
  have sl : Sl (W.alloc (rowo [x.Target])) (some ⟨W.heap.size, 0, none⟩) (codI.row [x.Target]) := sl_new W [x.Target]
  have hbs : w.heap.size ≤ (W.alloc (rowo [x.Target])).heap.size := (f3.step0 fr).size
  have ho0 : OwnC codI w (W.alloc (rowo [x.Target])) none 0 [] := World.ownsRow_nil _ _ _ _
  go_upto_region 26 with (at_builtin; refine wpList_appC' etI w _ rfl _ _ rfl none 0 0 [] rfl rfl ho0 (some ⟨W.heap.size, 0, none⟩) 1 1 [x.Target] rfl sl rfl (by simp) hbs ?_; intro A5 c5 w5 hc5 hm5 ho5 hg5 hA5; obtain ⟨raw, hraw⟩ : ∃ r : List ID, r = [] ++ [x.Target] := ⟨_, rfl⟩; rw [← hraw] at ho5 ⊢; have HRW := Lib.hid hraw; clear hraw)
  have HRAW := Lib.hid (show linkL l = raw by rw [HL.out, HRW.out]; rfl)
  have hrb : raw.length ≤ 100000000 := by rw [HRW.out]; simp
  have g5 : Fr noB w w5 := (f3.step0 fr).step (Fr.ofGrown (M := fun b => (none : Option Addr).map (·.block) = some b) hg5 (fun g hg => hg)) (fun b hb => by cases hb)
  clear HRW hg5 hA5 fr f3 sl hbs ho0 k1
  have G5 := Lib.hid g5
  go_upto_region 27 with (go_at_call 54; refine (hsort w _ A5 c5 _ raw rfl ho5 (by omega)).mono ?_; rintro e w6 ⟨rfl, ho6, f6⟩)
  have g6 : Fr noB w w6 := G5.out.step f6 (fun b hb => .inl (own_lt ho5 b hb).1)
  have hlen := sortI_len raw
  have hcap6 : (sortI raw).length ≤ c5 := own_cap ho6
  have hR6 : sortI raw = [] ∨ ∃ g, A5 = some ⟨g, 0, none⟩ ∧ RwI w6 g (sortI raw) := by
    by_cases h0 : sortI raw = []
    · exact .inl h0
    · exact .inr (RwI.own ho6 h0)
  have hlt6 : ∀ b, A5.map (·.block) = some b → w.heap.size ≤ b := fun b hb => (own_lt ho6 b hb).1
  have HCM2 : Hid (Calls Tryz.prog 56 #[.slice A5 raw.length c5] w6 fun e w' => e = .returned (.slice A5 (cpt (sortI raw)).length c5) ∧ Sl w' A5 (idc (cpt (sortI raw))) ∧ Fr (fun b => A5.map (·.block) = some b) w6 w') :=
    Lib.hid ((compact_any w6 A5 c5 raw.length (sortI raw) hlen hR6 hcap6 (by rw [hlen]; omega)).mono fun e w' h => h)
  have HLK := Lib.hid (show linksO l = dropZ (cpt (sortI raw)) by unfold linksO; rw [HRAW.out])
  have hcl : (cpt (sortI raw)).length ≤ c5 := Nat.le_trans (cptN_len _ _) hcap6
  clear hR6 hcap6 hlen
  generalize cpt (sortI raw) = cp at HLK hcl HCM2
  go_upto_region 28 with (go_at_call 56; refine HCM2.out.mono ?_; rintro e w7 ⟨rfl, hsl7, f7⟩)
  have g7 : Fr noB w w7 := g6.step f7 (fun b hb => .inl (hlt6 b hb))
  clear HCM2 f7 f6 hlt6 ho6
  cases cp with
  | nil =>
    have HLK2 := Lib.hid (show linksO l = [] by rw [HLK.out]; rfl)
    clear hcl
    simp only [List.length_nil]
    go_wp2_with fail
    go_ret
    unfold LkTo
    rw [HLK2.out]
    exact ⟨A5, c5, rfl, Sl.nil _ _, g7, Nat.zero_le _⟩
  | cons y t =>
    obtain ⟨g, off, rfl⟩ := hsl7.ad (by simp)
    have r1 : rdI w7 g off = some y := by
      have h1 := hsl7.id 0 (by simp)
      rw [Nat.zero_mul, Nat.add_zero] at h1
      exact h1
    have HT : Hid (t.length + 1 ≤ c5) := Lib.hid (by simpa using hcl)
    have hsl8 : Sl w7 (some ⟨g, off + 32, none⟩) (idc t) := by
      intro hne
      obtain ⟨g', off', e, hg, hc⟩ := hsl7 (by intro h0; have := idc_length (y :: t); rw [h0] at this; simp at this)
      injection e with e
      injection e with e1 e2
      subst e1; subst e2
      refine ⟨g, off + 32, rfl, hg, fun j v hv => ?_⟩
      have := hc (32 + j) v (by
        have e3 : idc (y :: t) = idc [y] ++ idc t := by rw [← idc_app]; rfl
        rw [e3, List.getElem?_append_right (by rw [idc_length]; simp), idc_length]
        simpa using hv)
      rwa [← Nat.add_assoc] at this
    have hm : ∃ m, m = (y :: t).length := ⟨_, rfl⟩
    obtain ⟨m, hm⟩ := hm
    rw [← hm]
    have hm1 : m = t.length + 1 := by rw [hm]; rfl
    have i1 : (0 : Int) < (m : Int) := by omega
    have i2 : (1 : Int) ≤ (m : Int) := by omega
    have i3 : m ≤ c5 := by have := HT.out; omega
    have i4 : (m : Int) ≤ (c5 : Int) := by omega
    have i5 : (1 : Int) ≤ (c5 : Int) := by omega
    have HM := Lib.hid hm1
    have HSL := Lib.hid hsl7
    clear hm hm1 hcl hsl7
    by_cases hy : y = zID
    · have HLK2 := Lib.hid (show linksO l = t by rw [HLK.out, dropZ_cons, if_pos hy])
      go_wp2_with fail
      all_goals
        go_ret
        unfold LkTo
        rw [HLK2.out]
        have h1 := HM.out
        have h2 := HT.out
        have h3 : m - 1 = t.length := by omega
        first
        | exact ⟨some ⟨g, off + 32, none⟩, c5 - 1, by rw [← h3]; rfl, hsl8, g7, by omega⟩
        | (have h4 : t.length = 0 := by omega
           obtain rfl : t = [] := List.length_eq_zero_iff.1 h4
           exact ⟨some ⟨g, off, none⟩, 0, by rw [← h3]; rfl, Sl.nil _ _, g7, by simp⟩)
    · have HLK2 := Lib.hid (show linksO l = y :: t by rw [HLK.out, dropZ_cons, if_neg hy])
      go_wp2_with fail
      go_ret
      unfold LkTo
      rw [HLK2.out]
      have h1 := HM.out
      have h2 := HT.out
      have h3 : m = (y :: t).length := by rw [List.length_cons]; exact h1
      exact ⟨some ⟨g, off, none⟩, c5, by rw [← h3]; rfl, HSL.out, g7, by rw [← h3]; exact i3⟩
set_option maxRecDepth 100000 in
set_option maxHeartbeats 2000000 in
theorem links_no (hsort : SortOK) (w : World) (A : Option Addr) (c n : Nat) (l : List UInt8) (hn : l.length = n) (hs : Sl w A (bv l)) (hcap : l.length ≤ c) (hb : l.length ≤ 140737488355328) (h2 : rdDr l = none) (h3 : rdCh l = none) (h4 : rdLb l = none) :
    Calls Tryz.prog 21 #[.slice A n c] w (LkTo w l) := by
  obtain ⟨hk, hl⟩ := kind_no h2 h3 h4
  have HL := Lib.hid hl
  have hko : kindO l = 0 ∨ kindO l = 1 := by omega
  have HKO := Lib.hid hko
  clear hk hl h2 h3 h4 hko
  have hz0 : sortI [] = [] := List.length_eq_zero_iff.1 (by rw [sortI_len]; rfl)
  have HLK := Lib.hid (show linksO l = [] by unfold linksO; rw [HL.out, hz0]; rfl)
  clear hz0
  obtain ⟨raw, hraw⟩ : ∃ raw : List ID, raw = [] := ⟨_, rfl⟩
  have ho0 : ∀ W, OwnC codI w W none 0 [] := fun W => World.ownsRow_nil _ _ _ _
  have hS := fun W => hsort w W none 0 0 [] rfl (ho0 W) (by simp)
  have hC := fun W => compact_any W none 0 0 [] rfl (.inl rfl) (by simp) (by simp)
  rcases HKO.out with hk | hk
  · have HK := Lib.hid hk
    clear hk HKO hraw
    go_enter Tryz.func21, Tryz.ntmps21
    go_wp2_with (first
      | (go_at_call 14; refine (kind_z _ A c n l hn hs hcap hb 0 0 HK.out rfl).mono ?_; rintro e w1 ⟨rfl, f1⟩)
      | (go_at_call 54; refine (hS _).mono ?_; rintro e w2 ⟨rfl, _, f2⟩)
      | (go_at_call 56; refine (hC _).mono ?_; rintro e w3 ⟨rfl, _, f3⟩))
    go_ret
    unfold LkTo
    rw [HLK.out]
    have g2 : Fr noB w w2 := f1.step f2 (fun b hb => by cases hb)
    have g3 : Fr noB w w3 := g2.step f3 (fun b hb => by cases hb)
    exact ⟨none, 0, rfl, Sl.nil _ _, g3, Nat.le_refl _⟩
  · have HK := Lib.hid hk
    clear hk HKO hraw
    go_enter Tryz.func21, Tryz.ntmps21
    go_wp2_with (first
      | (go_at_call 14; refine (kind_z _ A c n l hn hs hcap hb 1 1 HK.out rfl).mono ?_; rintro e w1 ⟨rfl, f1⟩)
      | (go_at_call 54; refine (hS _).mono ?_; rintro e w2 ⟨rfl, _, f2⟩)
      | (go_at_call 56; refine (hC _).mono ?_; rintro e w3 ⟨rfl, _, f3⟩))
    go_ret
    unfold LkTo
    rw [HLK.out]
    have g2 : Fr noB w w2 := f1.step f2 (fun b hb => by cases hb)
    have g3 : Fr noB w w3 := g2.step f3 (fun b hb => by cases hb)
    exact ⟨none, 0, rfl, Sl.nil _ _, g3, Nat.le_refl _⟩
end Go.Proofs.YtejkfekpgbmdiaaGreat
namespace Go.Proofs.YtejkfekpgbmdiaaGreat
open Go.RowKit
set_option linter.unusedVariables false
set_option linter.unusedSimpArgs false

def lkI (x : It) : List ID := x.Sub :: x.Heads.map (·.Data)
theorem flatI_succ {α : Type} (f : α → List ID) (l : List α) (k : Nat) (h : k < l.length) : (l.take (k + 1)).flatMap f = (l.take k).flatMap f ++ f l[k] := by
  rw [List.take_succ_eq_append_getElem h, List.flatMap_append]; simp
def LkR (W2 : World) (n m : Nat) (o0 : List ID) (f : Nat → List ID) (gk : Nat) (v iv : Value) (wr : World) : Prop :=
  ∃ (k : Nat) (A : Option Addr) (c : Nat) (o : List ID), v = .slice A o.length c ∧ iv = .int .i64 (k : Int) ∧ gk = n - k ∧ k ≤ n ∧ o = o0 ++ f k ∧ o.length ≤ o0.length + k * m ∧ OwnC codI W2 wr A c o ∧ Fr noB W2 wr
theorem Fr.ownI {W0 w w' : World} {A : Option Addr} {n c : Nat} {xs : List Value} {e : TypeId} {size : Nat} (f : Fr noB W0 w) (h : w.ownsRow W0.heap.size e size (.slice A n c) n xs) (hg : w.grownBy w' (A.map (·.block))) : Fr noB W0 w' :=
  f.step (Fr.ofGrown (M := fun b => A.map (·.block) = some b) hg (fun g hg => hg)) (fun b hb => .inl (own_lt h b hb).1)
set_option maxRecDepth 100000 in
set_option maxHeartbeats 4000000 in
theorem links_dr (hsort : SortOK) (w : World) (A : Option Addr) (c n : Nat) (l : List UInt8) (hn : l.length = n) (hs : Sl w A (bv l)) (hcap : l.length ≤ c) (hb : l.length ≤ 140737488355328) (xs : List It) (h : rdDr l = some xs) :
    Calls Tryz.prog 21 #[.slice A n c] w (LkTo w l) := by
  obtain ⟨hk, hl⟩ := kind_dr h
  have hrt : rightDr xs = true := by
    have h0 := h
    rw [rdDr_eq] at h0
    unfold whole at h0
    split at h0
    · rename_i h1
      injection h0 with h0
      rw [← h0]; exact h1.2
    · cases h0
  simp only [rightDr, Bool.and_eq_true, decide_eq_true_eq, List.all_eq_true] at hrt
  obtain ⟨⟨z1, z2⟩, z3⟩ := hrt
  have hhd : ∀ x ∈ xs, x.Heads.length ≤ 1000 := fun x hx => by
    have := z2 x hx
    simp only [rightIt, Bool.and_eq_true, decide_eq_true_eq] at this
    exact this.1.1.2
  have HK := Lib.hid hk
  have HL := Lib.hid (show linkL l = xs.flatMap lkI from hl)
  have H := Lib.hid h
  clear hk hl h z2 z3
  go_enter Tryz.func21, Tryz.ntmps21
  go_upto_region 4 with (go_at_call 14; refine (kind_z _ A c n l hn hs hcap hb 2 2 HK.out rfl).mono ?_; rintro e w1 ⟨rfl, f1⟩)
  go_upto_region 5 with (go_at_call 17; refine (dir_any _ A c n l hn (hs.fr0 f1) hcap hb).mono ?_; rintro e w2 ⟨A1, c1, rs, rfl, f2, ho, hi⟩; rw [H.out] at hi ⊢)
  have f12 := f1.step0 f2
  simp only [Option.getD_some] at hi
  have hits := hi.its
  have HLN := Lib.hid hi.len
  have hrow := Sl.own ho
  have hrl : rs.length ≤ 1000 := by have := HLN.out; omega
  clear f2 f1 hi ho z1
  go_wp2_with fail
  go_loopg [3, 27] rs.length (fun gk v iv wr => LkR w2 rs.length 1001 [] (fun k => (xs.take k).flatMap lkI) gk v iv wr)
  case atStart => exact ⟨0, none, 0, [], rfl, rfl, by omega, by omega, by simp, by simp, World.ownsRow_nil _ _ _ _, Fr.refl _ _⟩
  case round =>
    obtain ⟨k, A8, c8, o8, rfl, rfl, rfl, hk, ho8e, hb8, ho8, hf8⟩ := hrel
    have HO8 := Lib.hid ho8e
    clear ho8e
    by_cases hlt : k < rs.length
    · have i1 : (k : Int) < (rs.length : Int) := by omega
      have i0 : (0 : Int) ≤ (k : Int) := by omega
      have hlt2 : k < xs.length := by rw [← HLN.out]; exact hlt
      obtain ⟨g, off, rfl, hgg⟩ := hrow.adC (by omega)
      have e1 : codT.rd wr g (off + k * 38) = some rs[k] := (hrow.fr0 hf8).rd k hlt
      have hin : ItIn w2 rs[k] xs[k] := hits.at_ k hlt hlt2
      have hh := hhd _ (List.getElem_mem hlt2)
      have ht := flatI_succ lkI xs k hlt2
      generalize rs[k] = r at e1 hin
      generalize xs[k] = x at hin hh ht
      have HT := Lib.hid ht
      have es : x.Sub = r.Sub := by rw [hin.eq]; rfl
      have hHd := hin.len
      have hsl := hin.sl
      have hlk : lkI x = [r.Sub] ++ x.Heads.map (·.Data) := by unfold lkI; rw [es]; rfl
      generalize x.Heads = hd at hh hHd hsl hlk
      have HLKX := Lib.hid hlk
      have HHD := Lib.hid hHd
      have HLT := Lib.hid hlt
      have HB8 := Lib.hid hb8
      have fA : Fr noB wr (wr.alloc (codT.o r)) := (Fr.refl noB wr).alloc _
      have hx : codT.rd (wr.alloc (codT.o r)) wr.heap.size 0 = some r := Cod.rd_new' wr r
      have nA : ∀ g, A8.map (·.block) = some g → g ≠ wr.heap.size := fun g hg => by have := (own_lt ho8 g hg).2; omega
      have b8 : o8.length ≤ 2000000 := by simp at hb8; omega
      clear hlk ht hlt hlt2 hHd hin hb8 es
      go_upto_region 8 with fail
      replace hf8 := hf8.step0 fA
      replace ho8 := own_new0 ho8 fA
      clear fA e1
      generalize wr.alloc (codT.o r) = W1 at hx ho8 hf8 ⊢
      generalize wr.heap.size = N at hx nA ⊢
      have k5 := (itAt hx).sub
      have fr : Fr noB W1 (W1.alloc (rowo [r.Sub])) := (Fr.refl noB W1).alloc _
      have sl : Sl (W1.alloc (rowo [r.Sub])) (some ⟨W1.heap.size, 0, none⟩) (codI.row [r.Sub]) := sl_new W1 [r.Sub]
      replace hf8 := hf8.step0 fr
      replace ho8 := own_new0 ho8 fr
      replace hx := Cod.rd_fr0 hx fr
      go_upto_region 9 with (at_builtin; refine wpList_appC' etI w2 _ rfl _ _ rfl A8 o8.length c8 o8 rfl rfl ho8 (some ⟨W1.heap.size, 0, none⟩) 1 1 [r.Sub] rfl sl rfl (by simp; omega) hf8.size ?_; intro A9 c9 w9 hc9 hm9 ho9 hg9 hA9; obtain ⟨o9, ho9e⟩ : ∃ r' : List ID, r' = o8 ++ [r.Sub] := ⟨_, rfl⟩; rw [← ho9e] at ho9 ⊢; have HO9 := Lib.hid ho9e; clear ho9e)
      have f9 : Fr (fun b => A8.map (·.block) = some b) (W1.alloc (rowo [r.Sub])) w9 := Fr.ofGrown hg9 (fun g hg => hg)
      have hf9 := hf8.ownI ho8 hg9
      replace hx := Cod.rd_fr hx f9 (fun e => nA N e rfl)
      have k37 := (itAt hx).heads
      have b9 : o9.length = o8.length + 1 := by rw [HO9.out]; simp
      have HB9 := Lib.hid b9
      rw [← HHD.out] at k37
      clear k5 sl fr f9 hg9 hA9 ho8 hx b9
      generalize r.A = RA at k37 hsl ⊢
      go_wp2_with fail
      go_loopg [3, 39] hd.length (fun gk v iv wr => LkR w2 hd.length 1 o9 (fun j => (hd.take j).map (·.Data)) gk v iv wr)
      case atStart => exact ⟨0, A9, c9, o9, rfl, rfl, by omega, by omega, by simp, by omega, ho9, hf9⟩
      case round =>
        obtain ⟨j, A20, c20, o20, rfl, rfl, rfl, hj, ho20e, hb20, ho20, hf20⟩ := hrel
        have HO20 := Lib.hid ho20e
        clear ho20e
        by_cases hjl : j < hd.length
        · have i1 : (j : Int) < (hd.length : Int) := by omega
          have i0 : (0 : Int) ≤ (j : Int) := by omega
          obtain ⟨g2, off2, rfl, hgg2⟩ := hsl.adC (by omega)
          have e1 : codH.rd wr g2 (off2 + j * 34) = some hd[j] := (hsl.fr0 hf20).rd j hjl
          have ht : (hd.take (j + 1)).map (·.Data) = (hd.take j).map (·.Data) ++ [hd[j].Data] := by rw [List.take_succ_eq_append_getElem hjl, List.map_append]; rfl
          generalize hd[j] = q at e1 ht
          have HT2 := Lib.hid ht
          have b20 : o20.length ≤ 3000000 := by have := HB9.out; omega
          have HJL := Lib.hid hjl
          have HB20 := Lib.hid hb20
          have fA : Fr noB wr (wr.alloc (codH.o q)) := (Fr.refl noB wr).alloc _
          have hx : codH.rd (wr.alloc (codH.o q)) wr.heap.size 0 = some q := Cod.rd_new' wr q
          clear ht hjl hb20
          go_upto_region 12 with fail
          replace hf20 := hf20.step0 fA
          replace ho20 := own_new0 ho20 fA
          clear fA e1
          generalize wr.alloc (codH.o q) = W2 at hx ho20 hf20 ⊢
          generalize wr.heap.size = N2 at hx ⊢
          have k5 := (hdAt hx).data
          have fr : Fr noB W2 (W2.alloc (rowo [q.Data])) := (Fr.refl noB W2).alloc _
          have sl : Sl (W2.alloc (rowo [q.Data])) (some ⟨W2.heap.size, 0, none⟩) (codI.row [q.Data]) := sl_new W2 [q.Data]
          replace hf20 := hf20.step0 fr
          replace ho20 := own_new0 ho20 fr
          go_wp2_with (at_builtin; refine wpList_appC' etI w2 _ rfl _ _ rfl A20 o20.length c20 o20 rfl rfl ho20 (some ⟨W2.heap.size, 0, none⟩) 1 1 [q.Data] rfl sl rfl (by simp; omega) hf20.size ?_; intro A21 c21 w21 hc21 hm21 ho21 hg21 hA21; obtain ⟨o21, ho21e⟩ : ∃ r' : List ID, r' = o20 ++ [q.Data] := ⟨_, rfl⟩; rw [← ho21e] at ho21 ⊢; have HO21 := Lib.hid ho21e; clear ho21e)
          have hf21 := hf20.ownI ho20 hg21
          have hjl := HJL.out
          go_roundg (hd.length - (j + 1))
          case measure => omega
          case rel =>
            exact ⟨j + 1, A21, c21, o21, rfl, by simp, rfl, by omega, by rw [HO21.out, HO20.out]; simp only; rw [HT2.out, List.append_assoc], by have := HB20.out; rw [HO21.out]; simp; omega, ho21, hf21⟩
        · have hjn : j = hd.length := by omega
          subst hjn
          have i1 : ¬ (hd.length : Int) < (hd.length : Int) := by omega
          have HF := Lib.hid (show o20 = [] ++ (xs.take (k + 1)).flatMap lkI by
            have h1 := HO20.out
            simp only [List.take_length] at h1
            have h2 := HO8.out
            simp only [List.nil_append] at h2
            rw [h1, HO9.out, List.nil_append, HT.out, HLKX.out, h2, List.append_assoc])
          have hlt := HLT.out
          have HB := Lib.hid (show o20.length ≤ ([] : List ID).length + (k + 1) * 1001 by
            have h1 := HB9.out
            have h2 := HB8.out
            simp only [List.length_nil] at h2 ⊢
            omega)
          clear hjl hb20 hj
          go_wp2_with fail
          go_roundg (rs.length - (k + 1))
          case measure => omega
          case rel =>
            exact ⟨k + 1, A20, c20, o20, by first | rfl | simp, by simp, rfl, by omega, HF.out, HB.out, ho20, hf20⟩
    · have hkn : k = rs.length := by omega
      subst hkn
      have i1 : ¬ (rs.length : Int) < (rs.length : Int) := by omega
      have HRAW : Hid (linkL l = o8) := Lib.hid (by
        have h1 := HO8.out
        simp only [HLN.out, List.take_length, List.nil_append] at h1
        rw [HL.out, h1])
      have hrb : o8.length ≤ 100000000 := by simp at hb8; omega
      have g5 : Fr noB w wr := f12.step0 hf8
      have ho5 : OwnC codI w wr A8 c8 o8 := own_base ho8 f12.size
      clear hb8 ho8 HO8 hlt hk
      generalize o8 = raw at HRAW hrb ho5 ⊢
      generalize A8 = A5 at ho5 ⊢
      generalize c8 = c5 at ho5 ⊢
      have G5 := Lib.hid g5
      go_upto_region 27 with (go_at_call 54; refine (hsort w _ A5 c5 _ raw rfl ho5 (by omega)).mono ?_; rintro e w6 ⟨rfl, ho6, f6⟩)
      have g6 : Fr noB w w6 := G5.out.step f6 (fun b hb => .inl (own_lt ho5 b hb).1)
      have hlen := sortI_len raw
      have hcap6 : (sortI raw).length ≤ c5 := own_cap ho6
      have hR6 : sortI raw = [] ∨ ∃ g, A5 = some ⟨g, 0, none⟩ ∧ RwI w6 g (sortI raw) := by
        by_cases h0 : sortI raw = []
        · exact .inl h0
        · exact .inr (RwI.own ho6 h0)
      have hlt6 : ∀ b, A5.map (·.block) = some b → w.heap.size ≤ b := fun b hb => (own_lt ho6 b hb).1
      have HCM2 : Hid (Calls Tryz.prog 56 #[.slice A5 raw.length c5] w6 fun e w' => e = .returned (.slice A5 (cpt (sortI raw)).length c5) ∧ Sl w' A5 (idc (cpt (sortI raw))) ∧ Fr (fun b => A5.map (·.block) = some b) w6 w') :=
        Lib.hid ((compact_any w6 A5 c5 raw.length (sortI raw) hlen hR6 hcap6 (by rw [hlen]; omega)).mono fun e w' h => h)
      have HLK := Lib.hid (show linksO l = dropZ (cpt (sortI raw)) by unfold linksO; rw [HRAW.out])
      have hcl : (cpt (sortI raw)).length ≤ c5 := Nat.le_trans (cptN_len _ _) hcap6
      clear hR6 hcap6 hlen
      generalize cpt (sortI raw) = cp at HLK hcl HCM2
      go_upto_region 28 with (go_at_call 56; refine HCM2.out.mono ?_; rintro e w7 ⟨rfl, hsl7, f7⟩)
      have g7 : Fr noB w w7 := g6.step f7 (fun b hb => .inl (hlt6 b hb))
      clear HCM2 f7 f6 hlt6 ho6
      cases cp with
      | nil =>
        have HLK2 := Lib.hid (show linksO l = [] by rw [HLK.out]; rfl)
        clear hcl
        simp only [List.length_nil]
        go_wp2_with fail
        go_ret
        unfold LkTo
        rw [HLK2.out]
        exact ⟨A5, c5, rfl, Sl.nil _ _, g7, Nat.zero_le _⟩
      | cons y t =>
        obtain ⟨g, off, rfl⟩ := hsl7.ad (by simp)
        have r1 : rdI w7 g off = some y := by
          have h1 := hsl7.id 0 (by simp)
          rw [Nat.zero_mul, Nat.add_zero] at h1
          exact h1
        have HT : Hid (t.length + 1 ≤ c5) := Lib.hid (by simpa using hcl)
        have hsl8 : Sl w7 (some ⟨g, off + 32, none⟩) (idc t) := by
          intro hne
          obtain ⟨g', off', e, hg, hc⟩ := hsl7 (by intro h0; have := idc_length (y :: t); rw [h0] at this; simp at this)
          injection e with e
          injection e with e1 e2
          subst e1; subst e2
          refine ⟨g, off + 32, rfl, hg, fun j v hv => ?_⟩
          have := hc (32 + j) v (by
            have e3 : idc (y :: t) = idc [y] ++ idc t := by rw [← idc_app]; rfl
            rw [e3, List.getElem?_append_right (by rw [idc_length]; simp), idc_length]
            simpa using hv)
          rwa [← Nat.add_assoc] at this
        have hm : ∃ m, m = (y :: t).length := ⟨_, rfl⟩
        obtain ⟨m, hm⟩ := hm
        rw [← hm]
        have hm1 : m = t.length + 1 := by rw [hm]; rfl
        have i1 : (0 : Int) < (m : Int) := by omega
        have i2 : (1 : Int) ≤ (m : Int) := by omega
        have i3 : m ≤ c5 := by have := HT.out; omega
        have i4 : (m : Int) ≤ (c5 : Int) := by omega
        have i5 : (1 : Int) ≤ (c5 : Int) := by omega
        have HM := Lib.hid hm1
        have HSL := Lib.hid hsl7
        clear hm hm1 hcl hsl7
        by_cases hy : y = zID
        · have HLK2 := Lib.hid (show linksO l = t by rw [HLK.out, dropZ_cons, if_pos hy])
          go_wp2_with fail
          all_goals
            go_ret
            unfold LkTo
            rw [HLK2.out]
            have h1 := HM.out
            have h2 := HT.out
            have h3 : m - 1 = t.length := by omega
            first
            | exact ⟨some ⟨g, off + 32, none⟩, c5 - 1, by rw [← h3]; rfl, hsl8, g7, by omega⟩
            | (have h4 : t.length = 0 := by omega
               obtain rfl : t = [] := List.length_eq_zero_iff.1 h4
               exact ⟨some ⟨g, off, none⟩, 0, by rw [← h3]; rfl, Sl.nil _ _, g7, by simp⟩)
        · have HLK2 := Lib.hid (show linksO l = y :: t by rw [HLK.out, dropZ_cons, if_neg hy])
          go_wp2_with fail
          go_ret
          unfold LkTo
          rw [HLK2.out]
          have h1 := HM.out
          have h2 := HT.out
          have h3 : m = (y :: t).length := by rw [List.length_cons]; exact h1
          exact ⟨some ⟨g, off, none⟩, c5, by rw [← h3]; rfl, HSL.out, g7, by rw [← h3]; exact i3⟩
end Go.Proofs.YtejkfekpgbmdiaaGreat
namespace Go.Proofs.YtejkfekpgbmdiaaGreat
open Go.RowKit
set_option linter.unusedVariables false
set_option linter.unusedSimpArgs false

theorem step_runV {P : Program} {w : World} {o : Oper} {a : Act} {K : Act → World → Prop} {Q : Exit → Act → World → Prop} (v : Value) (w' : World)
    (hr : (execOp a.eval o).run P w = .ok (.value v) w') (h : K (a.put o.dst v) w') : Oper.wp P o a w K Q := by
  unfold Oper.wp
  rw [hr]
  exact h
set_option maxRecDepth 100000 in
set_option maxHeartbeats 4000000 in
theorem links_ch (hsort : SortOK) (w : World) (A : Option Addr) (c n : Nat) (l : List UInt8) (hn : l.length = n) (hs : Sl w A (bv l)) (hcap : l.length ≤ c) (hb : l.length ≤ 140737488355328) (x : Chg) (h : rdCh l = some x) :
    Calls Tryz.prog 21 #[.slice A n c] w (LkTo w l) := by
  obtain ⟨hk, hl⟩ := kind_ch h
  have hrt : rightCh x = true := by
    have h0 := h
    rw [rdCh_eq] at h0
    unfold whole at h0
    split at h0
    · rename_i h1
      injection h0 with h0
      rw [← h0]; exact h1.2
    · cases h0
  simp only [rightCh, Bool.and_eq_true, decide_eq_true_eq, List.all_eq_true] at hrt
  have hp2 : x.Parents.length ≤ 2 := hrt.1.1.1.1.1.1.1.1.1
  have ho64 : x.Ops.length ≤ 64 := hrt.1.1.1.2
  have HK := Lib.hid hk
  have HL := Lib.hid hl
  have H := Lib.hid h
  clear hk hl h hrt
  go_enter Tryz.func21, Tryz.ntmps21
  go_upto_region 16 with (go_at_call 14; refine (kind_z _ A c n l hn hs hcap hb 3 3 HK.out rfl).mono ?_; rintro e w1 ⟨rfl, f1⟩)
  go_upto_region 17 with (go_at_call 25; refine (change_any _ A c n l hn (hs.fr0 f1) hcap hb).mono ?_; rintro e w2 ⟨r, rs, rfl, f2, hno, hso⟩; rw [H.out])
  obtain ⟨hin, hpn, hon, hrw⟩ := hso x H.out
  have f12 := f1.step0 f2
  have fA : Fr noB w2 (w2.alloc (codC.o r)) := (Fr.refl noB w2).alloc _
  obtain ⟨c0, c1', c2', c3, c4, c5', c6'⟩ := cgAt (Cod.rd_new' (C := codC) w2 r)
  have f3 := f12.step0 fA
  replace hin := hin.fr fA
  clear hno hso hrw fA f12 f2 f1 c1' c2' c5' c6'
  generalize w2.alloc (codC.o r) = Wc at c0 c3 c4 f3 hin ⊢
  generalize w2.heap.size = P at c0 c3 c4 ⊢
  obtain ⟨h1, h2, h3, h4, h5, h6, h7, h8, h9, h10, h11, h12⟩ := hin
  have HLN := Lib.hid h9.len
  have hrl : rs.length ≤ 64 := by have := h9.len; omega
  have HL2 := Lib.hid (show linkL l = x.Parents ++ [r.Tree] ++ x.Ops.map (·.Data) by rw [HL.out, h3])
  generalize x.Parents = ps at hp2 h5 h6 h10 hpn HL2
  have HPN := Lib.hid hpn
  have HON := Lib.hid hon
  rw [hpn] at c0
  rw [hon] at c3
  clear h1 h2 h3 h4 h5 h7 h10 h11 h12 hpn hon
  have mkF : ∀ u, Fr noB Wc u → (u.cell? ⟨P, 0, none⟩ = some (.slice r.PA ps.length r.pc) ∧ rdI u P 4 = some r.Tree) := fun u f => ⟨cell_fr0 c0 f, rdI_fr c4 (rdI_lt c4) f (by simp [noB])⟩
  have fd := (Fr.refl noB Wc).drew
  refine wp_region_T 7 8 [⟨144115188075855872, 1024, 0⟩, ⟨288230376151711744, 144115188075855872, 1⟩, ⟨576460752303423488, 288230376151711744, 2⟩, ⟨1152921504606846976, 1024, 0⟩, ⟨2305843009213693952, 1152921504606846976, 8⟩, ⟨4611686018427387904, 2305843009213693952, 16⟩, ⟨9223372036854775808, 5188146770730811392, 36⟩, ⟨8, 9223372036854775808, 127⟩] (.take 0 (.take 1 (.take 3 (.take 4 (.two 2 5 (.one 5 (.one 6 .done)) (.one 2 (.one 6 .done))))))) (fun u => u.cell? ⟨P, 0, none⟩ = some (.slice r.PA ps.length r.pc) ∧ rdI u P 4 = some r.Tree) (by kernel_rfl) rfl (by kernel_rfl) (by kernel_rfl) (by kernel_rfl) (mkF _ fd) (fun hA hF => ?_)
  iterate 4
    refine wpAnyT_take (v := ?_) hA rfl (fun _ _ _ h => h) (Or.inl ⟨by rfl, ?_⟩) hF (fun hA => ?_)
    rotate_left
    · intro wS hSw; (try dsimp only at hSw); obtain ⟨s1, s2⟩ := hSw; first | (apply Eq.trans; apply ex_ld_id; exact rfl; exact rfl; assumption; with_reducible rfl) | (go_simp; try with_reducible rfl)
    try simp only [List.getElem_toArray, List.getElem_cons_zero, List.getElem_cons_succ, Act.put, List.setIfInBounds_toArray, List.set_cons_zero, List.set_cons_succ]
  refine wpAnyT_two (i := 2) (j := 5) hA rfl rfl (fun K' hK => ?_) (fun K' hK => ?_)
  · rw [if_pos (by rfl)]
    go_simp
    go_at_call 53
    refine (idclone_any _ r.PA r.pc ps ps.length rfl (h6.fr0 fd) (by omega)).mono ?_
    rintro e u1 ⟨A5, c5, rfl, ho5, hu1⟩
    have g1 : Fr noB Wc u1 := fd.step0 hu1
    replace ho5 : OwnC codI Wc u1 A5 c5 ps := own_base ho5 fd.size
    replace hF := mkF _ g1
    refine hK.out _ _ hF (fun hA => ?_)
    clear hK K'
    try simp only [List.getElem_toArray, List.getElem_cons_zero, List.getElem_cons_succ, Act.put, List.setIfInBounds_toArray, List.set_cons_zero, List.set_cons_succ]
    refine wpAnyT_one hA rfl (fun K' hK => ?_)
    refine step_runI rfl _ _ (ex_bsI_at (x := r.Tree) rfl rfl) ?_
    have fn : Fr noB u1 (u1.alloc (rowo [r.Tree])) := (Fr.refl noB u1).alloc _
    have sl : Sl (u1.alloc (rowo [r.Tree])) (some ⟨u1.heap.size, 0, none⟩) (codI.row [r.Tree]) := sl_new u1 [r.Tree]
    have g2 := g1.step0 fn
    replace ho5 := own_new0 ho5 fn
    replace hF := mkF _ g2
    refine hK.out _ _ hF (fun hA => ?_)
    clear hK K'
    try simp only [List.getElem_toArray, List.getElem_cons_zero, List.getElem_cons_succ, Act.put, List.setIfInBounds_toArray, List.set_cons_zero, List.set_cons_succ]
    refine wpAnyT_one hA rfl (fun K' hK => ?_)
    refine step_appC' etI Wc _ rfl _ _ rfl A5 ps.length c5 ps rfl rfl ho5 (some ⟨u1.heap.size, 0, none⟩) 1 1 [r.Tree] rfl sl rfl (by simp; omega) g2.size ?_
    intro A6 c6 w6 hc6 hm6 ho6 hg6 hA6
    obtain ⟨o6, ho6e⟩ : ∃ o : List ID, o = ps ++ [r.Tree] := ⟨_, rfl⟩
    rw [← ho6e] at ho6 ⊢
    have HO6 := Lib.hid ho6e
    have b6 : o6.length ≤ 3 := by rw [ho6e]; simp; omega
    have g6 := (g2).ownI ho5 hg6
    clear ho6e
    replace hF := mkF _ g6
    refine hK.out _ _ hF (fun hA => ?_)
    clear hK K'
    try simp only [List.getElem_toArray, List.getElem_cons_zero, List.getElem_cons_succ, Act.put, List.setIfInBounds_toArray, List.set_cons_zero, List.set_cons_succ]
    refine wpAnyT_end hA rfl ?_
    simp only [List.drop_succ_cons, List.drop_zero]
    clear hF hA hg6 hA6 hm6 hc6
    replace c3 := cell_fr0 c3 g6
    have h8' := h8
    generalize r.OA = OA at c3 h8' ⊢
    go_wp2_with fail
    go_loopg [3, 67] rs.length (fun gk v iv wr => LkR Wc rs.length 1 o6 (fun k => (x.Ops.take k).map (·.Data)) gk v iv wr)
    case atStart => exact ⟨0, A6, c6, o6, by first | rfl | simp, rfl, by omega, by omega, by simp, by omega, ho6, g6⟩
    case round =>
      obtain ⟨k, A20, c20, o20, rfl, rfl, rfl, hk, ho20e, hb20, ho20, hf20⟩ := hrel
      have HO20 := Lib.hid ho20e
      clear ho20e
      by_cases hlt : k < rs.length
      · have i1 : (k : Int) < (rs.length : Int) := by omega
        have i0 : (0 : Int) ≤ (k : Int) := by omega
        have hlt2 : k < x.Ops.length := by rw [← HLN.out]; exact hlt
        obtain ⟨g2, off2, rfl, hgg2⟩ := h8'.adC (by omega)
        have e1 : codO.rd wr g2 (off2 + k * 41) = some rs[k] := (h8'.fr0 hf20).rd k hlt
        have hin : OpIn Wc rs[k] x.Ops[k] := h9.at_ k hlt hlt2
        have ed : x.Ops[k].Data = rs[k].Data := by rw [hin.eq]; rfl
        have ht : (x.Ops.take (k + 1)).map (·.Data) = (x.Ops.take k).map (·.Data) ++ [rs[k].Data] := by rw [List.take_succ_eq_append_getElem hlt2, List.map_append, ← ed]; rfl
        clear hin ed
        generalize rs[k] = q at e1 ht
        have HT2 := Lib.hid ht
        have b20 : o20.length ≤ 3000000 := by omega
        have HJL := Lib.hid hlt
        have HB20 := Lib.hid hb20
        have fA : Fr noB wr (wr.alloc (codO.o q)) := (Fr.refl noB wr).alloc _
        have hx : codO.rd (wr.alloc (codO.o q)) wr.heap.size 0 = some q := Cod.rd_new' wr q
        clear ht hlt hlt2 hb20
        go_upto_region 21 with fail
        replace hf20 := hf20.step0 fA
        replace ho20 := own_new0 ho20 fA
        clear fA e1
        generalize wr.alloc (codO.o q) = W2 at hx ho20 hf20 ⊢
        generalize wr.heap.size = N2 at hx ⊢
        have k5 := (opAt hx).data
        have fr : Fr noB W2 (W2.alloc (rowo [q.Data])) := (Fr.refl noB W2).alloc _
        have sl : Sl (W2.alloc (rowo [q.Data])) (some ⟨W2.heap.size, 0, none⟩) (codI.row [q.Data]) := sl_new W2 [q.Data]
        replace hf20 := hf20.step0 fr
        replace ho20 := own_new0 ho20 fr
        go_wp2_with (at_builtin; refine wpList_appC' etI Wc _ rfl _ _ rfl A20 o20.length c20 o20 rfl rfl ho20 (some ⟨W2.heap.size, 0, none⟩) 1 1 [q.Data] rfl sl rfl (by simp; omega) hf20.size ?_; intro A21 c21 w21 hc21 hm21 ho21 hg21 hA21; obtain ⟨o21, ho21e⟩ : ∃ r' : List ID, r' = o20 ++ [q.Data] := ⟨_, rfl⟩; rw [← ho21e] at ho21 ⊢; have HO21 := Lib.hid ho21e; clear ho21e)
        have hf21 := hf20.ownI ho20 hg21
        have hjl := HJL.out
        go_roundg (rs.length - (k + 1))
        case measure => omega
        case rel =>
          exact ⟨k + 1, A21, c21, o21, rfl, by simp, rfl, by omega, by rw [HO21.out, HO20.out]; simp only; rw [HT2.out, List.append_assoc], by have := HB20.out; rw [HO21.out]; simp; omega, ho21, hf21⟩
      · have hkn : k = rs.length := by omega
        subst hkn
        have i1 : ¬ (rs.length : Int) < (rs.length : Int) := by omega
        have HRAW : Hid (linkL l = o20) := Lib.hid (by
          have h1 := HO20.out
          simp only [HLN.out, List.take_length] at h1
          rw [HL2.out, h1, HO6.out])
        have hrb : o20.length ≤ 100000000 := by omega
        have g5 : Fr noB w wr := f3.step0 hf20
        have ho5 : OwnC codI w wr A20 c20 o20 := own_base ho20 f3.size
        clear hb20 ho20 HO20 hlt hk ho6
        generalize o20 = raw at HRAW hrb ho5 ⊢
        generalize A20 = A5 at ho5 ⊢
        generalize c20 = c5 at ho5 ⊢
        have G5 := Lib.hid g5
        go_upto_region 27 with (go_at_call 54; refine (hsort w _ A5 c5 _ raw rfl ho5 (by omega)).mono ?_; rintro e w6 ⟨rfl, ho6, f6⟩)
        have g6 : Fr noB w w6 := G5.out.step f6 (fun b hb => .inl (own_lt ho5 b hb).1)
        have hlen := sortI_len raw
        have hcap6 : (sortI raw).length ≤ c5 := own_cap ho6
        have hR6 : sortI raw = [] ∨ ∃ g, A5 = some ⟨g, 0, none⟩ ∧ RwI w6 g (sortI raw) := by
          by_cases h0 : sortI raw = []
          · exact .inl h0
          · exact .inr (RwI.own ho6 h0)
        have hlt6 : ∀ b, A5.map (·.block) = some b → w.heap.size ≤ b := fun b hb => (own_lt ho6 b hb).1
        have HCM2 : Hid (Calls Tryz.prog 56 #[.slice A5 raw.length c5] w6 fun e w' => e = .returned (.slice A5 (cpt (sortI raw)).length c5) ∧ Sl w' A5 (idc (cpt (sortI raw))) ∧ Fr (fun b => A5.map (·.block) = some b) w6 w') :=
          Lib.hid ((compact_any w6 A5 c5 raw.length (sortI raw) hlen hR6 hcap6 (by rw [hlen]; omega)).mono fun e w' h => h)
        have HLK := Lib.hid (show linksO l = dropZ (cpt (sortI raw)) by unfold linksO; rw [HRAW.out])
        have hcl : (cpt (sortI raw)).length ≤ c5 := Nat.le_trans (cptN_len _ _) hcap6
        clear hR6 hcap6 hlen
        generalize cpt (sortI raw) = cp at HLK hcl HCM2
        go_upto_region 28 with (go_at_call 56; refine HCM2.out.mono ?_; rintro e w7 ⟨rfl, hsl7, f7⟩)
        have g7 : Fr noB w w7 := g6.step f7 (fun b hb => .inl (hlt6 b hb))
        clear HCM2 f7 f6 hlt6 ho6
        cases cp with
        | nil =>
          have HLK2 := Lib.hid (show linksO l = [] by rw [HLK.out]; rfl)
          clear hcl
          simp only [List.length_nil]
          go_wp2_with fail
          go_ret
          unfold LkTo
          rw [HLK2.out]
          exact ⟨A5, c5, rfl, Sl.nil _ _, g7, Nat.zero_le _⟩
        | cons y t =>
          obtain ⟨g, off, rfl⟩ := hsl7.ad (by simp)
          have r1 : rdI w7 g off = some y := by
            have h1 := hsl7.id 0 (by simp)
            rw [Nat.zero_mul, Nat.add_zero] at h1
            exact h1
          have HT : Hid (t.length + 1 ≤ c5) := Lib.hid (by simpa using hcl)
          have hsl8 : Sl w7 (some ⟨g, off + 32, none⟩) (idc t) := by
            intro hne
            obtain ⟨g', off', e, hg, hc⟩ := hsl7 (by intro h0; have := idc_length (y :: t); rw [h0] at this; simp at this)
            injection e with e
            injection e with e1 e2
            subst e1; subst e2
            refine ⟨g, off + 32, rfl, hg, fun j v hv => ?_⟩
            have := hc (32 + j) v (by
              have e3 : idc (y :: t) = idc [y] ++ idc t := by rw [← idc_app]; rfl
              rw [e3, List.getElem?_append_right (by rw [idc_length]; simp), idc_length]
              simpa using hv)
            rwa [← Nat.add_assoc] at this
          have hm : ∃ m, m = (y :: t).length := ⟨_, rfl⟩
          obtain ⟨m, hm⟩ := hm
          rw [← hm]
          have hm1 : m = t.length + 1 := by rw [hm]; rfl
          have i1 : (0 : Int) < (m : Int) := by omega
          have i2 : (1 : Int) ≤ (m : Int) := by omega
          have i3 : m ≤ c5 := by have := HT.out; omega
          have i4 : (m : Int) ≤ (c5 : Int) := by omega
          have i5 : (1 : Int) ≤ (c5 : Int) := by omega
          have HM := Lib.hid hm1
          have HSL := Lib.hid hsl7
          clear hm hm1 hcl hsl7
          by_cases hy : y = zID
          · have HLK2 := Lib.hid (show linksO l = t by rw [HLK.out, dropZ_cons, if_pos hy])
            go_wp2_with fail
            all_goals
              go_ret
              unfold LkTo
              rw [HLK2.out]
              have h1 := HM.out
              have h2 := HT.out
              have h3 : m - 1 = t.length := by omega
              first
              | exact ⟨some ⟨g, off + 32, none⟩, c5 - 1, by rw [← h3]; rfl, hsl8, g7, by omega⟩
              | (have h4 : t.length = 0 := by omega
                 obtain rfl : t = [] := List.length_eq_zero_iff.1 h4
                 exact ⟨some ⟨g, off, none⟩, 0, by rw [← h3]; rfl, Sl.nil _ _, g7, by simp⟩)
          · have HLK2 := Lib.hid (show linksO l = y :: t by rw [HLK.out, dropZ_cons, if_neg hy])
            go_wp2_with fail
            go_ret
            unfold LkTo
            rw [HLK2.out]
            have h1 := HM.out
            have h2 := HT.out
            have h3 : m = (y :: t).length := by rw [List.length_cons]; exact h1
            exact ⟨some ⟨g, off, none⟩, c5, by rw [← h3]; rfl, HSL.out, g7, by rw [← h3]; exact i3⟩
  · rw [if_pos (by rfl)]
    refine step_runV _ _ (ex_bsI_at (x := r.Tree) rfl rfl) ?_
    have fn : Fr noB Wc.drew (Wc.drew.alloc (rowo [r.Tree])) := (Fr.refl noB Wc.drew).alloc _
    have sl : Sl (Wc.drew.alloc (rowo [r.Tree])) (some ⟨Wc.drew.heap.size, 0, none⟩) (codI.row [r.Tree]) := sl_new Wc.drew [r.Tree]
    have g1 : Fr noB Wc (Wc.drew.alloc (rowo [r.Tree])) := fd.step0 fn
    generalize Wc.drew.alloc (rowo [r.Tree]) = u1 at sl g1 fn hK ⊢
    generalize Wc.drew.heap.size = N0 at sl hK ⊢
    replace hF := mkF _ g1
    refine hK.out _ _ hF (fun hA => ?_)
    clear hK K'
    try simp only [List.getElem_toArray, List.getElem_cons_zero, List.getElem_cons_succ, Act.put, List.setIfInBounds_toArray, List.set_cons_zero, List.set_cons_succ]
    refine wpAnyT_one hA rfl (fun K' hK => ?_)
    go_simp
    go_at_call 53
    refine (idclone_any _ r.PA r.pc ps ps.length rfl (h6.fr0 g1) (by omega)).mono ?_
    rintro e u2 ⟨A5, c5, rfl, ho5, hu2⟩
    have g2 : Fr noB Wc u2 := g1.step0 hu2
    replace ho5 : OwnC codI Wc u2 A5 c5 ps := own_base ho5 g1.size
    replace sl := sl.fr0 hu2
    replace hF := mkF _ g2
    refine hK.out _ _ hF (fun hA => ?_)
    clear hK K'
    try simp only [List.getElem_toArray, List.getElem_cons_zero, List.getElem_cons_succ, Act.put, List.setIfInBounds_toArray, List.set_cons_zero, List.set_cons_succ]
    refine wpAnyT_one hA rfl (fun K' hK => ?_)
    refine step_appC' etI Wc _ rfl _ _ rfl A5 ps.length c5 ps rfl rfl ho5 (some ⟨N0, 0, none⟩) 1 1 [r.Tree] rfl sl rfl (by simp; omega) g2.size ?_
    intro A6 c6 w6 hc6 hm6 ho6 hg6 hA6
    obtain ⟨o6, ho6e⟩ : ∃ o : List ID, o = ps ++ [r.Tree] := ⟨_, rfl⟩
    rw [← ho6e] at ho6 ⊢
    have HO6 := Lib.hid ho6e
    have b6 : o6.length ≤ 3 := by rw [ho6e]; simp; omega
    have g6 := (g2).ownI ho5 hg6
    clear ho6e
    replace hF := mkF _ g6
    refine hK.out _ _ hF (fun hA => ?_)
    clear hK K'
    try simp only [List.getElem_toArray, List.getElem_cons_zero, List.getElem_cons_succ, Act.put, List.setIfInBounds_toArray, List.set_cons_zero, List.set_cons_succ]
    refine wpAnyT_end hA rfl ?_
    simp only [List.drop_succ_cons, List.drop_zero]
    clear hF hA hg6 hA6 hm6 hc6
    replace c3 := cell_fr0 c3 g6
    have h8' := h8
    generalize r.OA = OA at c3 h8' ⊢
    go_wp2_with fail
    go_loopg [3, 67] rs.length (fun gk v iv wr => LkR Wc rs.length 1 o6 (fun k => (x.Ops.take k).map (·.Data)) gk v iv wr)
    case atStart => exact ⟨0, A6, c6, o6, by first | rfl | simp, rfl, by omega, by omega, by simp, by omega, ho6, g6⟩
    case round =>
      obtain ⟨k, A20, c20, o20, rfl, rfl, rfl, hk, ho20e, hb20, ho20, hf20⟩ := hrel
      have HO20 := Lib.hid ho20e
      clear ho20e
      by_cases hlt : k < rs.length
      · have i1 : (k : Int) < (rs.length : Int) := by omega
        have i0 : (0 : Int) ≤ (k : Int) := by omega
        have hlt2 : k < x.Ops.length := by rw [← HLN.out]; exact hlt
        obtain ⟨g2, off2, rfl, hgg2⟩ := h8'.adC (by omega)
        have e1 : codO.rd wr g2 (off2 + k * 41) = some rs[k] := (h8'.fr0 hf20).rd k hlt
        have hin : OpIn Wc rs[k] x.Ops[k] := h9.at_ k hlt hlt2
        have ed : x.Ops[k].Data = rs[k].Data := by rw [hin.eq]; rfl
        have ht : (x.Ops.take (k + 1)).map (·.Data) = (x.Ops.take k).map (·.Data) ++ [rs[k].Data] := by rw [List.take_succ_eq_append_getElem hlt2, List.map_append, ← ed]; rfl
        clear hin ed
        generalize rs[k] = q at e1 ht
        have HT2 := Lib.hid ht
        have b20 : o20.length ≤ 3000000 := by omega
        have HJL := Lib.hid hlt
        have HB20 := Lib.hid hb20
        have fA : Fr noB wr (wr.alloc (codO.o q)) := (Fr.refl noB wr).alloc _
        have hx : codO.rd (wr.alloc (codO.o q)) wr.heap.size 0 = some q := Cod.rd_new' wr q
        clear ht hlt hlt2 hb20
        go_upto_region 21 with fail
        replace hf20 := hf20.step0 fA
        replace ho20 := own_new0 ho20 fA
        clear fA e1
        generalize wr.alloc (codO.o q) = W2 at hx ho20 hf20 ⊢
        generalize wr.heap.size = N2 at hx ⊢
        have k5 := (opAt hx).data
        have fr : Fr noB W2 (W2.alloc (rowo [q.Data])) := (Fr.refl noB W2).alloc _
        have sl : Sl (W2.alloc (rowo [q.Data])) (some ⟨W2.heap.size, 0, none⟩) (codI.row [q.Data]) := sl_new W2 [q.Data]
        replace hf20 := hf20.step0 fr
        replace ho20 := own_new0 ho20 fr
        go_wp2_with (at_builtin; refine wpList_appC' etI Wc _ rfl _ _ rfl A20 o20.length c20 o20 rfl rfl ho20 (some ⟨W2.heap.size, 0, none⟩) 1 1 [q.Data] rfl sl rfl (by simp; omega) hf20.size ?_; intro A21 c21 w21 hc21 hm21 ho21 hg21 hA21; obtain ⟨o21, ho21e⟩ : ∃ r' : List ID, r' = o20 ++ [q.Data] := ⟨_, rfl⟩; rw [← ho21e] at ho21 ⊢; have HO21 := Lib.hid ho21e; clear ho21e)
        have hf21 := hf20.ownI ho20 hg21
        have hjl := HJL.out
        go_roundg (rs.length - (k + 1))
        case measure => omega
        case rel =>
          exact ⟨k + 1, A21, c21, o21, rfl, by simp, rfl, by omega, by rw [HO21.out, HO20.out]; simp only; rw [HT2.out, List.append_assoc], by have := HB20.out; rw [HO21.out]; simp; omega, ho21, hf21⟩
      · have hkn : k = rs.length := by omega
        subst hkn
        have i1 : ¬ (rs.length : Int) < (rs.length : Int) := by omega
        have HRAW : Hid (linkL l = o20) := Lib.hid (by
          have h1 := HO20.out
          simp only [HLN.out, List.take_length] at h1
          rw [HL2.out, h1, HO6.out])
        have hrb : o20.length ≤ 100000000 := by omega
        have g5 : Fr noB w wr := f3.step0 hf20
        have ho5 : OwnC codI w wr A20 c20 o20 := own_base ho20 f3.size
        clear hb20 ho20 HO20 hlt hk ho6
        generalize o20 = raw at HRAW hrb ho5 ⊢
        generalize A20 = A5 at ho5 ⊢
        generalize c20 = c5 at ho5 ⊢
        have G5 := Lib.hid g5
        go_upto_region 27 with (go_at_call 54; refine (hsort w _ A5 c5 _ raw rfl ho5 (by omega)).mono ?_; rintro e w6 ⟨rfl, ho6, f6⟩)
        have g6 : Fr noB w w6 := G5.out.step f6 (fun b hb => .inl (own_lt ho5 b hb).1)
        have hlen := sortI_len raw
        have hcap6 : (sortI raw).length ≤ c5 := own_cap ho6
        have hR6 : sortI raw = [] ∨ ∃ g, A5 = some ⟨g, 0, none⟩ ∧ RwI w6 g (sortI raw) := by
          by_cases h0 : sortI raw = []
          · exact .inl h0
          · exact .inr (RwI.own ho6 h0)
        have hlt6 : ∀ b, A5.map (·.block) = some b → w.heap.size ≤ b := fun b hb => (own_lt ho6 b hb).1
        have HCM2 : Hid (Calls Tryz.prog 56 #[.slice A5 raw.length c5] w6 fun e w' => e = .returned (.slice A5 (cpt (sortI raw)).length c5) ∧ Sl w' A5 (idc (cpt (sortI raw))) ∧ Fr (fun b => A5.map (·.block) = some b) w6 w') :=
          Lib.hid ((compact_any w6 A5 c5 raw.length (sortI raw) hlen hR6 hcap6 (by rw [hlen]; omega)).mono fun e w' h => h)
        have HLK := Lib.hid (show linksO l = dropZ (cpt (sortI raw)) by unfold linksO; rw [HRAW.out])
        have hcl : (cpt (sortI raw)).length ≤ c5 := Nat.le_trans (cptN_len _ _) hcap6
        clear hR6 hcap6 hlen
        generalize cpt (sortI raw) = cp at HLK hcl HCM2
        go_upto_region 28 with (go_at_call 56; refine HCM2.out.mono ?_; rintro e w7 ⟨rfl, hsl7, f7⟩)
        have g7 : Fr noB w w7 := g6.step f7 (fun b hb => .inl (hlt6 b hb))
        clear HCM2 f7 f6 hlt6 ho6
        cases cp with
        | nil =>
          have HLK2 := Lib.hid (show linksO l = [] by rw [HLK.out]; rfl)
          clear hcl
          simp only [List.length_nil]
          go_wp2_with fail
          go_ret
          unfold LkTo
          rw [HLK2.out]
          exact ⟨A5, c5, rfl, Sl.nil _ _, g7, Nat.zero_le _⟩
        | cons y t =>
          obtain ⟨g, off, rfl⟩ := hsl7.ad (by simp)
          have r1 : rdI w7 g off = some y := by
            have h1 := hsl7.id 0 (by simp)
            rw [Nat.zero_mul, Nat.add_zero] at h1
            exact h1
          have HT : Hid (t.length + 1 ≤ c5) := Lib.hid (by simpa using hcl)
          have hsl8 : Sl w7 (some ⟨g, off + 32, none⟩) (idc t) := by
            intro hne
            obtain ⟨g', off', e, hg, hc⟩ := hsl7 (by intro h0; have := idc_length (y :: t); rw [h0] at this; simp at this)
            injection e with e
            injection e with e1 e2
            subst e1; subst e2
            refine ⟨g, off + 32, rfl, hg, fun j v hv => ?_⟩
            have := hc (32 + j) v (by
              have e3 : idc (y :: t) = idc [y] ++ idc t := by rw [← idc_app]; rfl
              rw [e3, List.getElem?_append_right (by rw [idc_length]; simp), idc_length]
              simpa using hv)
            rwa [← Nat.add_assoc] at this
          have hm : ∃ m, m = (y :: t).length := ⟨_, rfl⟩
          obtain ⟨m, hm⟩ := hm
          rw [← hm]
          have hm1 : m = t.length + 1 := by rw [hm]; rfl
          have i1 : (0 : Int) < (m : Int) := by omega
          have i2 : (1 : Int) ≤ (m : Int) := by omega
          have i3 : m ≤ c5 := by have := HT.out; omega
          have i4 : (m : Int) ≤ (c5 : Int) := by omega
          have i5 : (1 : Int) ≤ (c5 : Int) := by omega
          have HM := Lib.hid hm1
          have HSL := Lib.hid hsl7
          clear hm hm1 hcl hsl7
          by_cases hy : y = zID
          · have HLK2 := Lib.hid (show linksO l = t by rw [HLK.out, dropZ_cons, if_pos hy])
            go_wp2_with fail
            all_goals
              go_ret
              unfold LkTo
              rw [HLK2.out]
              have h1 := HM.out
              have h2 := HT.out
              have h3 : m - 1 = t.length := by omega
              first
              | exact ⟨some ⟨g, off + 32, none⟩, c5 - 1, by rw [← h3]; rfl, hsl8, g7, by omega⟩
              | (have h4 : t.length = 0 := by omega
                 obtain rfl : t = [] := List.length_eq_zero_iff.1 h4
                 exact ⟨some ⟨g, off, none⟩, 0, by rw [← h3]; rfl, Sl.nil _ _, g7, by simp⟩)
          · have HLK2 := Lib.hid (show linksO l = y :: t by rw [HLK.out, dropZ_cons, if_neg hy])
            go_wp2_with fail
            go_ret
            unfold LkTo
            rw [HLK2.out]
            have h1 := HM.out
            have h2 := HT.out
            have h3 : m = (y :: t).length := by rw [List.length_cons]; exact h1
            exact ⟨some ⟨g, off, none⟩, c5, by rw [← h3]; rfl, HSL.out, g7, by rw [← h3]; exact i3⟩
theorem links_any (hsort : SortOK) (w : World) (A : Option Addr) (c n : Nat) (l : List UInt8) (hn : l.length = n) (hs : Sl w A (bv l)) (hcap : l.length ≤ c) (hb : l.length ≤ 140737488355328) : Calls Tryz.prog 21 #[.slice A n c] w (LkTo w l) := by
  cases h2 : rdDr l with
  | some x => exact links_dr hsort w A c n l hn hs hcap hb x h2
  | none =>
    cases h3 : rdCh l with
    | some x => exact links_ch hsort w A c n l hn hs hcap hb x h3
    | none =>
      cases h4 : rdLb l with
      | some x => exact links_lb hsort w A c n l hn hs hcap hb x h4
      | none => exact links_no hsort w A c n l hn hs hcap hb h2 h3 h4
end Go.Proofs.YtejkfekpgbmdiaaGreat
