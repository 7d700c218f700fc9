/- Plain: what a commit names, once each, rising, none zero; as many as the set that is made one by one. Walk of the law ObjLinks. -/
import Derived.Test.YtejkfekpgbmdiaaGreatLawOne
import Derived.Test.YtejkfekpgbmdiaaGreatLawBlobs
import Derived.Test.YtejkfekpgbmdiaaGreatMapS
import Derived.Test.YtejkfekpgbmdiaaGreatRefC
namespace Go.Proofs.YtejkfekpgbmdiaaGreat
set_option linter.unusedVariables false

theorem nd_le' {α : Type} [DecidableEq α] : ∀ (l m : List α), l.Nodup → (∀ x ∈ l, x ∈ m) → l.length ≤ m.length
  | [], m, _, _ => by simp
  | x :: l, m, hn, hm => by
    rw [List.nodup_cons] at hn
    have hx := hm x (by simp)
    have := nd_le' l (m.erase x) hn.2 (fun y hy => (List.mem_erase_of_ne (fun e => hn.1 (by rw [← e]; exact hy))).2 (hm y (by simp [hy])))
    rw [List.length_erase_of_mem hx] at this
    have := List.length_pos_of_mem hx
    simp only [List.length_cons]
    omega
theorem nd_eq {α : Type} [DecidableEq α] {l m : List α} (hl : l.Nodup) (hm : m.Nodup) (h : ∀ x, x ∈ l ↔ x ∈ m) : l.length = m.length :=
  Nat.le_antisymm (nd_le' l m hl fun x hx => (h x).1 hx) (nd_le' m l hm fun x hx => (h x).2 hx)
theorem cmpI_lt_ne {x y : ID} (h : cmpI x y < 0) : x ≠ y := by
  rintro rfl
  rw [cmpI_self] at h
  omega
theorem cpt_spec (l : List ID) (hs : ∀ i j (hi : i < l.length) (hj : j < l.length), i < j → ¬ cmpI l[j] l[i] < 0) : ∀ j, j ≤ l.length →
    (∀ x, x ∈ cptN l j ↔ x ∈ l.take j) ∧ (cptN l j).Pairwise (fun a b => cmpI a b < 0) ∧ (∀ (h : 0 < j) (h' : j - 1 < l.length), ∀ y ∈ cptN l j, y = l[j - 1] ∨ cmpI y l[j - 1] < 0)
  | 0, _ => ⟨by simp [cptN], by simp [cptN], fun h => absurd h (by omega)⟩
  | j + 1, hj => by
    obtain ⟨h1, h2, h3⟩ := cpt_spec l hs j (by omega)
    have hjl : j < l.length := by omega
    have hmem : ∀ x, x ∈ l.take (j + 1) ↔ x ∈ l.take j ∨ x = l[j] := fun x => by
      rw [List.take_succ_eq_append_getElem hjl, List.mem_append, List.mem_singleton]
    by_cases he : ∃ h0 : 0 < j, l[j] = l[j - 1]'(by omega)
    · obtain ⟨h0, he⟩ := he
      rw [cptN_same hjl h0 he]
      refine ⟨fun x => ?_, h2, fun _ _ y hy => ?_⟩
      · rw [hmem, h1]
        constructor
        · exact .inl
        · rintro (h | rfl)
          · exact h
          · rw [he]
            exact List.mem_take_iff_getElem.2 ⟨j - 1, by omega, rfl⟩
      · have := h3 h0 (by omega) y hy
        simp only [Nat.add_sub_cancel]
        rw [he]; exact this
    · have hne : j = 0 ∨ ∃ (h1 : 0 < j), l[j] ≠ l[j - 1]'(by omega) := by
        rcases Nat.eq_zero_or_pos j with h | h
        · exact .inl h
        · exact .inr ⟨h, fun e => he ⟨h, e⟩⟩
      rw [cptN_new hjl hne]
      have hlt : ∀ y ∈ cptN l j, cmpI y l[j] < 0 := fun y hy => by
        rcases hne with rfl | ⟨h0, hn⟩
        · simp [cptN] at hy
        · have hlj : cmpI (l[j - 1]'(by omega)) l[j] < 0 := by
            have a1 := hs (j - 1) j (by omega) hjl (by omega)
            have a2 := cmpI_anti (l[j - 1]'(by omega)) l[j]
            have a3 : cmpI (l[j - 1]'(by omega)) l[j] ≠ 0 := fun e => hn ((cmpI_eq _ _).1 e).symm
            omega
          rcases h3 h0 (by omega) y hy with rfl | h
          · exact hlj
          · exact cmpI_trans h hlj
      refine ⟨fun x => ?_, ?_, fun _ _ y hy => ?_⟩
      · rw [List.mem_append, List.mem_singleton, hmem, h1]
      · rw [List.pairwise_append]
        exact ⟨h2, by simp, fun a ha b hb => by rw [List.mem_singleton.1 hb]; exact hlt a ha⟩
      · simp only [Nat.add_sub_cancel]
        rcases List.mem_append.1 hy with h | h
        · exact .inr (hlt y h)
        · exact .inl (List.mem_singleton.1 h)
theorem sortI_le (l : List ID) : ∀ i j (hi : i < (sortI l).length) (hj : j < (sortI l).length), i < j → ¬ cmpI (sortI l)[j] (sortI l)[i] < 0 := by
  have hp : (sortI l).Pairwise fun a b => (!decide (cmpI b a < 0)) = true := by
    refine List.pairwise_mergeSort (fun a b c h1 h2 => ?_) (fun a b => ?_) l
    · simp only [Bool.not_eq_true', decide_eq_false_iff_not] at h1 h2 ⊢
      intro h3
      have a1 := cmpI_anti a b
      have a2 := cmpI_anti b c
      rcases Int.lt_or_eq_of_le (show cmpI a b ≤ 0 by omega) with h | h
      · rcases Int.lt_or_eq_of_le (show cmpI b c ≤ 0 by omega) with h' | h'
        · have := cmpI_trans h h'
          have := cmpI_anti a c
          omega
        · have := (cmpI_eq _ _).1 h'
          subst this
          exact h1 h3
      · have := (cmpI_eq _ _).1 h
        subst this
        exact h2 h3
    · have := cmpI_anti a b
      simp only [Bool.or_eq_true, Bool.not_eq_true', decide_eq_false_iff_not]
      omega
  intro i j hi hj hij
  have := List.pairwise_iff_getElem.1 hp i j hi hj hij
  simpa using this
/-- the names of a commit: rising, each once, none zero -/
structure LkQ (L raw : List ID) : Prop where
  mem : ∀ x, x ∈ L ↔ x ∈ raw ∧ x ≠ zID
  up : L.Pairwise (fun a b => cmpI a b < 0)
theorem zID_le (x : ID) : ¬ cmpI x zID < 0 := by
  have h : ∀ (a : List UInt8) (n : Nat), a.length = n → ¬ Lib.compareBytes a (List.replicate n 0) < 0 := by
    intro a
    induction a with
    | nil => intro n hn; subst hn; simp [Lib.compareBytes]
    | cons b a ih =>
      intro n hn
      subst hn
      have := ih a.length rfl
      simp only [List.length_cons, List.replicate_succ, Lib.compareBytes]
      have hb : ¬ b < 0 := by
        rw [UInt8.lt_iff_toNat_lt]; simp
      split
      · rename_i h; exact absurd h hb
      · split
        · omega
        · exact this
  exact h x.1 32 x.2
theorem linksQ {b : List UInt8} : LkQ (linksO b) (linkL b) := by
  unfold linksO
  obtain ⟨h1, h2, _⟩ := cpt_spec (sortI (linkL b)) (sortI_le _) _ (Nat.le_refl _)
  have hm : ∀ x, x ∈ cpt (sortI (linkL b)) ↔ x ∈ linkL b := fun x => by
    unfold cpt
    rw [h1, List.take_length]
    exact (List.mergeSort_perm (linkL b) _).mem_iff
  have hu : (cpt (sortI (linkL b))).Pairwise (fun a b => cmpI a b < 0) := h2
  generalize cpt (sortI (linkL b)) = l at hm hu
  cases l with
  | nil => exact ⟨fun x => by rw [dropZ_nil]; have := hm x; simp at this ⊢; intro h; exact absurd h this, hu⟩
  | cons y l =>
    rw [List.pairwise_cons] at hu
    rw [dropZ_cons]
    by_cases hy : y = zID
    · rw [if_pos hy]
      subst hy
      refine ⟨fun x => ?_, hu.2⟩
      rw [← hm x, List.mem_cons]
      constructor
      · intro h
        exact ⟨.inr h, fun e => cmpI_lt_ne (hu.1 x h) e.symm⟩
      · rintro ⟨h | h, hz⟩
        · exact absurd h hz
        · exact h
    · rw [if_neg hy]
      refine ⟨fun x => ?_, List.pairwise_cons.2 hu⟩
      rw [← hm x]
      refine ⟨fun h => ⟨h, ?_⟩, fun h => h.1⟩
      rintro rfl
      rcases List.mem_cons.1 h with h | h
      · exact hy h.symm
      · exact zID_le _ (hu.1 _ h)
/-- a list's new ones behind a set -/
def addS (l : List ID) (x : ID) : List ID := if x ∈ l then l else l ++ [x]
theorem addS_nd {l : List ID} (h : l.Nodup) (x : ID) : (addS l x).Nodup := by
  unfold addS
  split
  · exact h
  · rename_i hx
    rw [List.nodup_append]
    exact ⟨h, by simp, fun a ha b hb e => hx (by rw [List.mem_singleton.1 hb] at e; rw [← e]; exact ha)⟩
theorem addS_mem {l : List ID} {x y : ID} : y ∈ addS l x ↔ y ∈ l ∨ y = x := by
  unfold addS
  split
  · rename_i h
    exact ⟨.inl, fun h' => h'.elim id fun e => by rw [e]; exact h⟩
  · simp
/-- the set of the law: the Tree, the parents, the datas of edits -/
def wantP (c : Chg) (k : Nat) : List ID := (c.Parents.take k).foldl addS (addS [] c.Tree)
def wantO (c : Chg) (k : Nat) : List ID := (c.Ops.take k).foldl (fun l o => if o.Kind = 2 then addS l o.Data else l) (wantP c c.Parents.length)
theorem foldl_addS_mem {l : List ID} : ∀ {s : List ID} {y : ID}, y ∈ l.foldl addS s ↔ y ∈ s ∨ y ∈ l := by
  induction l with
  | nil => simp
  | cons x l ih => intro s y; rw [List.foldl_cons, ih, addS_mem, List.mem_cons]; exact or_assoc
theorem foldl_addS_nd {l : List ID} : ∀ {s : List ID}, s.Nodup → (l.foldl addS s).Nodup := by
  induction l with
  | nil => intro s h; exact h
  | cons x l ih => intro s h; rw [List.foldl_cons]; exact ih (addS_nd h x)
theorem foldl_ops_mem {l : List Opn} : ∀ {s : List ID} {y : ID}, y ∈ l.foldl (fun l o => if o.Kind = 2 then addS l o.Data else l) s ↔ y ∈ s ∨ ∃ o ∈ l, o.Kind = 2 ∧ y = o.Data := by
  induction l with
  | nil => simp
  | cons x l ih =>
    intro s y
    rw [List.foldl_cons, ih]
    by_cases h : x.Kind = 2
    · rw [if_pos h, addS_mem]
      constructor
      · rintro ((h1 | h1) | ⟨o, h1, h2⟩)
        · exact .inl h1
        · exact .inr ⟨x, by simp, h, h1⟩
        · exact .inr ⟨o, by simp [h1], h2⟩
      · rintro (h1 | ⟨o, h1, h2, h3⟩)
        · exact .inl (.inl h1)
        · rcases List.mem_cons.1 h1 with rfl | h1
          · exact .inl (.inr h3)
          · exact .inr ⟨o, h1, h2, h3⟩
    · rw [if_neg h]
      constructor
      · rintro (h1 | ⟨o, h1, h2⟩)
        · exact .inl h1
        · exact .inr ⟨o, by simp [h1], h2⟩
      · rintro (h1 | ⟨o, h1, h2, h3⟩)
        · exact .inl h1
        · rcases List.mem_cons.1 h1 with rfl | h1
          · exact absurd h2 h
          · exact .inr ⟨o, h1, h2, h3⟩
theorem foldl_ops_nd {l : List Opn} : ∀ {s : List ID}, s.Nodup → (l.foldl (fun l o => if o.Kind = 2 then addS l o.Data else l) s).Nodup := by
  induction l with
  | nil => intro s h; exact h
  | cons x l ih =>
    intro s h
    rw [List.foldl_cons]
    split
    · exact ih (addS_nd h _)
    · exact ih h
theorem wantP_succ (c : Chg) (k : Nat) (h : k < c.Parents.length) : wantP c (k + 1) = addS (wantP c k) c.Parents[k] := by
  unfold wantP
  rw [List.take_succ_eq_append_getElem h, List.foldl_append]; rfl
theorem wantO_succ (c : Chg) (k : Nat) (h : k < c.Ops.length) : wantO c (k + 1) = if (c.Ops[k]).Kind = 2 then addS (wantO c k) (c.Ops[k]).Data else wantO c k := by
  unfold wantO
  rw [List.take_succ_eq_append_getElem h, List.foldl_append]; rfl
theorem wantO_len (c : Chg) (k : Nat) : (wantO c k).length ≤ 1 + c.Parents.length + k := by
  have h1 : ∀ (l : List ID) (s : List ID), (l.foldl addS s).length ≤ s.length + l.length := by
    intro l
    induction l with
    | nil => simp
    | cons x l ih =>
      intro s
      rw [List.foldl_cons]
      have := ih (addS s x)
      have h2 : (addS s x).length ≤ s.length + 1 := by unfold addS; split <;> simp
      simp only [List.length_cons]; omega
  have h2 : ∀ (l : List Opn) (s : List ID), (l.foldl (fun l o => if o.Kind = 2 then addS l o.Data else l) s).length ≤ s.length + l.length := by
    intro l
    induction l with
    | nil => simp
    | cons x l ih =>
      intro s
      rw [List.foldl_cons]
      have h2 : (addS s x.Data).length ≤ s.length + 1 := by unfold addS; split <;> simp
      simp only [List.length_cons]
      split
      · have := ih (addS s x.Data); omega
      · have := ih s; omega
  unfold wantO wantP
  have a1 := h2 (c.Ops.take k) ((c.Parents.take c.Parents.length).foldl addS (addS [] c.Tree))
  have a2 := h1 (c.Parents.take c.Parents.length) (addS [] c.Tree)
  have a3 : (addS [] c.Tree).length = 1 := rfl
  have a4 : (c.Ops.take k).length ≤ k := by rw [List.length_take]; omega
  have a5 : (c.Parents.take c.Parents.length).length = c.Parents.length := by rw [List.take_length]
  omega
/-- the law, in plain words -/
theorem links_law {c : Chg} (h : rightCh c = true) {b : List UInt8} (hb : rdCh b = some c) :
    (∀ x ∈ linksO b, x ∈ wantO c c.Ops.length ∧ x ≠ zID) ∧ (linksO b).Pairwise (fun a b => cmpI a b = -1) ∧ (linksO b).length = (wantO c c.Ops.length).length := by
  obtain ⟨hm, hu⟩ := linksQ (b := b)
  rw [(kind_ch hb).2] at hm
  have hw : ∀ y, y ∈ wantO c c.Ops.length ↔ (y ∈ c.Parents ∨ y = c.Tree) ∨ ∃ o ∈ c.Ops, o.Kind = 2 ∧ y = o.Data := fun y => by
    unfold wantO wantP
    rw [foldl_ops_mem, foldl_addS_mem, List.take_length, List.take_length, addS_mem]
    simp only [List.not_mem_nil, false_or]
    constructor
    · rintro ((h | h) | h)
      · exact .inl (.inr h)
      · exact .inl (.inl h)
      · exact .inr h
    · rintro ((h | h) | h)
      · exact .inl (.inr h)
      · exact .inl (.inl h)
      · exact .inr h
  simp only [rightCh, Bool.and_eq_true, decide_eq_true_eq, List.all_eq_true] at h
  obtain ⟨⟨⟨⟨⟨⟨⟨⟨⟨p1, p2⟩, p3⟩, p4⟩, p5⟩, p6⟩, p7⟩, p8⟩, p9⟩, p10⟩ := h
  have hz : ∀ o ∈ c.Ops, (o.Kind = 2 ∧ o.Data ≠ zID) ∨ (o.Kind ≠ 2 ∧ o.Data = zID) := fun o ho => by
    have hg := (p9 o ho).1.1
    unfold goodOp at hg
    simp only [Bool.and_eq_true] at hg
    by_cases h1 : o.Kind = 1
    · rw [if_pos h1] at hg
      unfold moveOk at hg
      simp only [Bool.and_eq_true, decide_eq_true_eq] at hg
      exact .inr ⟨by omega, hg.2.1.2⟩
    · rw [if_neg h1] at hg
      by_cases h2 : o.Kind = 2
      · rw [if_pos h2] at hg
        unfold editOk at hg
        simp only [Bool.and_eq_true, decide_eq_true_eq] at hg
        exact .inl ⟨h2, hg.2.1.1.1.2⟩
      · rw [if_neg h2] at hg; simp at hg
  have hall : ∀ y, y ∈ linksO b ↔ y ∈ wantO c c.Ops.length := fun y => by
    rw [hm, hw]
    simp only [List.mem_append, List.mem_singleton, List.mem_map]
    constructor
    · rintro ⟨h | ⟨o, ho, rfl⟩, hne⟩
      · exact .inl h
      · rcases hz o ho with ⟨h1, _⟩ | ⟨_, h1⟩
        · exact .inr ⟨o, ho, h1, rfl⟩
        · exact absurd h1 hne
    · rintro ((h | rfl) | ⟨o, ho, h1, rfl⟩)
      · exact ⟨.inl (.inl h), by have := p2 y h; simpa using this⟩
      · exact ⟨.inl (.inr rfl), p6⟩
      · refine ⟨.inr ⟨o, ho, rfl⟩, ?_⟩
        rcases hz o ho with ⟨_, h2⟩ | ⟨h2, _⟩
        · exact h2
        · exact absurd h1 h2
  refine ⟨fun x hx => ⟨(hall x).1 hx, ((hm x).1 hx).2⟩, hu.imp fun h => ?_, nd_eq (hu.imp fun h => cmpI_lt_ne h) ?_ hall⟩
  · rename_i a b'
    rcases cb_range a.1 b'.1 with h' | h' | h'
    · exact h'
    · have : cmpI a b' = 0 := h'
      omega
    · have : cmpI a b' = 1 := h'
      omega
  · unfold wantO wantP
    exact foldl_ops_nd (foldl_addS_nd (addS_nd List.nodup_nil _))
end Go.Proofs.YtejkfekpgbmdiaaGreat
namespace Go.Proofs.YtejkfekpgbmdiaaGreat
open Go.RowKit
set_option linter.unusedVariables false
set_option linter.unusedSimpArgs false

theorem links_bl {l : List UInt8} : linksO (1 :: l) = [] := by
  have h : linkL (1 :: l) = [] := (kind_no (dr_none rfl (by decide)) (ch_none rfl (by decide)) (lb_none rfl (by decide))).2
  unfold linksO sortI
  rw [h, List.mergeSort_nil]; rfl
theorem links_len (w : World) (A : Option Addr) (c n : Nat) (l : List UInt8) (hn : l.length = n) (hs : Sl w A (bv l)) (hcap : l.length ≤ c) (hb : l.length ≤ 140737488355328) (L : List ID) (hL : linksO l = L) :
    Calls Tryz.prog 21 #[.slice A n c] w fun e w' => ∃ B d, e = .returned (.slice B L.length d) ∧ Sl w' B (idc L) ∧ Fr noB w w' := by
  subst hL
  refine (links_all w A c n l hn hs hcap hb).mono ?_
  rintro e w' ⟨B, d, rfl, h1, h2, _⟩
  exact ⟨B, d, rfl, h1, h2⟩
theorem Fr.newM {W w w' : World} {g : Nat} (f : Fr noB W w) (f' : Fr (oneB g) w w') (h : W.heap.size ≤ g) : Fr noB W w' := f.step f' (fun b hb => .inl (by simp only [oneB] at hb; omega))
def LkS (W : World) (M n : Nat) (f : Nat → List ID) (gk : Nat) (iv : Value) (wr : World) : Prop :=
  ∃ k : Nat, iv = .int .i64 (k : Int) ∧ gk = n - k ∧ k ≤ n ∧ Fr noB W wr ∧ mpI wr M = some (setV (f k))
def LkR3 (W : World) (n gk : Nat) (iv : Value) (wr : World) : Prop := ∃ k : Nat, iv = .int .i64 (k : Int) ∧ gk = n - k ∧ k ≤ n ∧ Fr noB W wr
theorem look_in {l : List ID} {x : ID} (h : x ∈ l) : (look (setV l) x).getD (.bool false) = .bool true := by rw [look_setV, if_pos h]; rfl
set_option maxRecDepth 100000 in
set_option maxHeartbeats 4000000 in
theorem linksL_any (w : World) (r : CgW) (rs : List OpW) (c : Chg) (hcg : CgIn w r rs c) (A0 : Option Addr) (c0 : Nat) (l : List UInt8) (hs : Sl w A0 (bv l)) (hc : l.length ≤ c0) (hb : l.length ≤ 140737488355328) :
    Calls Tryz.prog 8 #[.agg (codC.A r), .slice A0 l.length c0] w (Gives w (.bool true)) := by
  have f0 : Fr noB w (w.alloc (.cells (codC.A r) 47)) := (Fr.refl noB w).alloc _
  have q1 := Cod.rd_new (C := codC) w 47 r
  replace hcg := hcg.fr f0
  replace hs := hs.fr0 f0
  go_enter Tryz.func8, Tryz.ntmps8
  go_upto_region 1 with fail
  generalize w.alloc (.cells (codC.A r) 47) = W0 at f0 q1 hcg hs ⊢
  generalize w.heap.size = P at q1 ⊢
  go_upto_region 3 with (go_at_call 9; refine (alive_any _).mono ?_; rintro e w1 ⟨rfl, f1⟩)
  replace q1 := Cod.rd_fr0 q1 f1
  replace hcg := hcg.fr f1
  replace hs := hs.fr0 f1
  replace f0 := f0.step0 f1
  clear f1
  by_cases hl : l.length ≤ 4096
  · obtain ⟨bX, hX⟩ : ∃ z : List UInt8, z = 1 :: l := ⟨_, rfl⟩
    have HP := Lib.hid (show putBl l = some bX by unfold putBl; rw [if_pos hl, hX])
    have HR := Lib.hid (show linksO bX = [] by rw [hX]; exact links_bl)
    have hlX : bX.length ≤ 5000 := by rw [hX]; simp; omega
    clear hX
    go_upto_region 4 with (go_at_call 10; refine (putBlob_any _ A0 c0 l.length l rfl hs hb).mono ?_; intro e w2 hp; obtain ⟨A2, c2, rfl, hs2, f2, hc2, _⟩ := hp.some (b := bX) (n := bX.length) HP.out rfl; clear hp)
    go_upto_region 6 with (go_at_call 21; refine (links_len _ A2 c2 bX.length bX rfl hs2 hc2 (by omega) [] HR.out).mono ?_; rintro e w3 ⟨A3, c3, rfl, _, f3⟩)
    replace f2 := f2.step0 f3
    clear f3 hs2 hc2
    replace q1 := Cod.rd_fr0 q1 f2
    replace hcg := hcg.fr f2
    replace f0 := f0.step0 f2
    clear f2 hs
    by_cases hrc : rightCh c = true
    · have CP := Lib.hid (show putCh c = some (chB c) by unfold putCh; rw [if_pos hrc])
      have CL := Lib.hid (chB_len hrc).2
      have LW := links_law hrc (Rt.ch hrc)
      generalize chB c = bC at CP CL LW
      obtain ⟨L, hL⟩ : ∃ L, L = linksO bC := ⟨_, rfl⟩
      rw [← hL] at LW
      have HWL := Lib.hid (show L.length ≤ 1 + c.Parents.length + c.Ops.length by rw [LW.2.2]; exact wantO_len c _)
      have HL := Lib.hid hL
      have HW := Lib.hid LW
      clear hrc hL LW
      go_upto_region 7 with (go_at_call 23; refine (putChange_any _ r rs c hcg).mono ?_; intro e w7 hp; obtain ⟨A7, c7, rfl, hs7, f7, hc7, _⟩ := hp.some (b := bC) (n := bC.length) CP.out rfl; clear hp)
      replace q1 := Cod.rd_fr0 q1 f7
      replace hcg := hcg.fr f7
      replace f0 := f0.step0 f7
      have fm : Fr noB w7 (w7.alloc (.map #[] 0)) := (Fr.refl noB w7).alloc _
      have et := (cgAt q1).tree
      have et2 := (cgAt (Cod.rd_fr0 q1 fm)).tree
      obtain ⟨hp1, hp2, hp3, hp4⟩ := mput_all Tryz.underlying67 (mpI_new w7) r.Tree (.bool true)
      go_upto_region 10 with fail
      have htr := hcg.tree
      rw [show putL ([] : List (ID × Value)) r.Tree (.bool true) = setV (wantP c 0) by rw [← htr]; exact put_setV [] c.Tree] at hp2
      have f9 : Fr noB w7 (mput 67 (w7.alloc (.map #[] 0)) w7.heap.size r.Tree (.bool true)) := fm.newM hp3 (Nat.le_refl _)
      have hMl : w7.heap.size < (mput 67 (w7.alloc (.map #[] 0)) w7.heap.size r.Tree (.bool true)).heap.size := by rw [hp4]; simp
      clear hp1 hp3 hp4 et et2 fm htr
      generalize mput 67 (w7.alloc (.map #[] 0)) w7.heap.size r.Tree (.bool true) = w9 at hp2 f9 hMl ⊢
      obtain ⟨M, hM⟩ : ∃ M, M = w7.heap.size := ⟨_, rfl⟩
      rw [← hM] at hp2 hMl ⊢
      have HMM := Lib.hid hM
      clear hM
      have e0 := (cgAt (Cod.rd_fr0 q1 f9)).parents
      have hps := hcg.ps
      have hpl := hcg.pl
      have hos := hcg.os
      have hol := hcg.ol
      have hops := hcg.ops
      have HQ1 := Lib.hid q1
      have HOL := Lib.hid hol
      have HPB := Lib.hid hcg.pb
      have HOB := Lib.hid hcg.ob
      have hpb : c.Parents.length ≤ 140737488355328 := hcg.pb
      rw [← hpl] at e0
      generalize r.PA = PA at hps e0
      clear hpl hol hcg q1
      go_wp2_with fail
      go_loopg [46] c.Parents.length (fun gk iv wr => LkS w7 M c.Parents.length (wantP c) gk iv wr)
      case atStart => exact ⟨0, rfl, by omega, by omega, f9, hp2⟩
      case round =>
        obtain ⟨k, rfl, rfl, hk, hf, hm⟩ := hrel
        by_cases hlt : k < c.Parents.length
        · have i1 : (k : Int) < (c.Parents.length : Int) := by omega
          have i0 : (0 : Int) ≤ (k : Int) := by omega
          obtain ⟨g, off, rfl⟩ := hps.ad (by omega)
          have e1 : rdI wr g (off + k * 32) = some c.Parents[k] := (hps.fr0 hf).id k hlt
          have hW := Lib.hid (wantP_succ c k hlt)
          generalize c.Parents[k] = x at e1 hW
          obtain ⟨pf1, pf2, pf3⟩ := putB_fr (bxI_new wr zID) x
          have fa : Fr noB wr (putB (wr.alloc (ido zID)) wr.heap.size x) := ((Fr.refl noB wr).alloc (ido zID)).step1 pf1 (Nat.le_refl _)
          have hx : rdI (putB (wr.alloc (ido zID)) wr.heap.size x) wr.heap.size 0 = some x := bxI_rd pf3
          replace hm := mpI_fr hm fa (by simp [noB])
          have HLT := Lib.hid hlt
          clear hlt
          go_upto_region 13 with fail
          replace hf := hf.step0 fa
          clear fa e1 pf1 pf2 pf3
          generalize putB (wr.alloc (ido zID)) wr.heap.size x = W1 at hf hx hm ⊢
          generalize wr.heap.size = N at hx ⊢
          obtain ⟨_, hm2, hm3, hm4⟩ := mput_all Tryz.underlying67 hm x (.bool true)
          have hf2 := hf.newM hm3 (by rw [HMM.out]; exact Nat.le_refl _)
          rw [put_setV] at hm2
          have hlt := HLT.out
          clear hm3 hm4
          go_wp2_with fail
          go_roundg (c.Parents.length - (k + 1))
          case measure => omega
          case rel => exact ⟨k + 1, by simp, rfl, by omega, hf2, by rw [hm2, hW.out]; rfl⟩
        · have hkl : k = c.Parents.length := by omega
          subst hkl
          have i1 : ¬ (c.Parents.length : Int) < (c.Parents.length : Int) := by omega
          have e3 := (cgAt (Cod.rd_fr0 HQ1.out hf)).ops
          have hob := HOB.out
          rw [← HOL.out] at e3
          generalize r.OA = OA at hos e3
          clear hps hlt hk
          go_wp2_with fail
          go_loopg [56] rs.length (fun gk iv wr => LkS w7 M rs.length (wantO c) gk iv wr)
          case atStart => exact ⟨0, rfl, by omega, by omega, hf, hm⟩
          case round =>
            obtain ⟨k, rfl, rfl, hk, hf, hm⟩ := hrel
            by_cases hlt : k < rs.length
            · have i1 : (k : Int) < (rs.length : Int) := by omega
              have i0 : (0 : Int) ≤ (k : Int) := by omega
              obtain ⟨g, off, rfl, _⟩ := hos.adC (by omega)
              have e1 : codO.rd wr g (off + k * 41) = some rs[k] := (hos.fr0 hf).rd k hlt
              have hlt2 : k < c.Ops.length := by rw [← hops.len]; exact hlt
              have hop := (hops.at_ k hlt hlt2).eq
              have hW := wantO_succ c k hlt2
              generalize rs[k] = q at e1 hop
              rw [hop] at hW
              have HW2 := Lib.hid (show wantO c (k + 1) = if q.Kind = 2 then addS (wantO c k) q.Data else wantO c k from hW)
              clear hop hW hlt2
              have fa : Fr noB wr (wr.alloc (codO.o q)) := (Fr.refl noB wr).alloc _
              have hx := opAt (Cod.rd_new' (C := codO) wr q)
              have kx := hx.kind
              have dx := hx.data
              replace hm := mpI_fr hm fa (by simp [noB])
              have HLT := Lib.hid hlt
              clear hlt hx
              go_upto_region 18 with fail
              replace hf := hf.step0 fa
              clear fa e1
              generalize wr.alloc (codO.o q) = W1 at hf kx dx hm ⊢
              generalize wr.heap.size = N at kx dx ⊢
              have hlt := HLT.out
              by_cases hq : q.Kind = 2
              · obtain ⟨_, hm2, hm3, hm4⟩ := mput_all Tryz.underlying67 hm q.Data (.bool true)
                have hf2 := hf.newM hm3 (by rw [HMM.out]; exact Nat.le_refl _)
                rw [put_setV] at hm2
                have hq2 : (q.Kind == 2) = true := by rw [hq]; rfl
                have HQ := Lib.hid hq
                clear hm3 hm4 hq
                go_wp2_with fail
                go_roundg (rs.length - (k + 1))
                case measure => omega
                case rel => exact ⟨k + 1, by simp, rfl, by omega, hf2, by rw [hm2, HW2.out, if_pos HQ.out]; rfl⟩
              · have hq2 : (q.Kind == 2) = false := by rw [beq_eq_false_iff_ne]; exact hq
                have HQ := Lib.hid hq
                clear hq
                go_wp2_with fail
                go_roundg (rs.length - (k + 1))
                case measure => omega
                case rel => exact ⟨k + 1, by simp, rfl, by omega, hf, by rw [hm, HW2.out, if_neg HQ.out]⟩
            · have hkl : k = rs.length := by omega
              subst hkl
              have i1 : ¬ (rs.length : Int) < (rs.length : Int) := by omega
              have hol2 : rs.length = c.Ops.length := hops.len
              rw [hol2] at hm
              have HO2 := Lib.hid hol2
              clear hos hlt hk hol2
              generalize wantO c c.Ops.length = want at hm HW
              go_upto_region 22 with (go_at_call 21; refine (links_len _ A7 c7 bC.length bC rfl (hs7.fr0 hf) hc7 (by have := CL.out; omega) L HL.out.symm).mono ?_; rintro e w9 ⟨A9, c9, rfl, hs9, f10⟩)
              replace hm := mpI_fr hm f10 (by simp [noB])
              replace hf := hf.step0 f10
              have hF := f0.step0 hf
              have hLB : L.length ≤ 1000000000000000 := by
                have h1 := HWL.out
                have h2 := HPB.out
                have h3 := HOB.out
                have h4 := HO2.out
                omega
              clear hf f10 f9 hs7 e3 hMl
              go_wp2_with fail
              go_loopg [71] L.length (fun gk iv wr => LkR3 w9 L.length gk iv wr)
              case atStart => exact ⟨0, rfl, by omega, by omega, Fr.refl _ _⟩
              case round =>
                obtain ⟨k, rfl, rfl, hk, hfr⟩ := hrel
                by_cases hlt : k < L.length
                · have i1 : (k : Int) < (L.length : Int) := by omega
                  have i0 : (0 : Int) ≤ (k : Int) := by omega
                  obtain ⟨g, off, rfl, hg⟩ := (show Sl w9 A9 (codI.row L) from hs9).addr (by omega)
                  have e1 : rdI wr g (off + k * 32) = some L[k] := (hs9.fr0 hfr).id k hlt
                  have hmem := HW.out.1 L[k] (List.getElem_mem hlt)
                  have hpw : ∀ h : 0 < k, cmpI (L[k - 1]'(by omega)) L[k] = -1 := fun h => List.pairwise_iff_getElem.1 HW.out.2.1 (k - 1) k (by omega) hlt (by omega)
                  have hp1 : ∀ W, Fr noB w9 W → ∀ h : 0 < k, rdI W g (off + (k - 1) * 32) = some (L[k - 1]'(by omega)) := fun W f h => (hs9.fr0 f).id (k - 1) (by omega)
                  have HPW := Lib.hid hpw
                  have HP1 := Lib.hid hp1
                  generalize L[k] = x at e1 hmem HPW
                  obtain ⟨pf1, pf2, pf3⟩ := putB_fr (bxI_new wr zID) x
                  have fa : Fr noB wr (putB (wr.alloc (ido zID)) wr.heap.size x) := ((Fr.refl noB wr).alloc (ido zID)).step1 pf1 (Nat.le_refl _)
                  have hx : rdI (putB (wr.alloc (ido zID)) wr.heap.size x) wr.heap.size 0 = some x := bxI_rd pf3
                  have hN := rdI_lt hx
                  have HLT := Lib.hid hlt
                  clear hpw hp1
                  go_upto_region 25 with fail
                  replace hfr := hfr.step0 fa
                  clear fa e1 pf1 pf2 pf3
                  generalize putB (wr.alloc (ido zID)) wr.heap.size x = W1 at hfr hx hN ⊢
                  generalize wr.heap.size = N at hx hN ⊢
                  have HM : ∀ wS, Fr noB W1 wS → mpI wS M = some (setV want) := fun wS hS => mpI_fr (mpI_fr hm hfr (by simp [noB])) hS (by simp [noB])
                  have hlk := look_in hmem.1
                  have hxz : ¬ x = zID := hmem.2
                  have hgW : g < W1.heap.size := Nat.lt_of_lt_of_le hg hfr.size
                  clear hmem
                  by_cases hk0 : k = 0
                  · have j0 : ¬ (0 : Int) < (k : Int) := by omega
                    have j9 : ¬ 0 < k := by omega
                    have K0 := Lib.hid hk0
                    clear hk0
                    refine wp_region_fr (by kernel_rfl) (by kernel_rfl) ?_
                    refine wpQ_take (v := ?qv552) (by rfl) (fun wS hS => ?qh552) ?qk552
                    case qh552 => obtain ⟨L1, L2, L3, L4, L5, L6⟩ := Fr.same hS; go_simp; try with_reducible rfl
                    try simp only [List.getElem_toArray, List.getElem_cons_zero, List.getElem_cons_succ, Act.put, List.setIfInBounds_toArray, List.set_cons_zero, List.set_cons_succ]
                    refine wpQ_take (v := ?qv555) (by rfl) (fun wS hS => ?qh555) ?qk555
                    case qh555 => obtain ⟨L1, L2, L3, L4, L5, L6⟩ := Fr.same hS; go_simp; try with_reducible rfl
                    try simp only [List.getElem_toArray, List.getElem_cons_zero, List.getElem_cons_succ, Act.put, List.setIfInBounds_toArray, List.set_cons_zero, List.set_cons_succ]
                    refine wpQ_take (v := ?qv558) (by rfl) (fun wS hS => ?qh558) ?qk558
                    case qh558 => obtain ⟨L1, L2, L3, L4, L5, L6⟩ := Fr.same hS; go_simp; try with_reducible rfl
                    try simp only [List.getElem_toArray, List.getElem_cons_zero, List.getElem_cons_succ, Act.put, List.setIfInBounds_toArray, List.set_cons_zero, List.set_cons_succ]
                    refine wpQ_take (v := ?qv561) (by rfl) (fun wS hS => ?qh561) ?qk561
                    case qh561 => obtain ⟨L1, L2, L3, L4, L5, L6⟩ := Fr.same hS; go_simp; try with_reducible rfl
                    try simp only [List.getElem_toArray, List.getElem_cons_zero, List.getElem_cons_succ, Act.put, List.setIfInBounds_toArray, List.set_cons_zero, List.set_cons_succ]
                    refine wpQ_take (v := ?qv564) (by rfl) (fun wS hS => ?qh564) ?qk564
                    case qh564 => obtain ⟨L1, L2, L3, L4, L5, L6⟩ := Fr.same hS; go_simp; try with_reducible rfl
                    try simp only [List.getElem_toArray, List.getElem_cons_zero, List.getElem_cons_succ, Act.put, List.setIfInBounds_toArray, List.set_cons_zero, List.set_cons_succ]
                    refine wpQ_take (v := ?qv567) (by rfl) (fun wS hS => ?qh567) ?qk567
                    case qh567 => obtain ⟨L1, L2, L3, L4, L5, L6⟩ := Fr.same hS; go_simp; try with_reducible rfl
                    try simp only [List.getElem_toArray, List.getElem_cons_zero, List.getElem_cons_succ, Act.put, List.setIfInBounds_toArray, List.set_cons_zero, List.set_cons_succ]
                    refine wpQ_take (v := ?qv570) (by rfl) (fun wS hS => ?qh570) ?qk570
                    case qh570 => obtain ⟨L1, L2, L3, L4, L5, L6⟩ := Fr.same hS; go_simp; try with_reducible rfl
                    try simp only [List.getElem_toArray, List.getElem_cons_zero, List.getElem_cons_succ, Act.put, List.setIfInBounds_toArray, List.set_cons_zero, List.set_cons_succ]
                    refine wpQ_take (v := ?qv573) (by rfl) (fun wS hS => ?qh573) ?qk573
                    case qh573 => obtain ⟨L1, L2, L3, L4, L5, L6⟩ := Fr.same hS; go_simp; try with_reducible rfl
                    try simp only [List.getElem_toArray, List.getElem_cons_zero, List.getElem_cons_succ, Act.put, List.setIfInBounds_toArray, List.set_cons_zero, List.set_cons_succ]
                    refine wpQ_take (v := ?qv576) (by rfl) (fun wS hS => ?qh576) ?qk576
                    case qh576 => obtain ⟨L1, L2, L3, L4, L5, L6⟩ := Fr.same hS; go_simp; try with_reducible rfl
                    try simp only [List.getElem_toArray, List.getElem_cons_zero, List.getElem_cons_succ, Act.put, List.setIfInBounds_toArray, List.set_cons_zero, List.set_cons_succ]
                    refine wpQ_take (v := ?qv579) (by rfl) (fun wS hS => ?qh579) ?qk579
                    case qh579 => obtain ⟨L1, L2, L3, L4, L5, L6⟩ := Fr.same hS; go_simp; try with_reducible rfl
                    try simp only [List.getElem_toArray, List.getElem_cons_zero, List.getElem_cons_succ, Act.put, List.setIfInBounds_toArray, List.set_cons_zero, List.set_cons_succ]
                    refine wpQ_take (v := ?qv582) (by rfl) (fun wS hS => ?qh582) ?qk582
                    case qh582 => obtain ⟨L1, L2, L3, L4, L5, L6⟩ := Fr.same hS; go_simp; try with_reducible rfl
                    try simp only [List.getElem_toArray, List.getElem_cons_zero, List.getElem_cons_succ, Act.put, List.setIfInBounds_toArray, List.set_cons_zero, List.set_cons_succ]
                    refine wpQ_take (v := ?qv585) (by rfl) (fun wS hS => ?qh585) ?qk585
                    case qh585 => obtain ⟨L1, L2, L3, L4, L5, L6⟩ := Fr.same hS; go_simp; try with_reducible rfl
                    try simp only [List.getElem_toArray, List.getElem_cons_zero, List.getElem_cons_succ, Act.put, List.setIfInBounds_toArray, List.set_cons_zero, List.set_cons_succ]
                    refine wpQ_take (v := ?qv588) (by rfl) (fun wS hS => ?qh588) ?qk588
                    case qh588 => obtain ⟨L1, L2, L3, L4, L5, L6⟩ := Fr.same hS; go_simp; try with_reducible rfl
                    try simp only [List.getElem_toArray, List.getElem_cons_zero, List.getElem_cons_succ, Act.put, List.setIfInBounds_toArray, List.set_cons_zero, List.set_cons_succ]
                    refine wpQ_off (by rfl) ?_
                    try simp only [List.getElem_toArray, List.getElem_cons_zero, List.getElem_cons_succ, Act.put, List.setIfInBounds_toArray, List.set_cons_zero, List.set_cons_succ]
                    refine wpQ_off (by rfl) ?_
                    try simp only [List.getElem_toArray, List.getElem_cons_zero, List.getElem_cons_succ, Act.put, List.setIfInBounds_toArray, List.set_cons_zero, List.set_cons_succ]
                    refine wpQ_off (by rfl) ?_
                    try simp only [List.getElem_toArray, List.getElem_cons_zero, List.getElem_cons_succ, Act.put, List.setIfInBounds_toArray, List.set_cons_zero, List.set_cons_succ]
                    refine wpQ_off (by rfl) ?_
                    try simp only [List.getElem_toArray, List.getElem_cons_zero, List.getElem_cons_succ, Act.put, List.setIfInBounds_toArray, List.set_cons_zero, List.set_cons_succ]
                    refine wpQ_off (by rfl) ?_
                    try simp only [List.getElem_toArray, List.getElem_cons_zero, List.getElem_cons_succ, Act.put, List.setIfInBounds_toArray, List.set_cons_zero, List.set_cons_succ]
                    refine wpQ_off (by rfl) ?_
                    try simp only [List.getElem_toArray, List.getElem_cons_zero, List.getElem_cons_succ, Act.put, List.setIfInBounds_toArray, List.set_cons_zero, List.set_cons_succ]
                    refine wpQ_off (by rfl) ?_
                    try simp only [List.getElem_toArray, List.getElem_cons_zero, List.getElem_cons_succ, Act.put, List.setIfInBounds_toArray, List.set_cons_zero, List.set_cons_succ]
                    refine wpQ_off (by rfl) ?_
                    try simp only [List.getElem_toArray, List.getElem_cons_zero, List.getElem_cons_succ, Act.put, List.setIfInBounds_toArray, List.set_cons_zero, List.set_cons_succ]
                    refine wpQ_take (v := ?qv607) (by rfl) (fun wS hS => ?qh607) ?qk607
                    case qh607 => obtain ⟨L1, L2, L3, L4, L5, L6⟩ := Fr.same hS; go_simp; try with_reducible rfl
                    try simp only [List.getElem_toArray, List.getElem_cons_zero, List.getElem_cons_succ, Act.put, List.setIfInBounds_toArray, List.set_cons_zero, List.set_cons_succ]
                    refine wpQ_take (v := ?qv610) (by rfl) (fun wS hS => ?qh610) ?qk610
                    case qh610 => obtain ⟨L1, L2, L3, L4, L5, L6⟩ := Fr.same hS; go_simp; try with_reducible rfl
                    try simp only [List.getElem_toArray, List.getElem_cons_zero, List.getElem_cons_succ, Act.put, List.setIfInBounds_toArray, List.set_cons_zero, List.set_cons_succ]
                    refine wpQ_nil ?_
                    intro w1 f1
                    go_wp2_with fail
                    have hlt := HLT.out
                    go_roundg (L.length - (k + 1))
                    case measure => omega
                    case rel => exact ⟨k + 1, by simp, rfl, by omega, hfr.step0 f1⟩
                  · have hk1 : 0 < k := by omega
                    have j0 : (0 : Int) < (k : Int) := by omega
                    have hc1 := HPW.out hk1
                    have e2 := HP1.out W1 hfr hk1
                    have q2 : k - 1 < L.length := by have := HLT.out; omega
                    have hcm : cmpI (L[k - 1]'q2) x = -1 := hc1
                    have m1 : IntKind.i64.wrap ((k : Int) - 1) = ((k - 1 : Nat) : Int) := by rw [IntKind.wrap_i64]; omega
                    generalize (L[k - 1]'q2) = p at e2 hcm
                    have C1 : ∀ w, Calls Tryz.prog 36 #[encI p, encI x] w (Gives w (.int .i64 (-1))) := fun w => by have := rcmp_any w p x; rw [hcm] at this; exact this
                    generalize hqe : k - 1 = q at m1 e2 q2
                    have j1 : (0 : Int) ≤ (q : Int) := by omega
                    have j2 : (q : Int) < (L.length : Int) := by omega
                    clear hqe hc1 hcm hk0
                    refine wp_region_fr (by kernel_rfl) (by kernel_rfl) ?_
                    refine wpQ_take (v := ?qv634) (by rfl) (fun wS hS => ?qh634) ?qk634
                    case qh634 => obtain ⟨L1, L2, L3, L4, L5, L6⟩ := Fr.same hS; go_simp; try with_reducible rfl
                    try simp only [List.getElem_toArray, List.getElem_cons_zero, List.getElem_cons_succ, Act.put, List.setIfInBounds_toArray, List.set_cons_zero, List.set_cons_succ]
                    refine wpQ_take (v := ?qv637) (by rfl) (fun wS hS => ?qh637) ?qk637
                    case qh637 => obtain ⟨L1, L2, L3, L4, L5, L6⟩ := Fr.same hS; go_simp; try with_reducible rfl
                    try simp only [List.getElem_toArray, List.getElem_cons_zero, List.getElem_cons_succ, Act.put, List.setIfInBounds_toArray, List.set_cons_zero, List.set_cons_succ]
                    refine wpQ_take (v := ?qv640) (by rfl) (fun wS hS => ?qh640) ?qk640
                    case qh640 => obtain ⟨L1, L2, L3, L4, L5, L6⟩ := Fr.same hS; go_simp; try with_reducible rfl
                    try simp only [List.getElem_toArray, List.getElem_cons_zero, List.getElem_cons_succ, Act.put, List.setIfInBounds_toArray, List.set_cons_zero, List.set_cons_succ]
                    refine wpQ_take (v := ?qv643) (by rfl) (fun wS hS => ?qh643) ?qk643
                    case qh643 => obtain ⟨L1, L2, L3, L4, L5, L6⟩ := Fr.same hS; go_simp; try with_reducible rfl
                    try simp only [List.getElem_toArray, List.getElem_cons_zero, List.getElem_cons_succ, Act.put, List.setIfInBounds_toArray, List.set_cons_zero, List.set_cons_succ]
                    refine wpQ_take (v := ?qv646) (by rfl) (fun wS hS => ?qh646) ?qk646
                    case qh646 => obtain ⟨L1, L2, L3, L4, L5, L6⟩ := Fr.same hS; go_simp; try with_reducible rfl
                    try simp only [List.getElem_toArray, List.getElem_cons_zero, List.getElem_cons_succ, Act.put, List.setIfInBounds_toArray, List.set_cons_zero, List.set_cons_succ]
                    refine wpQ_take (v := ?qv649) (by rfl) (fun wS hS => ?qh649) ?qk649
                    case qh649 => obtain ⟨L1, L2, L3, L4, L5, L6⟩ := Fr.same hS; go_simp; try with_reducible rfl
                    try simp only [List.getElem_toArray, List.getElem_cons_zero, List.getElem_cons_succ, Act.put, List.setIfInBounds_toArray, List.set_cons_zero, List.set_cons_succ]
                    refine wpQ_take (v := ?qv652) (by rfl) (fun wS hS => ?qh652) ?qk652
                    case qh652 => obtain ⟨L1, L2, L3, L4, L5, L6⟩ := Fr.same hS; go_simp; try with_reducible rfl
                    try simp only [List.getElem_toArray, List.getElem_cons_zero, List.getElem_cons_succ, Act.put, List.setIfInBounds_toArray, List.set_cons_zero, List.set_cons_succ]
                    refine wpQ_take (v := ?qv655) (by rfl) (fun wS hS => ?qh655) ?qk655
                    case qh655 => obtain ⟨L1, L2, L3, L4, L5, L6⟩ := Fr.same hS; go_simp; try with_reducible rfl
                    try simp only [List.getElem_toArray, List.getElem_cons_zero, List.getElem_cons_succ, Act.put, List.setIfInBounds_toArray, List.set_cons_zero, List.set_cons_succ]
                    refine wpQ_take (v := ?qv658) (by rfl) (fun wS hS => ?qh658) ?qk658
                    case qh658 => obtain ⟨L1, L2, L3, L4, L5, L6⟩ := Fr.same hS; go_simp; try with_reducible rfl
                    try simp only [List.getElem_toArray, List.getElem_cons_zero, List.getElem_cons_succ, Act.put, List.setIfInBounds_toArray, List.set_cons_zero, List.set_cons_succ]
                    refine wpQ_take (v := ?qv661) (by rfl) (fun wS hS => ?qh661) ?qk661
                    case qh661 => obtain ⟨L1, L2, L3, L4, L5, L6⟩ := Fr.same hS; go_simp; try with_reducible rfl
                    try simp only [List.getElem_toArray, List.getElem_cons_zero, List.getElem_cons_succ, Act.put, List.setIfInBounds_toArray, List.set_cons_zero, List.set_cons_succ]
                    refine wpQ_take (v := ?qv664) (by rfl) (fun wS hS => ?qh664) ?qk664
                    case qh664 => obtain ⟨L1, L2, L3, L4, L5, L6⟩ := Fr.same hS; go_simp; try with_reducible rfl
                    try simp only [List.getElem_toArray, List.getElem_cons_zero, List.getElem_cons_succ, Act.put, List.setIfInBounds_toArray, List.set_cons_zero, List.set_cons_succ]
                    refine wpQ_take (v := ?qv667) (by rfl) (fun wS hS => ?qh667) ?qk667
                    case qh667 => obtain ⟨L1, L2, L3, L4, L5, L6⟩ := Fr.same hS; go_simp; try with_reducible rfl
                    try simp only [List.getElem_toArray, List.getElem_cons_zero, List.getElem_cons_succ, Act.put, List.setIfInBounds_toArray, List.set_cons_zero, List.set_cons_succ]
                    refine wpQ_take (v := ?qv670) (by rfl) (fun wS hS => ?qh670) ?qk670
                    case qh670 => obtain ⟨L1, L2, L3, L4, L5, L6⟩ := Fr.same hS; go_simp; try with_reducible rfl
                    try simp only [List.getElem_toArray, List.getElem_cons_zero, List.getElem_cons_succ, Act.put, List.setIfInBounds_toArray, List.set_cons_zero, List.set_cons_succ]
                    refine wpQ_take (v := ?qv673) (by rfl) (fun wS hS => ?qh673) ?qk673
                    case qh673 => obtain ⟨L1, L2, L3, L4, L5, L6⟩ := Fr.same hS; go_simp; try with_reducible rfl
                    try simp only [List.getElem_toArray, List.getElem_cons_zero, List.getElem_cons_succ, Act.put, List.setIfInBounds_toArray, List.set_cons_zero, List.set_cons_succ]
                    refine wpQ_take (v := ?qv676) (by rfl) (fun wS hS => ?qh676) ?qk676
                    case qh676 => obtain ⟨L1, L2, L3, L4, L5, L6⟩ := Fr.same hS; go_simp; try with_reducible rfl
                    try simp only [List.getElem_toArray, List.getElem_cons_zero, List.getElem_cons_succ, Act.put, List.setIfInBounds_toArray, List.set_cons_zero, List.set_cons_succ]
                    refine wpQ_take (v := ?qv679) (by rfl) (fun wS hS => ?qh679) ?qk679
                    case qh679 => obtain ⟨L1, L2, L3, L4, L5, L6⟩ := Fr.same hS; go_simp; try with_reducible rfl
                    try simp only [List.getElem_toArray, List.getElem_cons_zero, List.getElem_cons_succ, Act.put, List.setIfInBounds_toArray, List.set_cons_zero, List.set_cons_succ]
                    refine wpQ_take (v := ?qv682) (by rfl) (fun wS hS => ?qh682) ?qk682
                    case qh682 => obtain ⟨L1, L2, L3, L4, L5, L6⟩ := Fr.same hS; go_simp; try with_reducible rfl
                    try simp only [List.getElem_toArray, List.getElem_cons_zero, List.getElem_cons_succ, Act.put, List.setIfInBounds_toArray, List.set_cons_zero, List.set_cons_succ]
                    refine wpQ_take (v := ?qv685) (by rfl) (fun wS hS => ?qh685) ?qk685
                    case qh685 => obtain ⟨L1, L2, L3, L4, L5, L6⟩ := Fr.same hS; go_simp; try with_reducible rfl
                    try simp only [List.getElem_toArray, List.getElem_cons_zero, List.getElem_cons_succ, Act.put, List.setIfInBounds_toArray, List.set_cons_zero, List.set_cons_succ]
                    refine wpQ_take (v := ?qv688) (by rfl) (fun wS hS => ?qh688) ?qk688
                    case qh688 => obtain ⟨L1, L2, L3, L4, L5, L6⟩ := Fr.same hS; go_simp; try with_reducible rfl
                    try simp only [List.getElem_toArray, List.getElem_cons_zero, List.getElem_cons_succ, Act.put, List.setIfInBounds_toArray, List.set_cons_zero, List.set_cons_succ]
                    refine wpQ_call (by rfl) (fun wS hS => ⟨_, _, ?qh691, Calls.fr hS (C1 _)⟩) ?qk691
                    case qh691 => obtain ⟨L1, L2, L3, L4, L5, L6⟩ := Fr.same hS; go_simp; try with_reducible rfl
                    try simp only [List.getElem_toArray, List.getElem_cons_zero, List.getElem_cons_succ, Act.put, List.setIfInBounds_toArray, List.set_cons_zero, List.set_cons_succ]
                    refine wpQ_take (v := ?qv694) (by rfl) (fun wS hS => ?qh694) ?qk694
                    case qh694 => obtain ⟨L1, L2, L3, L4, L5, L6⟩ := Fr.same hS; go_simp; try with_reducible rfl
                    try simp only [List.getElem_toArray, List.getElem_cons_zero, List.getElem_cons_succ, Act.put, List.setIfInBounds_toArray, List.set_cons_zero, List.set_cons_succ]
                    refine wpQ_take (v := ?qv697) (by rfl) (fun wS hS => ?qh697) ?qk697
                    case qh697 => obtain ⟨L1, L2, L3, L4, L5, L6⟩ := Fr.same hS; go_simp; try with_reducible rfl
                    try simp only [List.getElem_toArray, List.getElem_cons_zero, List.getElem_cons_succ, Act.put, List.setIfInBounds_toArray, List.set_cons_zero, List.set_cons_succ]
                    refine wpQ_take (v := ?qv700) (by rfl) (fun wS hS => ?qh700) ?qk700
                    case qh700 => obtain ⟨L1, L2, L3, L4, L5, L6⟩ := Fr.same hS; go_simp; try with_reducible rfl
                    try simp only [List.getElem_toArray, List.getElem_cons_zero, List.getElem_cons_succ, Act.put, List.setIfInBounds_toArray, List.set_cons_zero, List.set_cons_succ]
                    refine wpQ_nil ?_
                    intro w1 f1
                    go_wp2_with fail
                    have hlt := HLT.out
                    go_roundg (L.length - (k + 1))
                    case measure => omega
                    case rel => exact ⟨k + 1, by simp, rfl, by omega, hfr.step0 f1⟩
                · have hkl : k = L.length := by omega
                  subst hkl
                  have i1 : ¬ (L.length : Int) < (L.length : Int) := by omega
                  replace hm := mpI_fr hm hfr (by simp [noB])
                  have hll : (setV want).length = L.length := by rw [HW.out.2.2]; simp [setV]
                  clear hlt hk
                  generalize setV want = SV at hm hll
                  go_wp2_with fail
                  go_ret
                  exact ⟨by simp [hll], hF.step0 hfr⟩
    · have HP1 := Lib.hid (show putCh c = none by unfold putCh; rw [if_neg hrc])
      clear hrc
      go_wp2_with (go_at_call 23; refine (putChange_any _ r rs c hcg).mono ?_; intro e w7 hp; obtain ⟨A7, c7, rfl, f7⟩ := hp.no HP1.out; clear hp)
      go_ret
      exact ⟨rfl, f0.step0 f7⟩
  · have HP := Lib.hid (show putBl l = none by unfold putBl; rw [if_neg hl])
    go_upto_region 6 with (go_at_call 10; refine (putBlob_any _ A0 c0 l.length l rfl hs hb).mono ?_; intro e w2 hp; obtain ⟨A2, c2, rfl, f2⟩ := hp.no HP.out; clear hp)
    replace q1 := Cod.rd_fr0 q1 f2
    replace hcg := hcg.fr f2
    replace f0 := f0.step0 f2
    clear f2 hs
    by_cases hrc : rightCh c = true
    · have CP := Lib.hid (show putCh c = some (chB c) by unfold putCh; rw [if_pos hrc])
      have CL := Lib.hid (chB_len hrc).2
      have LW := links_law hrc (Rt.ch hrc)
      generalize chB c = bC at CP CL LW
      obtain ⟨L, hL⟩ : ∃ L, L = linksO bC := ⟨_, rfl⟩
      rw [← hL] at LW
      have HWL := Lib.hid (show L.length ≤ 1 + c.Parents.length + c.Ops.length by rw [LW.2.2]; exact wantO_len c _)
      have HL := Lib.hid hL
      have HW := Lib.hid LW
      clear hrc hL LW
      go_upto_region 7 with (go_at_call 23; refine (putChange_any _ r rs c hcg).mono ?_; intro e w7 hp; obtain ⟨A7, c7, rfl, hs7, f7, hc7, _⟩ := hp.some (b := bC) (n := bC.length) CP.out rfl; clear hp)
      replace q1 := Cod.rd_fr0 q1 f7
      replace hcg := hcg.fr f7
      replace f0 := f0.step0 f7
      have fm : Fr noB w7 (w7.alloc (.map #[] 0)) := (Fr.refl noB w7).alloc _
      have et := (cgAt q1).tree
      have et2 := (cgAt (Cod.rd_fr0 q1 fm)).tree
      obtain ⟨hp1, hp2, hp3, hp4⟩ := mput_all Tryz.underlying67 (mpI_new w7) r.Tree (.bool true)
      go_upto_region 10 with fail
      have htr := hcg.tree
      rw [show putL ([] : List (ID × Value)) r.Tree (.bool true) = setV (wantP c 0) by rw [← htr]; exact put_setV [] c.Tree] at hp2
      have f9 : Fr noB w7 (mput 67 (w7.alloc (.map #[] 0)) w7.heap.size r.Tree (.bool true)) := fm.newM hp3 (Nat.le_refl _)
      have hMl : w7.heap.size < (mput 67 (w7.alloc (.map #[] 0)) w7.heap.size r.Tree (.bool true)).heap.size := by rw [hp4]; simp
      clear hp1 hp3 hp4 et et2 fm htr
      generalize mput 67 (w7.alloc (.map #[] 0)) w7.heap.size r.Tree (.bool true) = w9 at hp2 f9 hMl ⊢
      obtain ⟨M, hM⟩ : ∃ M, M = w7.heap.size := ⟨_, rfl⟩
      rw [← hM] at hp2 hMl ⊢
      have HMM := Lib.hid hM
      clear hM
      have e0 := (cgAt (Cod.rd_fr0 q1 f9)).parents
      have hps := hcg.ps
      have hpl := hcg.pl
      have hos := hcg.os
      have hol := hcg.ol
      have hops := hcg.ops
      have HQ1 := Lib.hid q1
      have HOL := Lib.hid hol
      have HPB := Lib.hid hcg.pb
      have HOB := Lib.hid hcg.ob
      have hpb : c.Parents.length ≤ 140737488355328 := hcg.pb
      rw [← hpl] at e0
      generalize r.PA = PA at hps e0
      clear hpl hol hcg q1
      go_wp2_with fail
      go_loopg [46] c.Parents.length (fun gk iv wr => LkS w7 M c.Parents.length (wantP c) gk iv wr)
      case atStart => exact ⟨0, rfl, by omega, by omega, f9, hp2⟩
      case round =>
        obtain ⟨k, rfl, rfl, hk, hf, hm⟩ := hrel
        by_cases hlt : k < c.Parents.length
        · have i1 : (k : Int) < (c.Parents.length : Int) := by omega
          have i0 : (0 : Int) ≤ (k : Int) := by omega
          obtain ⟨g, off, rfl⟩ := hps.ad (by omega)
          have e1 : rdI wr g (off + k * 32) = some c.Parents[k] := (hps.fr0 hf).id k hlt
          have hW := Lib.hid (wantP_succ c k hlt)
          generalize c.Parents[k] = x at e1 hW
          obtain ⟨pf1, pf2, pf3⟩ := putB_fr (bxI_new wr zID) x
          have fa : Fr noB wr (putB (wr.alloc (ido zID)) wr.heap.size x) := ((Fr.refl noB wr).alloc (ido zID)).step1 pf1 (Nat.le_refl _)
          have hx : rdI (putB (wr.alloc (ido zID)) wr.heap.size x) wr.heap.size 0 = some x := bxI_rd pf3
          replace hm := mpI_fr hm fa (by simp [noB])
          have HLT := Lib.hid hlt
          clear hlt
          go_upto_region 13 with fail
          replace hf := hf.step0 fa
          clear fa e1 pf1 pf2 pf3
          generalize putB (wr.alloc (ido zID)) wr.heap.size x = W1 at hf hx hm ⊢
          generalize wr.heap.size = N at hx ⊢
          obtain ⟨_, hm2, hm3, hm4⟩ := mput_all Tryz.underlying67 hm x (.bool true)
          have hf2 := hf.newM hm3 (by rw [HMM.out]; exact Nat.le_refl _)
          rw [put_setV] at hm2
          have hlt := HLT.out
          clear hm3 hm4
          go_wp2_with fail
          go_roundg (c.Parents.length - (k + 1))
          case measure => omega
          case rel => exact ⟨k + 1, by simp, rfl, by omega, hf2, by rw [hm2, hW.out]; rfl⟩
        · have hkl : k = c.Parents.length := by omega
          subst hkl
          have i1 : ¬ (c.Parents.length : Int) < (c.Parents.length : Int) := by omega
          have e3 := (cgAt (Cod.rd_fr0 HQ1.out hf)).ops
          have hob := HOB.out
          rw [← HOL.out] at e3
          generalize r.OA = OA at hos e3
          clear hps hlt hk
          go_wp2_with fail
          go_loopg [56] rs.length (fun gk iv wr => LkS w7 M rs.length (wantO c) gk iv wr)
          case atStart => exact ⟨0, rfl, by omega, by omega, hf, hm⟩
          case round =>
            obtain ⟨k, rfl, rfl, hk, hf, hm⟩ := hrel
            by_cases hlt : k < rs.length
            · have i1 : (k : Int) < (rs.length : Int) := by omega
              have i0 : (0 : Int) ≤ (k : Int) := by omega
              obtain ⟨g, off, rfl, _⟩ := hos.adC (by omega)
              have e1 : codO.rd wr g (off + k * 41) = some rs[k] := (hos.fr0 hf).rd k hlt
              have hlt2 : k < c.Ops.length := by rw [← hops.len]; exact hlt
              have hop := (hops.at_ k hlt hlt2).eq
              have hW := wantO_succ c k hlt2
              generalize rs[k] = q at e1 hop
              rw [hop] at hW
              have HW2 := Lib.hid (show wantO c (k + 1) = if q.Kind = 2 then addS (wantO c k) q.Data else wantO c k from hW)
              clear hop hW hlt2
              have fa : Fr noB wr (wr.alloc (codO.o q)) := (Fr.refl noB wr).alloc _
              have hx := opAt (Cod.rd_new' (C := codO) wr q)
              have kx := hx.kind
              have dx := hx.data
              replace hm := mpI_fr hm fa (by simp [noB])
              have HLT := Lib.hid hlt
              clear hlt hx
              go_upto_region 18 with fail
              replace hf := hf.step0 fa
              clear fa e1
              generalize wr.alloc (codO.o q) = W1 at hf kx dx hm ⊢
              generalize wr.heap.size = N at kx dx ⊢
              have hlt := HLT.out
              by_cases hq : q.Kind = 2
              · obtain ⟨_, hm2, hm3, hm4⟩ := mput_all Tryz.underlying67 hm q.Data (.bool true)
                have hf2 := hf.newM hm3 (by rw [HMM.out]; exact Nat.le_refl _)
                rw [put_setV] at hm2
                have hq2 : (q.Kind == 2) = true := by rw [hq]; rfl
                have HQ := Lib.hid hq
                clear hm3 hm4 hq
                go_wp2_with fail
                go_roundg (rs.length - (k + 1))
                case measure => omega
                case rel => exact ⟨k + 1, by simp, rfl, by omega, hf2, by rw [hm2, HW2.out, if_pos HQ.out]; rfl⟩
              · have hq2 : (q.Kind == 2) = false := by rw [beq_eq_false_iff_ne]; exact hq
                have HQ := Lib.hid hq
                clear hq
                go_wp2_with fail
                go_roundg (rs.length - (k + 1))
                case measure => omega
                case rel => exact ⟨k + 1, by simp, rfl, by omega, hf, by rw [hm, HW2.out, if_neg HQ.out]⟩
            · have hkl : k = rs.length := by omega
              subst hkl
              have i1 : ¬ (rs.length : Int) < (rs.length : Int) := by omega
              have hol2 : rs.length = c.Ops.length := hops.len
              rw [hol2] at hm
              have HO2 := Lib.hid hol2
              clear hos hlt hk hol2
              generalize wantO c c.Ops.length = want at hm HW
              go_upto_region 22 with (go_at_call 21; refine (links_len _ A7 c7 bC.length bC rfl (hs7.fr0 hf) hc7 (by have := CL.out; omega) L HL.out.symm).mono ?_; rintro e w9 ⟨A9, c9, rfl, hs9, f10⟩)
              replace hm := mpI_fr hm f10 (by simp [noB])
              replace hf := hf.step0 f10
              have hF := f0.step0 hf
              have hLB : L.length ≤ 1000000000000000 := by
                have h1 := HWL.out
                have h2 := HPB.out
                have h3 := HOB.out
                have h4 := HO2.out
                omega
              clear hf f10 f9 hs7 e3 hMl
              go_wp2_with fail
              go_loopg [71] L.length (fun gk iv wr => LkR3 w9 L.length gk iv wr)
              case atStart => exact ⟨0, rfl, by omega, by omega, Fr.refl _ _⟩
              case round =>
                obtain ⟨k, rfl, rfl, hk, hfr⟩ := hrel
                by_cases hlt : k < L.length
                · have i1 : (k : Int) < (L.length : Int) := by omega
                  have i0 : (0 : Int) ≤ (k : Int) := by omega
                  obtain ⟨g, off, rfl, hg⟩ := (show Sl w9 A9 (codI.row L) from hs9).addr (by omega)
                  have e1 : rdI wr g (off + k * 32) = some L[k] := (hs9.fr0 hfr).id k hlt
                  have hmem := HW.out.1 L[k] (List.getElem_mem hlt)
                  have hpw : ∀ h : 0 < k, cmpI (L[k - 1]'(by omega)) L[k] = -1 := fun h => List.pairwise_iff_getElem.1 HW.out.2.1 (k - 1) k (by omega) hlt (by omega)
                  have hp1 : ∀ W, Fr noB w9 W → ∀ h : 0 < k, rdI W g (off + (k - 1) * 32) = some (L[k - 1]'(by omega)) := fun W f h => (hs9.fr0 f).id (k - 1) (by omega)
                  have HPW := Lib.hid hpw
                  have HP1 := Lib.hid hp1
                  generalize L[k] = x at e1 hmem HPW
                  obtain ⟨pf1, pf2, pf3⟩ := putB_fr (bxI_new wr zID) x
                  have fa : Fr noB wr (putB (wr.alloc (ido zID)) wr.heap.size x) := ((Fr.refl noB wr).alloc (ido zID)).step1 pf1 (Nat.le_refl _)
                  have hx : rdI (putB (wr.alloc (ido zID)) wr.heap.size x) wr.heap.size 0 = some x := bxI_rd pf3
                  have hN := rdI_lt hx
                  have HLT := Lib.hid hlt
                  clear hpw hp1
                  go_upto_region 25 with fail
                  replace hfr := hfr.step0 fa
                  clear fa e1 pf1 pf2 pf3
                  generalize putB (wr.alloc (ido zID)) wr.heap.size x = W1 at hfr hx hN ⊢
                  generalize wr.heap.size = N at hx hN ⊢
                  have HM : ∀ wS, Fr noB W1 wS → mpI wS M = some (setV want) := fun wS hS => mpI_fr (mpI_fr hm hfr (by simp [noB])) hS (by simp [noB])
                  have hlk := look_in hmem.1
                  have hxz : ¬ x = zID := hmem.2
                  have hgW : g < W1.heap.size := Nat.lt_of_lt_of_le hg hfr.size
                  clear hmem
                  by_cases hk0 : k = 0
                  · have j0 : ¬ (0 : Int) < (k : Int) := by omega
                    have j9 : ¬ 0 < k := by omega
                    have K0 := Lib.hid hk0
                    clear hk0
                    refine wp_region_fr (by kernel_rfl) (by kernel_rfl) ?_
                    refine wpQ_take (v := ?qv920) (by rfl) (fun wS hS => ?qh920) ?qk920
                    case qh920 => obtain ⟨L1, L2, L3, L4, L5, L6⟩ := Fr.same hS; go_simp; try with_reducible rfl
                    try simp only [List.getElem_toArray, List.getElem_cons_zero, List.getElem_cons_succ, Act.put, List.setIfInBounds_toArray, List.set_cons_zero, List.set_cons_succ]
                    refine wpQ_take (v := ?qv923) (by rfl) (fun wS hS => ?qh923) ?qk923
                    case qh923 => obtain ⟨L1, L2, L3, L4, L5, L6⟩ := Fr.same hS; go_simp; try with_reducible rfl
                    try simp only [List.getElem_toArray, List.getElem_cons_zero, List.getElem_cons_succ, Act.put, List.setIfInBounds_toArray, List.set_cons_zero, List.set_cons_succ]
                    refine wpQ_take (v := ?qv926) (by rfl) (fun wS hS => ?qh926) ?qk926
                    case qh926 => obtain ⟨L1, L2, L3, L4, L5, L6⟩ := Fr.same hS; go_simp; try with_reducible rfl
                    try simp only [List.getElem_toArray, List.getElem_cons_zero, List.getElem_cons_succ, Act.put, List.setIfInBounds_toArray, List.set_cons_zero, List.set_cons_succ]
                    refine wpQ_take (v := ?qv929) (by rfl) (fun wS hS => ?qh929) ?qk929
                    case qh929 => obtain ⟨L1, L2, L3, L4, L5, L6⟩ := Fr.same hS; go_simp; try with_reducible rfl
                    try simp only [List.getElem_toArray, List.getElem_cons_zero, List.getElem_cons_succ, Act.put, List.setIfInBounds_toArray, List.set_cons_zero, List.set_cons_succ]
                    refine wpQ_take (v := ?qv932) (by rfl) (fun wS hS => ?qh932) ?qk932
                    case qh932 => obtain ⟨L1, L2, L3, L4, L5, L6⟩ := Fr.same hS; go_simp; try with_reducible rfl
                    try simp only [List.getElem_toArray, List.getElem_cons_zero, List.getElem_cons_succ, Act.put, List.setIfInBounds_toArray, List.set_cons_zero, List.set_cons_succ]
                    refine wpQ_take (v := ?qv935) (by rfl) (fun wS hS => ?qh935) ?qk935
                    case qh935 => obtain ⟨L1, L2, L3, L4, L5, L6⟩ := Fr.same hS; go_simp; try with_reducible rfl
                    try simp only [List.getElem_toArray, List.getElem_cons_zero, List.getElem_cons_succ, Act.put, List.setIfInBounds_toArray, List.set_cons_zero, List.set_cons_succ]
                    refine wpQ_take (v := ?qv938) (by rfl) (fun wS hS => ?qh938) ?qk938
                    case qh938 => obtain ⟨L1, L2, L3, L4, L5, L6⟩ := Fr.same hS; go_simp; try with_reducible rfl
                    try simp only [List.getElem_toArray, List.getElem_cons_zero, List.getElem_cons_succ, Act.put, List.setIfInBounds_toArray, List.set_cons_zero, List.set_cons_succ]
                    refine wpQ_take (v := ?qv941) (by rfl) (fun wS hS => ?qh941) ?qk941
                    case qh941 => obtain ⟨L1, L2, L3, L4, L5, L6⟩ := Fr.same hS; go_simp; try with_reducible rfl
                    try simp only [List.getElem_toArray, List.getElem_cons_zero, List.getElem_cons_succ, Act.put, List.setIfInBounds_toArray, List.set_cons_zero, List.set_cons_succ]
                    refine wpQ_take (v := ?qv944) (by rfl) (fun wS hS => ?qh944) ?qk944
                    case qh944 => obtain ⟨L1, L2, L3, L4, L5, L6⟩ := Fr.same hS; go_simp; try with_reducible rfl
                    try simp only [List.getElem_toArray, List.getElem_cons_zero, List.getElem_cons_succ, Act.put, List.setIfInBounds_toArray, List.set_cons_zero, List.set_cons_succ]
                    refine wpQ_take (v := ?qv947) (by rfl) (fun wS hS => ?qh947) ?qk947
                    case qh947 => obtain ⟨L1, L2, L3, L4, L5, L6⟩ := Fr.same hS; go_simp; try with_reducible rfl
                    try simp only [List.getElem_toArray, List.getElem_cons_zero, List.getElem_cons_succ, Act.put, List.setIfInBounds_toArray, List.set_cons_zero, List.set_cons_succ]
                    refine wpQ_take (v := ?qv950) (by rfl) (fun wS hS => ?qh950) ?qk950
                    case qh950 => obtain ⟨L1, L2, L3, L4, L5, L6⟩ := Fr.same hS; go_simp; try with_reducible rfl
                    try simp only [List.getElem_toArray, List.getElem_cons_zero, List.getElem_cons_succ, Act.put, List.setIfInBounds_toArray, List.set_cons_zero, List.set_cons_succ]
                    refine wpQ_take (v := ?qv953) (by rfl) (fun wS hS => ?qh953) ?qk953
                    case qh953 => obtain ⟨L1, L2, L3, L4, L5, L6⟩ := Fr.same hS; go_simp; try with_reducible rfl
                    try simp only [List.getElem_toArray, List.getElem_cons_zero, List.getElem_cons_succ, Act.put, List.setIfInBounds_toArray, List.set_cons_zero, List.set_cons_succ]
                    refine wpQ_take (v := ?qv956) (by rfl) (fun wS hS => ?qh956) ?qk956
                    case qh956 => obtain ⟨L1, L2, L3, L4, L5, L6⟩ := Fr.same hS; go_simp; try with_reducible rfl
                    try simp only [List.getElem_toArray, List.getElem_cons_zero, List.getElem_cons_succ, Act.put, List.setIfInBounds_toArray, List.set_cons_zero, List.set_cons_succ]
                    refine wpQ_off (by rfl) ?_
                    try simp only [List.getElem_toArray, List.getElem_cons_zero, List.getElem_cons_succ, Act.put, List.setIfInBounds_toArray, List.set_cons_zero, List.set_cons_succ]
                    refine wpQ_off (by rfl) ?_
                    try simp only [List.getElem_toArray, List.getElem_cons_zero, List.getElem_cons_succ, Act.put, List.setIfInBounds_toArray, List.set_cons_zero, List.set_cons_succ]
                    refine wpQ_off (by rfl) ?_
                    try simp only [List.getElem_toArray, List.getElem_cons_zero, List.getElem_cons_succ, Act.put, List.setIfInBounds_toArray, List.set_cons_zero, List.set_cons_succ]
                    refine wpQ_off (by rfl) ?_
                    try simp only [List.getElem_toArray, List.getElem_cons_zero, List.getElem_cons_succ, Act.put, List.setIfInBounds_toArray, List.set_cons_zero, List.set_cons_succ]
                    refine wpQ_off (by rfl) ?_
                    try simp only [List.getElem_toArray, List.getElem_cons_zero, List.getElem_cons_succ, Act.put, List.setIfInBounds_toArray, List.set_cons_zero, List.set_cons_succ]
                    refine wpQ_off (by rfl) ?_
                    try simp only [List.getElem_toArray, List.getElem_cons_zero, List.getElem_cons_succ, Act.put, List.setIfInBounds_toArray, List.set_cons_zero, List.set_cons_succ]
                    refine wpQ_off (by rfl) ?_
                    try simp only [List.getElem_toArray, List.getElem_cons_zero, List.getElem_cons_succ, Act.put, List.setIfInBounds_toArray, List.set_cons_zero, List.set_cons_succ]
                    refine wpQ_off (by rfl) ?_
                    try simp only [List.getElem_toArray, List.getElem_cons_zero, List.getElem_cons_succ, Act.put, List.setIfInBounds_toArray, List.set_cons_zero, List.set_cons_succ]
                    refine wpQ_take (v := ?qv975) (by rfl) (fun wS hS => ?qh975) ?qk975
                    case qh975 => obtain ⟨L1, L2, L3, L4, L5, L6⟩ := Fr.same hS; go_simp; try with_reducible rfl
                    try simp only [List.getElem_toArray, List.getElem_cons_zero, List.getElem_cons_succ, Act.put, List.setIfInBounds_toArray, List.set_cons_zero, List.set_cons_succ]
                    refine wpQ_take (v := ?qv978) (by rfl) (fun wS hS => ?qh978) ?qk978
                    case qh978 => obtain ⟨L1, L2, L3, L4, L5, L6⟩ := Fr.same hS; go_simp; try with_reducible rfl
                    try simp only [List.getElem_toArray, List.getElem_cons_zero, List.getElem_cons_succ, Act.put, List.setIfInBounds_toArray, List.set_cons_zero, List.set_cons_succ]
                    refine wpQ_nil ?_
                    intro w1 f1
                    go_wp2_with fail
                    have hlt := HLT.out
                    go_roundg (L.length - (k + 1))
                    case measure => omega
                    case rel => exact ⟨k + 1, by simp, rfl, by omega, hfr.step0 f1⟩
                  · have hk1 : 0 < k := by omega
                    have j0 : (0 : Int) < (k : Int) := by omega
                    have hc1 := HPW.out hk1
                    have e2 := HP1.out W1 hfr hk1
                    have q2 : k - 1 < L.length := by have := HLT.out; omega
                    have hcm : cmpI (L[k - 1]'q2) x = -1 := hc1
                    have m1 : IntKind.i64.wrap ((k : Int) - 1) = ((k - 1 : Nat) : Int) := by rw [IntKind.wrap_i64]; omega
                    generalize (L[k - 1]'q2) = p at e2 hcm
                    have C1 : ∀ w, Calls Tryz.prog 36 #[encI p, encI x] w (Gives w (.int .i64 (-1))) := fun w => by have := rcmp_any w p x; rw [hcm] at this; exact this
                    generalize hqe : k - 1 = q at m1 e2 q2
                    have j1 : (0 : Int) ≤ (q : Int) := by omega
                    have j2 : (q : Int) < (L.length : Int) := by omega
                    clear hqe hc1 hcm hk0
                    refine wp_region_fr (by kernel_rfl) (by kernel_rfl) ?_
                    refine wpQ_take (v := ?qv1002) (by rfl) (fun wS hS => ?qh1002) ?qk1002
                    case qh1002 => obtain ⟨L1, L2, L3, L4, L5, L6⟩ := Fr.same hS; go_simp; try with_reducible rfl
                    try simp only [List.getElem_toArray, List.getElem_cons_zero, List.getElem_cons_succ, Act.put, List.setIfInBounds_toArray, List.set_cons_zero, List.set_cons_succ]
                    refine wpQ_take (v := ?qv1005) (by rfl) (fun wS hS => ?qh1005) ?qk1005
                    case qh1005 => obtain ⟨L1, L2, L3, L4, L5, L6⟩ := Fr.same hS; go_simp; try with_reducible rfl
                    try simp only [List.getElem_toArray, List.getElem_cons_zero, List.getElem_cons_succ, Act.put, List.setIfInBounds_toArray, List.set_cons_zero, List.set_cons_succ]
                    refine wpQ_take (v := ?qv1008) (by rfl) (fun wS hS => ?qh1008) ?qk1008
                    case qh1008 => obtain ⟨L1, L2, L3, L4, L5, L6⟩ := Fr.same hS; go_simp; try with_reducible rfl
                    try simp only [List.getElem_toArray, List.getElem_cons_zero, List.getElem_cons_succ, Act.put, List.setIfInBounds_toArray, List.set_cons_zero, List.set_cons_succ]
                    refine wpQ_take (v := ?qv1011) (by rfl) (fun wS hS => ?qh1011) ?qk1011
                    case qh1011 => obtain ⟨L1, L2, L3, L4, L5, L6⟩ := Fr.same hS; go_simp; try with_reducible rfl
                    try simp only [List.getElem_toArray, List.getElem_cons_zero, List.getElem_cons_succ, Act.put, List.setIfInBounds_toArray, List.set_cons_zero, List.set_cons_succ]
                    refine wpQ_take (v := ?qv1014) (by rfl) (fun wS hS => ?qh1014) ?qk1014
                    case qh1014 => obtain ⟨L1, L2, L3, L4, L5, L6⟩ := Fr.same hS; go_simp; try with_reducible rfl
                    try simp only [List.getElem_toArray, List.getElem_cons_zero, List.getElem_cons_succ, Act.put, List.setIfInBounds_toArray, List.set_cons_zero, List.set_cons_succ]
                    refine wpQ_take (v := ?qv1017) (by rfl) (fun wS hS => ?qh1017) ?qk1017
                    case qh1017 => obtain ⟨L1, L2, L3, L4, L5, L6⟩ := Fr.same hS; go_simp; try with_reducible rfl
                    try simp only [List.getElem_toArray, List.getElem_cons_zero, List.getElem_cons_succ, Act.put, List.setIfInBounds_toArray, List.set_cons_zero, List.set_cons_succ]
                    refine wpQ_take (v := ?qv1020) (by rfl) (fun wS hS => ?qh1020) ?qk1020
                    case qh1020 => obtain ⟨L1, L2, L3, L4, L5, L6⟩ := Fr.same hS; go_simp; try with_reducible rfl
                    try simp only [List.getElem_toArray, List.getElem_cons_zero, List.getElem_cons_succ, Act.put, List.setIfInBounds_toArray, List.set_cons_zero, List.set_cons_succ]
                    refine wpQ_take (v := ?qv1023) (by rfl) (fun wS hS => ?qh1023) ?qk1023
                    case qh1023 => obtain ⟨L1, L2, L3, L4, L5, L6⟩ := Fr.same hS; go_simp; try with_reducible rfl
                    try simp only [List.getElem_toArray, List.getElem_cons_zero, List.getElem_cons_succ, Act.put, List.setIfInBounds_toArray, List.set_cons_zero, List.set_cons_succ]
                    refine wpQ_take (v := ?qv1026) (by rfl) (fun wS hS => ?qh1026) ?qk1026
                    case qh1026 => obtain ⟨L1, L2, L3, L4, L5, L6⟩ := Fr.same hS; go_simp; try with_reducible rfl
                    try simp only [List.getElem_toArray, List.getElem_cons_zero, List.getElem_cons_succ, Act.put, List.setIfInBounds_toArray, List.set_cons_zero, List.set_cons_succ]
                    refine wpQ_take (v := ?qv1029) (by rfl) (fun wS hS => ?qh1029) ?qk1029
                    case qh1029 => obtain ⟨L1, L2, L3, L4, L5, L6⟩ := Fr.same hS; go_simp; try with_reducible rfl
                    try simp only [List.getElem_toArray, List.getElem_cons_zero, List.getElem_cons_succ, Act.put, List.setIfInBounds_toArray, List.set_cons_zero, List.set_cons_succ]
                    refine wpQ_take (v := ?qv1032) (by rfl) (fun wS hS => ?qh1032) ?qk1032
                    case qh1032 => obtain ⟨L1, L2, L3, L4, L5, L6⟩ := Fr.same hS; go_simp; try with_reducible rfl
                    try simp only [List.getElem_toArray, List.getElem_cons_zero, List.getElem_cons_succ, Act.put, List.setIfInBounds_toArray, List.set_cons_zero, List.set_cons_succ]
                    refine wpQ_take (v := ?qv1035) (by rfl) (fun wS hS => ?qh1035) ?qk1035
                    case qh1035 => obtain ⟨L1, L2, L3, L4, L5, L6⟩ := Fr.same hS; go_simp; try with_reducible rfl
                    try simp only [List.getElem_toArray, List.getElem_cons_zero, List.getElem_cons_succ, Act.put, List.setIfInBounds_toArray, List.set_cons_zero, List.set_cons_succ]
                    refine wpQ_take (v := ?qv1038) (by rfl) (fun wS hS => ?qh1038) ?qk1038
                    case qh1038 => obtain ⟨L1, L2, L3, L4, L5, L6⟩ := Fr.same hS; go_simp; try with_reducible rfl
                    try simp only [List.getElem_toArray, List.getElem_cons_zero, List.getElem_cons_succ, Act.put, List.setIfInBounds_toArray, List.set_cons_zero, List.set_cons_succ]
                    refine wpQ_take (v := ?qv1041) (by rfl) (fun wS hS => ?qh1041) ?qk1041
                    case qh1041 => obtain ⟨L1, L2, L3, L4, L5, L6⟩ := Fr.same hS; go_simp; try with_reducible rfl
                    try simp only [List.getElem_toArray, List.getElem_cons_zero, List.getElem_cons_succ, Act.put, List.setIfInBounds_toArray, List.set_cons_zero, List.set_cons_succ]
                    refine wpQ_take (v := ?qv1044) (by rfl) (fun wS hS => ?qh1044) ?qk1044
                    case qh1044 => obtain ⟨L1, L2, L3, L4, L5, L6⟩ := Fr.same hS; go_simp; try with_reducible rfl
                    try simp only [List.getElem_toArray, List.getElem_cons_zero, List.getElem_cons_succ, Act.put, List.setIfInBounds_toArray, List.set_cons_zero, List.set_cons_succ]
                    refine wpQ_take (v := ?qv1047) (by rfl) (fun wS hS => ?qh1047) ?qk1047
                    case qh1047 => obtain ⟨L1, L2, L3, L4, L5, L6⟩ := Fr.same hS; go_simp; try with_reducible rfl
                    try simp only [List.getElem_toArray, List.getElem_cons_zero, List.getElem_cons_succ, Act.put, List.setIfInBounds_toArray, List.set_cons_zero, List.set_cons_succ]
                    refine wpQ_take (v := ?qv1050) (by rfl) (fun wS hS => ?qh1050) ?qk1050
                    case qh1050 => obtain ⟨L1, L2, L3, L4, L5, L6⟩ := Fr.same hS; go_simp; try with_reducible rfl
                    try simp only [List.getElem_toArray, List.getElem_cons_zero, List.getElem_cons_succ, Act.put, List.setIfInBounds_toArray, List.set_cons_zero, List.set_cons_succ]
                    refine wpQ_take (v := ?qv1053) (by rfl) (fun wS hS => ?qh1053) ?qk1053
                    case qh1053 => obtain ⟨L1, L2, L3, L4, L5, L6⟩ := Fr.same hS; go_simp; try with_reducible rfl
                    try simp only [List.getElem_toArray, List.getElem_cons_zero, List.getElem_cons_succ, Act.put, List.setIfInBounds_toArray, List.set_cons_zero, List.set_cons_succ]
                    refine wpQ_take (v := ?qv1056) (by rfl) (fun wS hS => ?qh1056) ?qk1056
                    case qh1056 => obtain ⟨L1, L2, L3, L4, L5, L6⟩ := Fr.same hS; go_simp; try with_reducible rfl
                    try simp only [List.getElem_toArray, List.getElem_cons_zero, List.getElem_cons_succ, Act.put, List.setIfInBounds_toArray, List.set_cons_zero, List.set_cons_succ]
                    refine wpQ_call (by rfl) (fun wS hS => ⟨_, _, ?qh1059, Calls.fr hS (C1 _)⟩) ?qk1059
                    case qh1059 => obtain ⟨L1, L2, L3, L4, L5, L6⟩ := Fr.same hS; go_simp; try with_reducible rfl
                    try simp only [List.getElem_toArray, List.getElem_cons_zero, List.getElem_cons_succ, Act.put, List.setIfInBounds_toArray, List.set_cons_zero, List.set_cons_succ]
                    refine wpQ_take (v := ?qv1062) (by rfl) (fun wS hS => ?qh1062) ?qk1062
                    case qh1062 => obtain ⟨L1, L2, L3, L4, L5, L6⟩ := Fr.same hS; go_simp; try with_reducible rfl
                    try simp only [List.getElem_toArray, List.getElem_cons_zero, List.getElem_cons_succ, Act.put, List.setIfInBounds_toArray, List.set_cons_zero, List.set_cons_succ]
                    refine wpQ_take (v := ?qv1065) (by rfl) (fun wS hS => ?qh1065) ?qk1065
                    case qh1065 => obtain ⟨L1, L2, L3, L4, L5, L6⟩ := Fr.same hS; go_simp; try with_reducible rfl
                    try simp only [List.getElem_toArray, List.getElem_cons_zero, List.getElem_cons_succ, Act.put, List.setIfInBounds_toArray, List.set_cons_zero, List.set_cons_succ]
                    refine wpQ_take (v := ?qv1068) (by rfl) (fun wS hS => ?qh1068) ?qk1068
                    case qh1068 => obtain ⟨L1, L2, L3, L4, L5, L6⟩ := Fr.same hS; go_simp; try with_reducible rfl
                    try simp only [List.getElem_toArray, List.getElem_cons_zero, List.getElem_cons_succ, Act.put, List.setIfInBounds_toArray, List.set_cons_zero, List.set_cons_succ]
                    refine wpQ_nil ?_
                    intro w1 f1
                    go_wp2_with fail
                    have hlt := HLT.out
                    go_roundg (L.length - (k + 1))
                    case measure => omega
                    case rel => exact ⟨k + 1, by simp, rfl, by omega, hfr.step0 f1⟩
                · have hkl : k = L.length := by omega
                  subst hkl
                  have i1 : ¬ (L.length : Int) < (L.length : Int) := by omega
                  replace hm := mpI_fr hm hfr (by simp [noB])
                  have hll : (setV want).length = L.length := by rw [HW.out.2.2]; simp [setV]
                  clear hlt hk
                  generalize setV want = SV at hm hll
                  go_wp2_with fail
                  go_ret
                  exact ⟨by simp [hll], hF.step0 hfr⟩
    · have HP1 := Lib.hid (show putCh c = none by unfold putCh; rw [if_neg hrc])
      clear hrc
      go_wp2_with (go_at_call 23; refine (putChange_any _ r rs c hcg).mono ?_; intro e w7 hp; obtain ⟨A7, c7, rfl, f7⟩ := hp.no HP1.out; clear hp)
      go_ret
      exact ⟨rfl, f0.step0 f7⟩
end Go.Proofs.YtejkfekpgbmdiaaGreat
