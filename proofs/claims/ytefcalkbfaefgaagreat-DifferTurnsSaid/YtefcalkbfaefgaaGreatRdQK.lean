/- Plain: what is put is read again; a reader takes the same of longer bytes. -/
import Derived.Test.YtefcalkbfaefgaaGreatObjPK
import Derived.Test.YtefcalkbfaefgaaGreatNumWK
namespace Go.Proofs.YtefcalkbfaefgaaGreat
set_option linter.unusedVariables false

/-- numbers' bytes -/
theorem gnAux_nb (most : Nat) (t : List UInt8) : ∀ (n i u : Nat), i < 9 → n < 128 ^ (9 - i) → (n ≠ 0 ∨ i = 0) → u + n * 128 ^ i ≤ most → u + n * 128 ^ i ≤ 4611686018427387904 →
    gnAux most i u (numB n ++ t) = some (u + n * 128 ^ i, t) := by
  intro n
  induction n using Nat.strongRecOn with
  | _ n ih =>
    intro i u hi hn h0 hm h62
    by_cases h : n < 128
    · rw [numB_small h]
      simp only [List.cons_append, List.nil_append, gnAux]
      have hb : (UInt8.ofNat n).toNat = n := by simp; omega
      rw [hb, if_neg (by omega), if_neg (by omega), Nat.mod_eq_of_lt h, if_neg (by omega)]
    · rw [numB_big h]
      simp only [List.cons_append, gnAux]
      have hb : (UInt8.ofNat (n % 128 + 128)).toNat = n % 128 + 128 := by simp; omega
      have hi8 : i < 8 := by
        rcases Nat.lt_or_ge i 8 with h8 | h8
        · exact h8
        · have : i = 8 := by omega
          subst this
          simp at hn; omega
      rw [hb, if_neg (by omega), if_pos (by omega), show (n % 128 + 128) % 128 = n % 128 by omega]
      have e1 : 128 ^ (9 - i) = 128 * 128 ^ (9 - (i + 1)) := by rw [show 9 - i = 9 - (i + 1) + 1 by omega, Nat.pow_succ, Nat.mul_comm]
      have e2 : 128 ^ (i + 1) = 128 * 128 ^ i := by rw [Nat.pow_succ, Nat.mul_comm]
      have e3 : u + n % 128 * 128 ^ i + n / 128 * 128 ^ (i + 1) = u + n * 128 ^ i := by
        rw [e2]
        have := Nat.div_add_mod n 128
        have h2 : n * 128 ^ i = (128 * (n / 128) + n % 128) * 128 ^ i := by rw [this]
        rw [h2, Nat.add_mul, Nat.mul_comm 128 (n / 128), Nat.mul_assoc]; omega
      have := ih (n / 128) (by omega) (i + 1) (u + n % 128 * 128 ^ i) (by omega) (by rw [e1] at hn; omega) (.inl (by omega)) (by rw [e3]; exact hm) (by rw [e3]; exact h62)
      rw [this, e3]
theorem rdNum_nb (n : Nat) (t : List UInt8) (most : Nat) (hm : n ≤ most) (h62 : n ≤ 4611686018427387904) : rdNum most (numB n ++ t, false) = (n, (t, false)) := by
  unfold rdNum getN
  have := gnAux_nb most t n 0 0 (by decide) (by simp; omega) (.inr rfl) (by simpa using hm) (by simpa using h62)
  simp only [Bool.false_eq_true, if_false, this]
  simp
theorem gnAux_mr (most : Nat) (rest : List UInt8) : ∀ (l : List UInt8) (i u n : Nat) (t : List UInt8), gnAux most i u l = some (n, t) → gnAux most i u (l ++ rest) = some (n, t ++ rest) := by
  intro l
  induction l with
  | nil => intro i u n t h; simp [gnAux] at h
  | cons b l ih =>
    intro i u n t h
    simp only [List.cons_append, gnAux] at h ⊢
    split at h
    · cases h
    · rename_i h1
      rw [if_neg h1]
      split at h
      · rename_i h2
        rw [if_pos h2]; exact ih _ _ _ _ h
      · rename_i h2
        rw [if_neg h2]
        split at h
        · cases h
        · rename_i h3
          rw [if_neg h3]
          simp only [Option.some.injEq, Prod.mk.injEq] at h ⊢
          exact ⟨h.1, by rw [h.2]⟩

/-- a reader that takes the same of longer bytes, and stays failed -/
structure Ext {α : Type} (f : RS → α × RS) : Prop where
  ext : ∀ s t e, (f (s, false)).2 = (t, false) → f (s ++ e, false) = ((f (s, false)).1, (t ++ e, false))
  go : ∀ s, s.2 = true → (f s).2.2 = true
theorem Ext.num (most : Nat) : Ext (rdNum most) := by
  refine ⟨fun s t e h => ?_, fun s h => ?_⟩
  · unfold rdNum getN at *
    simp only [Bool.false_eq_true, if_false] at *
    cases hg : gnAux most 0 0 s with
    | none => rw [hg] at h; simp at h
    | some x =>
      obtain ⟨n, r⟩ := x
      rw [hg] at h
      simp only [Prod.mk.injEq, and_true] at h
      subst h
      rw [gnAux_mr most e s 0 0 n r hg]
  · unfold rdNum
    rw [if_pos h]
theorem Ext.take (n : Nat) : Ext (rdTake n) := by
  refine ⟨fun s t e h => ?_, fun s h => ?_⟩
  · unfold rdTake at *
    simp only [Bool.false_eq_true, false_or] at *
    split at h
    · simp at h
    · rename_i h1
      have h2 : ¬ (s ++ e).length < n := by rw [List.length_append]; omega
      rw [if_neg h2, if_neg h1]
      simp only [Prod.mk.injEq, and_true] at h ⊢
      subst h
      rw [List.take_append_of_le_length (by omega), List.drop_append_of_le_length (by omega)]
      exact ⟨rfl, rfl⟩
  · unfold rdTake
    rw [if_pos (.inl h)]
/-- one behind the other -/
theorem Ext.bind {α β : Type} {f : RS → α × RS} {g : α → RS → β × RS} (hf : Ext f) (hg : ∀ a, Ext (g a)) : Ext (fun s => g (f s).1 (f s).2) := by
  refine ⟨fun s t e h => ?_, fun s h => (hg _).go _ (hf.go _ h)⟩
  try dsimp only at h ⊢
  cases hb : (f (s, false)).2.2 with
  | true =>
    have := (hg (f (s, false)).1).go _ hb
    rw [h] at this; cases this
  | false =>
    obtain ⟨r, hr⟩ : ∃ r, (f (s, false)).2 = (r, false) := ⟨(f (s, false)).2.1, Prod.ext rfl hb⟩
    rw [hf.ext s r e hr]
    rw [hr] at h
    rw [hr]
    exact (hg _).ext r t e h
theorem Ext.pure {α β : Type} {f : RS → α × RS} (hf : Ext f) (k : α → β) : Ext (fun s => (k (f s).1, (f s).2)) := by
  refine ⟨fun s t e h => ?_, fun s h => hf.go _ h⟩
  simp only at h
  rw [hf.ext s t e h]
theorem Ext.congr {α : Type} {f g : RS → α × RS} (hf : Ext f) (h : ∀ s, g s = f s) : Ext g := by
  have : f = g := funext fun s => (h s).symm
  rw [← this]; exact hf
theorem Ext.ret {α : Type} (a : α) : Ext (fun s : RS => (a, s)) := by
  refine ⟨fun s t e h => ?_, fun s h => h⟩
  simp only [Prod.mk.injEq, and_true] at h ⊢
  rw [h]; exact ⟨trivial, rfl⟩
theorem Ext.ite {α : Type} {f g : RS → α × RS} (c : Prop) [Decidable c] (hf : Ext f) (hg : Ext g) : Ext (fun s => if c then f s else g s) := by
  by_cases h : c
  · exact hf.congr fun s => by rw [if_pos h]
  · exact hg.congr fun s => by rw [if_neg h]
/-- what is not as it must be lets it fail -/
theorem Ext.filter {α : Type} {f : RS → α × RS} (hf : Ext f) (p : α → Bool) (z : α) : Ext (fun s => if (f s).2.2 = true ∨ p (f s).1 = false then (z, ([], true)) else f s) := by
  refine ⟨fun s t e h => ?_, fun s h => ?_⟩
  · split at h
    · simp at h
    · rename_i h1
      have e1 := hf.ext s t e h
      rw [if_neg h1, if_neg, e1]
      rw [e1]
      intro h2
      rcases h2 with h2 | h2
      · cases h2
      · exact h1 (.inr h2)
  · rw [if_pos (.inl (hf.go _ h))]
theorem Ext.text (most : Nat) : Ext (rdText most) := ((Ext.num most).bind (g := fun n => rdTake n) fun n => Ext.take n).congr fun s => rfl
theorem Ext.id : Ext rdId := ((Ext.take 32).pure idOf).congr fun s => rfl
theorem Ext.st : Ext rdSt := ((Ext.num 1099511627776).bind (g := fun (t : Nat) s => ((⟨t, ((rdNum 65536 s).1 : Nat)⟩ : St), (rdNum 65536 s).2)) fun t => (Ext.num 65536).pure fun r => (⟨t, r⟩ : St)).congr fun s => rfl
theorem Ext.hd : Ext rdHd := (Ext.st.bind (g := fun a s => ((⟨a, (rdId s).1⟩ : Hd), (rdId s).2)) fun a => Ext.id.pure fun d => (⟨a, d⟩ : Hd)).congr fun s => rfl
theorem Ext.all {α : Type} {f : RS → α × RS} (hf : Ext f) (n : Nat) : Ext (rdAll f n) := by
  induction n with
  | zero => exact (Ext.ret ([] : List α)).congr fun s => rfl
  | succ n ih => exact (hf.bind (g := fun a s => (a :: (rdAll f n s).1, (rdAll f n s).2)) fun a => ih.pure fun l => a :: l).congr fun s => rfl
/-- the list alone may be shorter than that of rdAll, and then the reader has failed -/
theorem Ext.many {α : Type} {f : RS → α × RS} (hf : Ext f) (n : Nat) : Ext (rdMany f n) := by
  induction n with
  | zero => exact (Ext.ret ([] : List α)).congr fun s => rfl
  | succ n ih =>
    refine ⟨fun s t e h => ?_, fun s h => ?_⟩
    · simp only [rdMany] at h ⊢
      split at h
      · rename_i h1
        simp only at h
        rw [h] at h1; cases h1
      · rename_i h1
        obtain ⟨r, hr⟩ : ∃ r, (f (s, false)).2 = (r, false) := ⟨(f (s, false)).2.1, by rw [Prod.ext_iff]; exact ⟨rfl, by simpa using h1⟩⟩
        rw [if_neg h1, hf.ext s r e hr]
        rw [hr] at h ⊢
        simp only [Bool.false_eq_true, if_false] at h ⊢
        rw [ih.ext r t e h]
    · simp only [rdMany]
      have := hf.go _ h
      rw [if_pos this]
      exact this
theorem Ext.itm : Ext rdIt := (Ext.st.bind (g := fun a s => let b := rdSt s; let c := rdText 60 b.2; let d := rdId c.2; let n := rdNum 1000 d.2; let hs := rdMany rdHd n.1 n.2; ((⟨a, b.1, c.1, d.1, hs.1⟩ : It), hs.2)) fun a =>
  (Ext.st.bind (g := fun b s => let c := rdText 60 s; let d := rdId c.2; let n := rdNum 1000 d.2; let hs := rdMany rdHd n.1 n.2; ((⟨a, b, c.1, d.1, hs.1⟩ : It), hs.2)) fun b =>
  ((Ext.text 60).bind (g := fun c s => let d := rdId s; let n := rdNum 1000 d.2; let hs := rdMany rdHd n.1 n.2; ((⟨a, b, c, d.1, hs.1⟩ : It), hs.2)) fun c =>
  (Ext.id.bind (g := fun d s => let n := rdNum 1000 s; let hs := rdMany rdHd n.1 n.2; ((⟨a, b, c, d, hs.1⟩ : It), hs.2)) fun d =>
  ((Ext.num 1000).bind (g := fun n s => let hs := rdMany rdHd n s; ((⟨a, b, c, d, hs.1⟩ : It), hs.2)) fun n => (Ext.hd.many n).pure fun hs => (⟨a, b, c, d, hs⟩ : It)))))).congr fun s => rfl
theorem Ext.op0 : Ext rdOp0 := ((Ext.num 2).bind (g := fun (k : Nat) s => let a := rdSt s; let b := rdSt a.2; if k = 1 then (let p := rdSt b.2; let t := rdText 60 p.2; ((⟨k, a.1, b.1, p.1, t.1, zID, []⟩ : Opn), t.2)) else (let d := rdId b.2; let n := rdNum 64 d.2; let l := rdAll rdSt n.1 n.2; (⟨k, a.1, b.1, zSt, [], d.1, l.1⟩, l.2))) fun k =>
  (Ext.st.bind (g := fun a s => let b := rdSt s; if k = 1 then (let p := rdSt b.2; let t := rdText 60 p.2; ((⟨k, a, b.1, p.1, t.1, zID, []⟩ : Opn), t.2)) else (let d := rdId b.2; let n := rdNum 64 d.2; let l := rdAll rdSt n.1 n.2; (⟨k, a, b.1, zSt, [], d.1, l.1⟩, l.2))) fun a =>
  (Ext.st.bind (g := fun b s => if k = 1 then (let p := rdSt s; let t := rdText 60 p.2; ((⟨k, a, b, p.1, t.1, zID, []⟩ : Opn), t.2)) else (let d := rdId s; let n := rdNum 64 d.2; let l := rdAll rdSt n.1 n.2; (⟨k, a, b, zSt, [], d.1, l.1⟩, l.2))) fun b =>
  Ext.ite (k = 1) (Ext.st.bind (g := fun p s => ((⟨k, a, b, p, (rdText 60 s).1, zID, []⟩ : Opn), (rdText 60 s).2)) fun p => (Ext.text 60).pure fun t => (⟨k, a, b, p, t, zID, []⟩ : Opn))
    (Ext.id.bind (g := fun d s => let n := rdNum 64 s; let l := rdAll rdSt n.1 n.2; ((⟨k, a, b, zSt, [], d, l.1⟩ : Opn), l.2)) fun d => (Ext.num 64).bind (g := fun n s => ((⟨k, a, b, zSt, [], d, (rdAll rdSt n s).1⟩ : Opn), (rdAll rdSt n s).2)) fun n => (Ext.st.all n).pure fun l => (⟨k, a, b, zSt, [], d, l⟩ : Opn))))).congr fun s => by
    rfl
theorem Ext.opn : Ext rdOp := (Ext.op0.filter goodOp zOp).congr fun s => rfl
def rdCh0 (s : RS) : Chg × RS :=
  let n := rdNum 2 s
  let ps := rdAll rdId n.1 n.2
  let t := rdNum 1099511627776 ps.2
  let r := rdNum 65536 t.2
  let k := rdNum 64 r.2
  let os := rdAll rdOp k.1 k.2
  let tr := rdId os.2
  let m := rdText 200 tr.2
  (⟨ps.1, t.1, r.1, os.1, tr.1, m.1⟩, m.2)
def rdLb0 (s : RS) : Lbl × RS :=
  let t := rdId s
  let n := rdText 60 t.2
  let m := rdText 200 n.2
  (⟨t.1, n.1, m.1⟩, m.2)
def rdDr0 (s : RS) : List It × RS :=
  let n := rdNum 1000 s
  rdMany rdIt n.1 n.2
def whole {α : Type} (f : RS → α × RS) (k : UInt8) (p : α → Bool) (b : List UInt8) : Option α :=
  if (f (openR b k)).2 = ([], false) ∧ p (f (openR b k)).1 = true then some (f (openR b k)).1 else none
theorem rdCh_eq (b : List UInt8) : rdCh b = whole rdCh0 3 rightCh b := rfl
theorem rdLb_eq (b : List UInt8) : rdLb b = whole rdLb0 4 rightLb b := rfl
theorem rdDr_eq (b : List UInt8) : rdDr b = whole rdDr0 2 rightDr b := rfl
theorem Ext.dr : Ext rdDr0 := ((Ext.num 1000).bind (g := fun n s => rdMany rdIt n s) fun n => Ext.itm.many n).congr fun s => rfl
theorem Ext.lb : Ext rdLb0 := (Ext.id.bind (g := fun t s => let n := rdText 60 s; let m := rdText 200 n.2; ((⟨t, n.1, m.1⟩ : Lbl), m.2)) fun t =>
  (Ext.text 60).bind (g := fun n s => let m := rdText 200 s; ((⟨t, n, m.1⟩ : Lbl), m.2)) fun n => (Ext.text 200).pure fun m => (⟨t, n, m⟩ : Lbl)).congr fun s => rfl
theorem Ext.ch : Ext rdCh0 := ((Ext.num 2).bind (g := fun n s => let ps := rdAll rdId n s; let t := rdNum 1099511627776 ps.2; let r := rdNum 65536 t.2; let k := rdNum 64 r.2; let os := rdAll rdOp k.1 k.2; let tr := rdId os.2; let m := rdText 200 tr.2; ((⟨ps.1, t.1, r.1, os.1, tr.1, m.1⟩ : Chg), m.2)) fun n =>
  (Ext.id.all n).bind (g := fun ps s => let t := rdNum 1099511627776 s; let r := rdNum 65536 t.2; let k := rdNum 64 r.2; let os := rdAll rdOp k.1 k.2; let tr := rdId os.2; let m := rdText 200 tr.2; ((⟨ps, t.1, r.1, os.1, tr.1, m.1⟩ : Chg), m.2)) fun ps =>
  (Ext.num 1099511627776).bind (g := fun (t : Nat) s => let r := rdNum 65536 s; let k := rdNum 64 r.2; let os := rdAll rdOp k.1 k.2; let tr := rdId os.2; let m := rdText 200 tr.2; ((⟨ps, t, r.1, os.1, tr.1, m.1⟩ : Chg), m.2)) fun t =>
  (Ext.num 65536).bind (g := fun (r : Nat) s => let k := rdNum 64 s; let os := rdAll rdOp k.1 k.2; let tr := rdId os.2; let m := rdText 200 tr.2; ((⟨ps, t, r, os.1, tr.1, m.1⟩ : Chg), m.2)) fun r =>
  (Ext.num 64).bind (g := fun k s => let os := rdAll rdOp k s; let tr := rdId os.2; let m := rdText 200 tr.2; ((⟨ps, t, r, os.1, tr.1, m.1⟩ : Chg), m.2)) fun k =>
  (Ext.opn.all k).bind (g := fun os s => let tr := rdId s; let m := rdText 200 tr.2; ((⟨ps, t, r, os, tr.1, m.1⟩ : Chg), m.2)) fun os =>
  Ext.id.bind (g := fun tr s => let m := rdText 200 s; ((⟨ps, t, r, os, tr, m.1⟩ : Chg), m.2)) fun tr => (Ext.text 200).pure fun m => (⟨ps, t, r, os, tr, m⟩ : Chg)).congr fun s => rfl
/-- bytes of a thing are of no thing with more behind -/
theorem whole_more {α : Type} {f : RS → α × RS} (hf : Ext f) {k : UInt8} {p : α → Bool} {b e : List UInt8} {x : α} (h : whole f k p b = some x) (he : e ≠ []) : whole f k p (b ++ e) = none := by
  unfold whole at h ⊢
  split at h
  · rename_i h1
    cases b with
    | nil =>
      have h2 := hf.go (openR [] k) rfl
      rw [h1.1] at h2; cases h2
    | cons c l =>
      have e1 : openR (c :: l ++ e) k = if c = k then (l ++ e, false) else ([], true) := rfl
      have e2 : openR (c :: l) k = if c = k then (l, false) else ([], true) := rfl
      by_cases hc : c = k
      · rw [e2, if_pos hc] at h1
        rw [e1, if_pos hc, hf.ext l [] e h1.1]
        rw [if_neg]
        intro h3
        simp at h3
        exact he h3.1
      · have h2 := hf.go (openR (c :: l) k) (by rw [e2, if_neg hc])
        rw [h1.1] at h2; cases h2
  · cases h
/-- nor is a proper beginning of them -/
theorem whole_cut {α : Type} {f : RS → α × RS} (hf : Ext f) {k : UInt8} {p : α → Bool} {b : List UInt8} {x : α} (h : whole f k p b = some x) {i : Nat} (hi : i < b.length) : whole f k p (b.take i) = none := by
  cases h1 : whole f k p (b.take i) with
  | none => rfl
  | some y =>
    have := whole_more hf h1 (e := b.drop i) (by intro h0; have := congrArg List.length h0; simp at this; omega)
    rw [List.take_append_drop, h] at this
    cases this
theorem whole_head {α : Type} {f : RS → α × RS} (hf : Ext f) {k : UInt8} {p : α → Bool} {b : List UInt8} {x : α} (h : whole f k p b = some x) : ∃ l, b = k :: l := by
  unfold whole at h
  split at h
  · rename_i h1
    cases b with
    | nil =>
      have h2 := hf.go (openR [] k) rfl
      rw [h1.1] at h2; cases h2
    | cons c l =>
      have e2 : openR (c :: l) k = if c = k then (l, false) else ([], true) := rfl
      by_cases hc : c = k
      · exact ⟨l, by rw [hc]⟩
      · have h2 := hf.go (openR (c :: l) k) (by rw [e2, if_neg hc])
        rw [h1.1] at h2; cases h2
  · cases h
/-! what is put is read -/
def Rt {α : Type} (f : RS → α × RS) (b : α → List UInt8) (x : α) : Prop := ∀ e, f (b x ++ e, false) = (x, (e, false))
theorem Rt.text {most : Nat} {l : List UInt8} (h : l.length ≤ most) (h62 : most ≤ 4611686018427387904) : Rt (rdText most) txB l := by
  intro e
  unfold rdText txB
  rw [List.append_assoc, rdNum_nb _ _ _ h (by omega)]
  simp [rdTake]
theorem Rt.id (x : ID) : Rt rdId (·.1) x := by
  intro e
  unfold rdId rdTake
  have h : x.1.length = 32 := x.2
  obtain ⟨l, hl⟩ := x
  dsimp only at h ⊢
  have e1 : List.take 32 (l ++ e) = l := List.take_left' h
  have e2 : List.drop 32 (l ++ e) = e := List.drop_left' h
  have h3 : ¬ (l ++ e).length < 32 := by rw [List.length_append, h]; omega
  simp only [Bool.false_eq_true, false_or, h3, if_false, e1, e2]
  have e3 : idOf l = ⟨l, hl⟩ := by unfold idOf; exact dif_pos h
  rw [e3]
def sSt (s : St) : Prop := 0 ≤ s.T ∧ s.T ≤ 1099511627776 ∧ 0 ≤ s.R ∧ s.R ≤ 65536
theorem sSt_of {s : St} (h : rightS s = true) : sSt s := by
  simp only [rightS, Bool.and_eq_true, decide_eq_true_eq] at h
  exact ⟨by omega, by omega, by omega, by omega⟩
theorem Rt.st {s : St} (h : sSt s) : Rt rdSt stB s := by
  intro e
  obtain ⟨h1, h2, h3, h4⟩ := h
  unfold rdSt stB
  rw [List.append_assoc, rdNum_nb _ _ _ (by omega) (by omega)]
  dsimp only
  rw [rdNum_nb _ _ _ (by omega) (by omega)]
  have e1 : (s.T.toNat : Int) = s.T := by omega
  have e2 : (s.R.toNat : Int) = s.R := by omega
  rw [e1, e2]
theorem Rt.hd {h : Hd} (hh : sSt h.At) : Rt rdHd hdB h := by
  intro e
  unfold rdHd hdB
  rw [List.append_assoc, Rt.st hh]
  dsimp only
  rw [Rt.id h.Data]
theorem Rt.many {α : Type} {f : RS → α × RS} {b : α → List UInt8} : ∀ {l : List α}, (∀ x ∈ l, Rt f b x) → ∀ e, rdMany f l.length (l.flatMap b ++ e, false) = (l, (e, false))
  | [], _, e => rfl
  | x :: l, h, e => by
    simp only [List.length_cons, rdMany, List.flatMap_cons, List.append_assoc]
    rw [h x (by simp)]
    simp only [Bool.false_eq_true, if_false]
    rw [Rt.many (fun y hy => h y (by simp [hy])) e]
theorem Rt.all {α : Type} {f : RS → α × RS} {b : α → List UInt8} : ∀ {l : List α}, (∀ x ∈ l, Rt f b x) → ∀ e, rdAll f l.length (l.flatMap b ++ e, false) = (l, (e, false))
  | [], _, e => rfl
  | x :: l, h, e => by
    simp only [List.length_cons, rdAll, List.flatMap_cons, List.append_assoc]
    rw [h x (by simp)]
    dsimp only
    rw [Rt.all (fun y hy => h y (by simp [hy])) e]
theorem nameOk_le {l : List UInt8} (h : nameOk l = true) : l.length ≤ 60 := by
  simp only [nameOk, Bool.and_eq_true, decide_eq_true_eq] at h
  exact h.1.1.1.2
theorem Rt.it {x : It} (h : rightIt x = true) : Rt rdIt itB x := by
  intro e
  simp only [rightIt, Bool.and_eq_true, decide_eq_true_eq, List.all_eq_true] at h
  obtain ⟨⟨⟨⟨⟨⟨h1, h2⟩, h3⟩, h4⟩, h5⟩, h6⟩, h7⟩ := h
  unfold rdIt itB
  simp only [List.append_assoc]
  rw [Rt.st (sSt_of h1)]
  dsimp only
  rw [Rt.st (sSt_of h2)]
  dsimp only
  rw [Rt.text (nameOk_le h4) (by decide)]
  dsimp only
  rw [Rt.id x.Sub]
  dsimp only
  rw [rdNum_nb _ _ _ h5 (by omega)]
  dsimp only
  rw [Rt.many (fun y hy => Rt.hd (sSt_of (h6 y hy).1.1))]
theorem Rt.dr {l : List It} (h : rightDr l = true) : rdDr (drB l) = some l := by
  have h0 := h
  simp only [rightDr, Bool.and_eq_true, decide_eq_true_eq, List.all_eq_true] at h
  obtain ⟨⟨h1, h2⟩, h3⟩ := h
  have e : rdDr0 (openR (drB l) 2) = (l, ([], false)) := by
    have e0 : openR (drB l) 2 = (numB l.length ++ (l.flatMap itB ++ []), false) := by unfold drB openR; simp
    rw [e0]
    unfold rdDr0
    rw [rdNum_nb _ _ _ h1 (by omega)]
    dsimp only
    rw [Rt.many (fun y hy => Rt.it (h2 y hy))]
  rw [rdDr_eq]
  unfold whole
  rw [e, if_pos ⟨rfl, h0⟩]
theorem Rt.lb {l : Lbl} (h : rightLb l = true) : rdLb (lbB l) = some l := by
  have h0 := h
  simp only [rightLb, Bool.and_eq_true, decide_eq_true_eq] at h
  obtain ⟨⟨h1, h2⟩, h3⟩ := h
  have e : rdLb0 (openR (lbB l) 4) = (l, ([], false)) := by
    have e0 : openR (lbB l) 4 = (l.Target.1 ++ (txB l.Name ++ (txB l.Msg ++ [])), false) := by unfold lbB openR; simp
    rw [e0]
    unfold rdLb0
    rw [Rt.id l.Target]
    dsimp only
    rw [Rt.text (nameOk_le h2) (by decide)]
    dsimp only
    rw [Rt.text h3 (by decide)]
  rw [rdLb_eq]
  unfold whole
  rw [e, if_pos ⟨rfl, h0⟩]
theorem Rt.op {o : Opn} (h : goodOp o = true) : Rt rdOp opB o := by
  intro e
  have hg := h
  have e0 : rdOp0 (opB o ++ e, false) = (o, (e, false)) := by
    simp only [goodOp, Bool.and_eq_true] at h
    obtain ⟨⟨h1, h2⟩, h3⟩ := h
    unfold opB
    rw [if_pos hg]
    by_cases hk : o.Kind = 1
    · rw [if_pos hk] at h3
      simp only [moveOk, Bool.and_eq_true, decide_eq_true_eq, Bool.or_eq_true] at h3
      obtain ⟨⟨⟨⟨h4, h5⟩, h6⟩, h7⟩, h8⟩ := h3
      have hp : sSt o.Parent := by
        rcases h5 with h5 | h5
        · exact sSt_of h5
        · simp only [fixedS, Bool.and_eq_true, Bool.or_eq_true, decide_eq_true_eq] at h5
          exact ⟨by omega, by omega, by omega, by omega⟩
      rw [if_pos hk]
      simp only [List.append_assoc]
      unfold rdOp0
      have ek : o.Kind.toNat = 1 := by rw [hk]; rfl
      rw [ek, rdNum_nb 1 _ 2 (by decide) (by decide)]
      dsimp only
      rw [Rt.st (sSt_of h1)]
      dsimp only
      rw [Rt.st (sSt_of h2)]
      dsimp only
      rw [if_pos rfl, Rt.st hp]
      dsimp only
      rw [Rt.text (nameOk_le h6) (by decide)]
      dsimp only
      have h9 : o.Over = [] := List.length_eq_zero_iff.1 h8
      obtain ⟨k, a, b, c, d, f, g⟩ := o
      dsimp only at *
      subst hk h7 h9
      rfl
    · rw [if_neg hk] at h3
      by_cases hk2 : o.Kind = 2
      · rw [if_pos hk2] at h3
        simp only [editOk, Bool.and_eq_true, decide_eq_true_eq, List.all_eq_true] at h3
        obtain ⟨⟨⟨⟨⟨⟨h4, h5⟩, h6⟩, h7⟩, h8⟩, h9⟩, h10⟩ := h3
        rw [if_neg hk]
        simp only [List.append_assoc]
        unfold rdOp0
        have ek : o.Kind.toNat = 2 := by rw [hk2]; rfl
        rw [ek, rdNum_nb 2 _ 2 (by decide) (by decide)]
        dsimp only
        rw [Rt.st (sSt_of h1)]
        dsimp only
        rw [Rt.st (sSt_of h2)]
        dsimp only
        rw [if_neg (by decide), Rt.id o.Data]
        dsimp only
        rw [rdNum_nb _ _ _ h8 (by omega)]
        dsimp only
        rw [Rt.all (fun y hy => Rt.st (sSt_of (h9 y hy).1))]
        obtain ⟨k, a, b, c, d, f, g⟩ := o
        dsimp only at *
        subst hk2 h5 h6
        rfl
      · rw [if_neg hk2] at h3; cases h3
  unfold rdOp
  rw [e0, if_neg]
  simp [hg]
theorem Rt.ch {c : Chg} (h : rightCh c = true) : rdCh (chB c) = some c := by
  have h0 := h
  simp only [rightCh, Bool.and_eq_true, decide_eq_true_eq, List.all_eq_true] at h
  obtain ⟨⟨⟨⟨⟨⟨⟨⟨⟨h1, h2⟩, h3⟩, h4⟩, h5⟩, h6⟩, h7⟩, h8⟩, h9⟩, h10⟩ := h
  obtain ⟨t1, t2, t3, t4⟩ := sSt_of h4
  dsimp only at t1 t2 t3 t4
  have e : rdCh0 (openR (chB c) 3) = (c, ([], false)) := by
    have e0 : openR (chB c) 3 = (numB c.Parents.length ++ (c.Parents.flatMap (·.1) ++ (numB c.Time.toNat ++ (numB c.R.toNat ++ (numB c.Ops.length ++ (c.Ops.flatMap opB ++ (c.Tree.1 ++ (txB c.Msg ++ []))))))), false) := by unfold chB openR; simp
    rw [e0]
    unfold rdCh0
    rw [rdNum_nb _ _ _ h1 (by omega)]
    dsimp only
    rw [Rt.all (fun y hy => Rt.id y)]
    dsimp only
    rw [rdNum_nb _ _ _ (by omega) (by omega)]
    dsimp only
    rw [rdNum_nb _ _ _ (by omega) (by omega)]
    dsimp only
    rw [rdNum_nb _ _ _ h7 (by omega)]
    dsimp only
    rw [Rt.all (fun y hy => Rt.op (h9 y hy).1.1)]
    dsimp only
    rw [Rt.id c.Tree]
    dsimp only
    rw [Rt.text h5 (by decide)]
    have e1 : (c.Time.toNat : Int) = c.Time := by omega
    have e2 : (c.R.toNat : Int) = c.R := by omega
    rw [e1, e2]
  rw [rdCh_eq]
  unfold whole
  rw [e, if_pos ⟨rfl, h0⟩]
end Go.Proofs.YtefcalkbfaefgaaGreat
