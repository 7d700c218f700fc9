/- delta.Make: words for its walk. -/
import Derived.Test.YtifgaejmhaepoaaMakeQ
namespace Go.Proofs.Ytifgaejmhaepoaa
open Go.RowKit Go.Maps
set_option linter.unusedVariables false
set_option linter.unusedSimpArgs false

def MakeTo (w : World) (r : Except Nat (List UInt8)) (e : Ending) (w' : World) : Prop :=
  ∃ A c, e = .returned (.tuple #[.slice A (resB r).length c, .int .i64 (resE r)]) ∧ (resB r).length ≤ c ∧ Sl w' A (bv (resB r)) ∧ Fr noB w w'

/-- rows of unlike types lie apart -/
theorem own_own_ne {w : World} {b1 b2 : Nat} {e1 e2 : TypeId} {s1 s2 n1 n2 : Nat} {v1 v2 : Value} {x1 x2 : List Value} (h1 : w.ownsRow b1 e1 s1 v1 n1 x1) (h2 : w.ownsRow b2 e2 s2 v2 n2 x2) (hne : e1 ≠ e2) :
    ∀ g, v1.ownBlock = some g → v2.ownBlock ≠ some g := by
  intro g hg1 hg2
  rcases h1.2 with ⟨rfl, _⟩ | ⟨g1, c1, cur1, rfl, _, hh1, _⟩
  · simp [Value.ownBlock] at hg1
  rcases h2.2 with ⟨rfl, _⟩ | ⟨g2, c2, cur2, rfl, _, hh2, _⟩
  · simp [Value.ownBlock] at hg2
  have e1' : g1 = g := by simpa [Value.ownBlock] using hg1
  have e2' : g2 = g := by simpa [Value.ownBlock] using hg2
  subst e1'; subst e2'
  rw [hh1] at hh2
  injection hh2 with hh2
  injection hh2 with _ ht
  exact hne ht
theorem mapF_ne_own {κ : Type} {enc : κ → Value} {w : World} {r : Nat} {f : κ → Option Value} (hM : MapF enc w r f) {b e s n : Nat} {v : Value} {xs : List Value} (ho : w.ownsRow b e s v n xs) : ∀ g, v.ownBlock = some g → g ≠ r := by
  intro g hg
  obtain ⟨es, clock, hr, _⟩ := hM
  rcases ho.2 with ⟨rfl, _⟩ | ⟨g', cap, cur, rfl, _, hh, _⟩
  · simp [Value.ownBlock] at hg
  · have e' : g' = g := by simpa [Value.ownBlock] using hg
    subst e'
    rintro rfl
    rw [hr] at hh; cases hh

theorem flush_any (w : World) (p : Nat) (A : Option Addr) (nb cb : Nat) (T : Option Addr) (ct : Nat) (target : List UInt8) (mv : Value) (O : Option Addr) (co : Nat) (out : List UInt8) (own at_ : Nat) (v : Int) (hv : v = (at_ : Int))
    (h : MkB w p A nb cb T target.length ct mv O out.length co own) (hT : Sl w T (bv target)) (hO : Sl w O (bv out)) (hoff : Off O (fun b => b ≠ p)) (hco : out.length ≤ co) (ht : target.length ≤ 1048576) (hct : target.length ≤ ct) (hol : out.length ≤ 100000000000) (h2 : at_ ≤ target.length) :
    Calls Try.prog 27 #[.pointer (some ⟨p, 0, none⟩), .int .i64 v] w (FlushTo w p A nb cb T target.length ct mv (flushF target out own at_) at_) := by
  subst hv
  unfold flushF
  split
  · exact flush_some w p A nb cb T ct target mv O co out own at_ h hT hO ht hct hol ‹_› h2
  · exact flush_none w p A nb cb T target.length ct mv O co out own at_ h hO hoff hco (by omega)

@[go_sem] theorem mkMap (t : TypeId) (w : World) : (Instr.makeMap t none).run Try.prog w = .ok (.map (some w.heap.size)) (w.alloc (.map #[] 0)) := rfl
theorem enum_nil (w : World) (n : Nat) (hn : n ≤ 4611686018427387904) (told : List UInt8) (ht : told = numB n) : Calls Try.prog 23 #[.slice none 0 0, .int .i64 n] w (NewBytes w told) := by
  subst ht
  exact enum_n w none 0 [] 0 rfl (Sl.nil _ _) (by decide) n hn

theorem enum_to (w : World) (A : Option Addr) (c : Nat) (l : List UInt8) (k : Nat) (hk : l.length = k) (hs : Sl w A (bv l)) (hl : l.length ≤ 140737488355000) (n : Nat) (hn : n ≤ 4611686018427387904) (v : Int) (hv : v = (n : Int)) (l2 : List UInt8) (h2 : l2 = l ++ numB n) :
    Calls Try.prog 23 #[.slice A k c, .int .i64 v] w (NewBytes w l2) := by subst h2; exact enum_v w A c l k hk hs hl n hn v hv

/-- the first loop: the places -/
def Mk1 (w : World) (p r : Nat) (A : Option Addr) (cb : Nat) (base : List UInt8) (T : Option Addr) (nt ct : Nat) (O : Option Addr) (co : Nat) (D : Option Addr) (cd : Nat) (told : List UInt8) (gk : Nat) (iv_ : Value) (wr : World) : Prop :=
  ∃ n : Nat, iv_ = .int .i64 ((4 * n : Nat) : Int) ∧ (n = 0 ∨ 4 * (n - 1) + 8 ≤ base.length) ∧ base.length + 4 - 4 * n = gk ∧ Plc w wr r (plcN base n) ∧
    MkB wr p A base.length cb T nt ct (.map (some r)) O told.length co 0 ∧ OwnB w wr O co told ∧ OwnB w wr D cd told

/-- the second loop: what is out -/
def Mk2 (w : World) (p r : Nat) (A : Option Addr) (cb : Nat) (base : List UInt8) (T : Option Addr) (ct : Nat) (target : List UInt8) (g : SKey → List Nat) (D : Option Addr) (cd : Nat) (told : List UInt8) (R : List UInt8 × Nat) (gk : Nat) (av : Value) (wr : World) : Prop :=
  ∃ (at_ own f : Nat) (out : List UInt8) (O : Option Addr) (co : Nat), av = .int .i64 (at_ : Int) ∧ at_ ≤ target.length ∧ target.length - at_ = gk ∧ own ≤ at_ ∧ target.length - at_ ≤ f ∧ out.length + (at_ - own) ≤ 9 + 28 * at_ ∧
    Plc w wr r g ∧ MkB wr p A base.length cb T target.length ct (.map (some r)) O out.length co own ∧ out.length ≤ co ∧ Sl wr O (bv out) ∧ Off O (fun b => b ≠ p) ∧ Sl wr D (bv told) ∧ Hid (R = mkL base target g f at_ own out)

theorem mkL_end (base target : List UInt8) (g : SKey → List Nat) (f at_ own : Nat) (out : List UInt8) (h : ¬ at_ < target.length) : mkL base target g f at_ own out = (out, own) := by
  cases f with
  | zero => rfl
  | succ f => unfold mkL; rw [if_neg h]
theorem mkL_skip (base target : List UInt8) (g : SKey → List Nat) (f at_ own : Nat) (out : List UInt8) (h : at_ < target.length) (h0 : (lg base target g at_).2 = 0) : mkL base target g (f + 1) at_ own out = mkL base target g f (at_ + 1) own out := by
  rw [mkL, if_pos h, if_pos h0]
theorem mkL_copy (base target : List UInt8) (g : SKey → List Nat) (f at_ own : Nat) (out : List UInt8) (h : at_ < target.length) (q n : Nat) (hl : lg base target g at_ = (q, n)) (h0 : n ≠ 0) : mkL base target g (f + 1) at_ own out = mkL base target g f (at_ + n) (at_ + n) (flushF target out own at_ ++ numB (2 * n + 1) ++ numB q) := by
  rw [mkL, if_pos h, hl, if_neg h0]
theorem flushF_len (target out : List UInt8) (own at_ : Nat) (h : at_ ≤ target.length) (ht : target.length ≤ 1048576) : (flushF target out own at_).length ≤ out.length + 9 + (at_ - own) := by
  unfold flushF
  split
  · have := numB_length (2 * (at_ - own)) (by omega)
    simp; omega
  · omega
theorem longest_eq (w0 w : World) (p : Nat) (A : Option Addr) (cb : Nat) (base : List UInt8) (T : Option Addr) (ct : Nat) (target : List UInt8) (r : Nat) (O : Option Addr) (no co own at_ : Nat) (g : SKey → List Nat)
    (h : MkB w p A base.length cb T target.length ct (.map (some r)) O no co own) (hA : Sl w A (bv base)) (hT : Sl w T (bv target)) (hP : Plc w0 w r g) (hb : base.length ≤ 140737488351232) (ht : target.length ≤ 1048576) (hct : target.length ≤ ct)
    (hg : ∀ k, (g k).length ≤ 4 ∧ ∀ x ∈ g k, x ≤ 140737488351232) (hat : at_ ≤ target.length) (s : Nat × Nat) (hs : lg base target g at_ = s) :
    Calls Try.prog 26 #[.pointer (some ⟨p, 0, none⟩), .int .i64 at_] w (LgTo w s) := by
  subst hs
  exact longest_any w0 w p A cb base T ct target r O no co own at_ g h hA hT hP hb ht hct hg hat

theorem own_cap {w0 w : World} {A : Option Addr} {c : Nat} {l : List UInt8} (h : OwnB w0 w A c l) : l.length ≤ c := by
  obtain ⟨_, _, e, hc, _⟩ := own_form h
  injection e with _ _ e3
  subst e3
  exact hc
theorem mkB_noByte (A : Option Addr) (nb cb : Nat) (T : Option Addr) (nt ct : Nat) (mv : Value) (hm : ∀ n, mv ≠ .int .u8 n) (O : Option Addr) (no co : Nat) (own : Nat) : ∀ (j : Nat) (n : Int), ([.slice A nb cb, .slice T nt ct, mv, .slice O no co, .int .i64 own] : List Value)[j]? ≠ some (.int .u8 n) := by
  intro j n h
  rcases j with _ | _ | _ | _ | _ | j <;> simp at h
  exact hm n h

theorem flush_to (w : World) (p : Nat) (A : Option Addr) (nb cb : Nat) (T : Option Addr) (ct : Nat) (target : List UInt8) (mv : Value) (O : Option Addr) (co : Nat) (out : List UInt8) (own at_ : Nat) (v : Int) (hv : v = (at_ : Int))
    (h : MkB w p A nb cb T target.length ct mv O out.length co own) (hT : Sl w T (bv target)) (hO : Sl w O (bv out)) (hoff : Off O (fun b => b ≠ p)) (hco : out.length ≤ co) (ht : target.length ≤ 1048576) (hct : target.length ≤ ct) (hol : out.length ≤ 100000000000) (h2 : at_ ≤ target.length)
    (o1 : List UInt8) (ho : o1 = flushF target out own at_) :
    Calls Try.prog 27 #[.pointer (some ⟨p, 0, none⟩), .int .i64 v] w (FlushTo w p A nb cb T target.length ct mv o1 at_) := by
  subst ho
  exact flush_any w p A nb cb T ct target mv O co out own at_ v hv h hT hO hoff hco ht hct hol h2

theorem make_long (w : World) (A T : Option Addr) (cb ct : Nat) (base target : List UInt8) (h1 : 1048576 < target.length) :
    Calls Try.prog 16 #[.slice A base.length cb, .slice T target.length ct] w (MakeTo w (makeD base target)) := by
  unfold makeD
  rw [if_pos h1]
  go_enter Try.func16, Try.ntmps16
  go_wp2
  go_ret2
  exact ⟨none, 0, rfl, Nat.le_refl _, Sl.nil _ _, Fr.refl _ _⟩
theorem make_none (w : World) (A T : Option Addr) (cb ct : Nat) (base : List UInt8) :
    Calls Try.prog 16 #[.slice A base.length cb, .slice T 0 ct] w (MakeTo w (makeD base [])) := by
  have e : makeD base [] = .ok (numB 0) := rfl
  rw [e]
  clear e
  go_enter Try.func16, Try.ntmps16
  go_wp2_with (go_at_call 23; refine (enum_nil _ 0 (by decide) (numB 0) rfl).mono ?_; rintro e w1 ⟨A1, k1, rfl, ho1, hf1⟩)
  go_ret2
  obtain ⟨_, _, e, hc, _⟩ := own_form ho1
  injection e with _ _ e3
  subst e3
  exact ⟨A1, k1, rfl, hc, Sl.own ho1, hf1⟩

set_option maxRecDepth 100000 in
set_option maxHeartbeats 1000000 in
theorem make_whole (w : World) (A T : Option Addr) (cb ct : Nat) (base target : List UInt8) (hA : Sl w A (bv base)) (hT : Sl w T (bv target)) (hcb : base.length ≤ cb) (hct : target.length ≤ ct) (hAn : A = none → cb = 0)
    (hb : base.length ≤ 1000000000) (m : Int) (hm : w.cell? ⟨0, 0, none⟩ = some (.int .i64 m)) (hw0 : 0 < w.heap.size) (h1 : target.length ≤ 1048576) (hpos : 0 < target.length) (i : Nat) (hi : Lib.index base target = i) (hil : i ≤ base.length) :
    Calls Try.prog 16 #[.slice A base.length cb, .slice T target.length ct] w (MakeTo w (.ok (numB target.length ++ numB (2 * target.length + 1) ++ numB i))) := by
  have H2 : Hid (target ≠ []) := (fun h => by rw [h] at hpos; simp at hpos)
  have HI := Lib.hid hi
  have hge : (0 : Int) ≤ (i : Int) := by omega
  clear hi
  obtain ⟨t1, ht1⟩ : ∃ t, t = numB target.length := ⟨_, rfl⟩
  obtain ⟨t2, ht2⟩ : ∃ t, t = t1 ++ numB (2 * target.length + 1) := ⟨_, rfl⟩
  obtain ⟨t3, ht3⟩ : ∃ t, t = t2 ++ numB i := ⟨_, rfl⟩
  have l1 : t1.length ≤ 9 := by rw [ht1]; exact numB_length _ (by omega)
  have l2 : t2.length ≤ 18 := by rw [ht2, List.length_append]; have := numB_length (2 * target.length + 1) (by omega); omega
  rw [← ht1, ← ht2, ← ht3]
  have e0 : ((target.length : Int) == 0) = false := by rw [beq_eq_false_iff_ne]; omega
  have H1 := Lib.hid ht1
  have H3 := Lib.hid ht2
  have H4 := Lib.hid ht3
  clear ht1 ht2 ht3
  have c1 : True := trivial
  have c2 : True := trivial
  go_enter Try.func16, Try.ntmps16
  go_wp2_with (first
    | (go_at_call 23; have _t := c1; clear c1 _t; refine (enum_nil _ target.length (by omega) t1 H1.out).mono ?_; rintro e w1 ⟨A1, k1, rfl, ho1, hf1⟩)
    | (go_at_call 24; refine (index_any _ A cb base T ct target m (hA.fr0 hf1) (hT.fr0 hf1) H2.out hcb hAn (by omega) (by omega) ((World.cell?_of_block (a := ⟨0, 0, none⟩) (hf1.block 0 hw0 (by simp [noB]))).trans hm) _ _ rfl rfl).mono ?_; rw [HI.out]; rintro e w2 ⟨rfl, hf2⟩)
    | (go_at_call 23; have _t := c2; clear c2 _t; refine (enum_to _ A1 _ t1 _ rfl ((Sl.own ho1).fr0 hf2) (by omega) (2 * target.length + 1) (by omega) _ (by go_num) t2 H3.out).mono ?_; rintro e w3 ⟨A3, k3, rfl, ho3, hf3⟩)
    | (go_at_call 23; refine (enum_to _ A3 _ t2 _ rfl (Sl.own ho3) (by omega) i (by omega) _ rfl t3 H4.out).mono ?_; rintro e w4 ⟨A4, k4, rfl, ho4, hf4⟩))
  go_ret2
  obtain ⟨_, _, e, hc, _⟩ := own_form ho4
  injection e with _ _ e3
  subst e3
  exact ⟨A4, k4, rfl, hc, Sl.own ho4, ((hf1.step0 hf2).step0 hf3).step0 hf4⟩
end Go.Proofs.Ytifgaejmhaepoaa
