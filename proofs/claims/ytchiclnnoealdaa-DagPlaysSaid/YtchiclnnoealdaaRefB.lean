/- Contract: the reference's Bases. -/
import Derived.Test.YtchiclnnoealdaaRefH
import Derived.Test.YtchiclnnoealdaaRefRe
import Derived.Test.YtchiclnnoealdaaBoxA
namespace Go.Proofs.Ytchiclnnoealdaa
open Go.RowKit Go.Maps Go.Sort Go.Shelf
set_option linter.unusedVariables false
set_option linter.unusedSimpArgs false

/-- those among the first i of which P holds -/
structure GatI (m : Md) (P : ID → Bool) (i : Nat) (o : List ID) : Prop where
  rise : Rise cmpI o
  mem : ∀ y, y ∈ o ↔ ∃ j, ∃ h : j < m.length, j < i ∧ y = (m[j]).1 ∧ P y = true
  len : o.length ≤ i
theorem GatI.skip {m : Md} {P : ID → Bool} {i : Nat} {o : List ID} (h : GatI m P i o) (hi : i < m.length) (hk : P (m[i]).1 = false) : GatI m P (i + 1) o :=
  ⟨h.rise, fun y => (h.mem y).trans ⟨fun ⟨j, hj, hl, e, hq⟩ => ⟨j, hj, by omega, e, hq⟩, fun ⟨j, hj, hl, e, hq⟩ => by
    rcases Nat.lt_or_ge j i with hlt | hge
    · exact ⟨j, hj, hlt, e, hq⟩
    · have : j = i := by omega
      subst this
      rw [e, hk] at hq; cases hq⟩, by have := h.len; omega⟩
theorem GatI.take {m : Md} {P : ID → Bool} {i : Nat} {o : List ID} (hg : okG m.reverse) (h : GatI m P i o) (hi : i < m.length) (hk : P (m[i]).1 = true) : GatI m P (i + 1) (insL o (m[i]).1) := by
  have hn : (m[i]).1 ∉ o := fun hm => by
    obtain ⟨j, hj, hl, e, _⟩ := (h.mem _).1 hm
    have := key_inj hg hi hj e
    omega
  refine ⟨insL_rise h.rise hn, fun y => ?_, by rw [insL_len]; have := h.len; omega⟩
  rw [insL_mem, h.mem]
  constructor
  · rintro (e | ⟨j, hj, hl, e, hq⟩)
    · exact ⟨i, hi, by omega, e, by rw [e]; exact hk⟩
    · exact ⟨j, hj, by omega, e, hq⟩
  · rintro ⟨j, hj, hl, e, hq⟩
    rcases Nat.lt_or_ge j i with hlt | hge
    · exact .inr ⟨j, hj, hlt, e, hq⟩
    · have : j = i := by omega
      subst this; exact .inl e
theorem GatI.done {m : Md} {P : ID → Bool} {o : List ID} (h : GatI m P m.length o) (hP : ∀ y, P y = true → hasG m.reverse y = true) (y : ID) : y ∈ o ↔ P y = true := by
  rw [h.mem]
  constructor
  · rintro ⟨j, hj, _, e, hq⟩; exact hq
  · intro hk
    have := hP y hk
    rw [hasG_mem, List.map_reverse, List.mem_reverse, List.mem_map] at this
    obtain ⟨q, hq, e⟩ := this
    obtain ⟨j, hj, rfl⟩ := List.getElem_of_mem hq
    exact ⟨j, hj, hj, e.symm, hk⟩
/-- d stands above c -/
def badB (G : Dg) (a b c d : ID) : Bool := decide (d ≠ c) && (ancG G a d && (ancG G b d && ancG G d c))
def badN (m : Md) (a b c : ID) (k : Nat) : Bool := (m.take k).any fun q => badB m.reverse a b c q.1
theorem badN_succ (m : Md) (a b c : ID) (k : Nat) (hk : k < m.length) : badN m a b c (k + 1) = (badN m a b c k || badB m.reverse a b c (m[k]).1) := by
  unfold badN
  rw [List.take_succ_eq_append_getElem hk, List.any_append]
  simp
theorem base_of {m : Md} (hk : okG m.reverse) {a b c : ID} (h1 : ancG m.reverse a c = true) (h2 : ancG m.reverse b c = true) : basB m.reverse a b c = !badN m a b c m.length := by
  have e : basB m.reverse a b c = true ↔ badN m a b c m.length = false := by
    rw [← basB_iff hk, ← Bool.not_eq_true]
    refine ⟨fun h hb => ?_, fun h => ⟨⟨h1, h2⟩, fun ⟨d, ps, hd, hp, hm⟩ => h ?_⟩⟩
    · unfold badN at hb
      rw [List.any_eq_true] at hb
      obtain ⟨q, _, hq⟩ := hb
      simp only [badB, Bool.and_eq_true, decide_eq_true_eq] at hq
      obtain ⟨d, ps, e1, e2, e3⟩ := anc_last hk hq.2.2.2 hq.1
      exact h.2 ⟨d, ps, ⟨anc_trans hk hq.2.1 e1, anc_trans hk hq.2.2.1 e1⟩, e2, e3⟩
    · unfold badN
      rw [List.any_eq_true]
      have hq := (par_mem hk d ps).1 hp
      rw [List.mem_reverse] at hq
      refine ⟨(d, ps), by rw [List.take_length]; exact hq, ?_⟩
      have hl := depth_lt hk hp hm
      simp only [badB, Bool.and_eq_true, decide_eq_true_eq]
      exact ⟨fun e => by subst e; omega, hd.1, hd.2, anc_step hk (anc_refl (anc_has hk hd.1).2) hp hm⟩
  cases hb : badN m a b c m.length with
  | false => rw [e.2 hb]; rfl
  | true =>
    cases hx : basB m.reverse a b c with
    | false => rfl
    | true => rw [e.1 hx] at hb; cases hb
def Ba1 (w : World) (m : Md) (P : ID → Bool) (gk : Nat) (ov iv : Value) (wr : World) : Prop := ∃ (i : Nat) (o : List ID) (A : Option Addr) (c : Nat), iv = .int .i64 (i : Int) ∧ gk = m.length - i ∧ i ≤ m.length ∧ ov = .slice A o.length c ∧ Sl wr A (idc o) ∧ GatI m P i o ∧ Fr noB w wr
def Ba2 (w : World) (m : Md) (a b c : ID) (gk : Nat) (bv kv : Value) (wr : World) : Prop := ∃ k : Nat, kv = .int .i64 (k : Int) ∧ gk = m.length - k ∧ k ≤ m.length ∧ bv = .bool (!badN m a b c k) ∧ Fr noB w wr

set_option maxRecDepth 100000 in
set_option maxHeartbeats 2000000 in
theorem refBases_any (w : World) (A : Option Addr) (c n : Nat) (m : Md) (hn : m.length = n) (h : RfA w A m) (hk : okG m.reverse) (hb : m.length ≤ 1000000) (a b : ID) :
    Calls Try.prog 23 #[.slice A n c, encI a, encI b] w (GivL w fun l => Rise cmpI l ∧ ∀ y, y ∈ l ↔ BaseOf m.reverse a b y) := by
  subst hn
  have HK := Lib.hid hk
  clear hk
  have f0 : Fr noB w ((w.alloc (aro a)).alloc (aro b)) := ((Fr.refl noB w).alloc _).alloc _
  have ra := rdI_fr (rd_arr w a) (by simp) ((Fr.refl noB (w.alloc (aro a))).alloc (aro b)) (by simp [noB])
  have rb := rd_arr (w.alloc (aro a)) b
  rw [World.size_alloc] at rb
  go_enter Try.func23, Try.ntmps23
  go_wp2_with fail
  generalize (w.alloc (aro a)).alloc (aro b) = W at ra rb f0 ⊢
  generalize w.heap.size + 1 = pb at rb ⊢
  generalize w.heap.size = pa at ra ⊢
  have hW := h.fr0 f0
  have f1 : Fr noB W (W.alloc (.cells #[] 23)) := (Fr.refl noB W).alloc _
  go_loopg [7, 8, 9, 10, 11, 12] m.length (fun gk ov iv v9 v10 v11 v12 wr => Ba1 W m (basB m.reverse a b) gk ov iv wr)
  case atStart => exact ⟨0, [], _, _, rfl, rfl, by omega, rfl, Sl.nil _ _, ⟨by unfold Rise; simp, fun y => by simp, by simp⟩, f1⟩
  case round =>
    obtain ⟨i, o, A1, c1, rfl, rfl, hi, rfl, hso, hh, hf⟩ := hrel
    clear f1
    obtain ⟨wl, ewl⟩ : ∃ wl, wl = wr := ⟨wr, rfl⟩
    subst ewl
    have HH := Lib.hid hh
    have hol := hh.len
    clear hh
    by_cases hlt : i < m.length
    · have i0 : (0 : Int) ≤ (i : Int) := by omega
      have i1 : (i : Int) < (m.length : Int) := by omega
      obtain ⟨g, off, rfl⟩ := hW.ad (by omega)
      have hid : ∀ (k : Nat) (hk : k < m.length) w', Fr noB W w' → rdI w' g (off + k * 33) = some (m[k]).1 := fun k hk w' f => by
        obtain ⟨B, c2, hr, hs⟩ := hW.at k hk
        exact (hr.fr f (by simp [noB])).id
      have HID := Lib.hid hid
      have rc := hid i hlt _ hf
      clear hid
      generalize hc : (m[i]).1 = cc at rc
      have HC := Lib.hid hc
      clear hc
      have s1 : bxA (wl.alloc (aro zID)) wl.heap.size = some zID := bxA_new _ _
      obtain ⟨a1', a2', q0⟩ := putC_fr s1 cc
      have fb : Fr noB wl (putC (wl.alloc (aro zID)) wl.heap.size cc) := ((Fr.refl noB wl).alloc _).step1 a1' (Nat.le_refl _)
      have rc1 := rdI_fr rc (rdI_lt rc) ((Fr.refl noB wl).alloc (aro zID)) (by simp [noB])
      have rcc := bxA_rd q0
      have hfb := hf.step0 fb
      have rab := rdI_fr ra (rdI_lt ra) hfb (by simp [noB])
      have rbb := rdI_fr rb (rdI_lt rb) hfb (by simp [noB])
      have hsob := hso.fr0 fb
      clear a1' a2' hso
      go_wp2_with fail
      generalize wl.heap.size = pc at rcc hfb rab rbb hsob ⊢
      generalize putC (wl.alloc (aro zID)) pc cc = W2 at rcc hfb rab rbb hsob ⊢
      clear rc rc1 q0 s1 fb hf
      have hW2 := hW.fr0 hfb
      have hno : ∀ x y : ID, (ancG m.reverse a cc = false ∨ ancG m.reverse b cc = false) → basB m.reverse a b cc = false := fun _ _ h => by
        unfold basB comB
        rcases h with h | h <;> simp [h]
      have HNO := Lib.hid hno
      clear hno
      go_at_call 25
      refine (refReaches_any _ _ c _ m rfl hW2 HK.out hb a cc).mono ?_
      rintro e w3 ⟨rfl, f3⟩
      cases hac : ancG m.reverse a cc with
      | false =>
        have HN := Lib.hid (HH.out.skip hlt (by rw [HC.out]; exact (HNO.out a b (.inl hac))))
        go_wp2_with fail
        go_roundg (m.length - (i + 1))
        case measure => omega
        case rel => exact ⟨i + 1, o, A1, c1, by simp, rfl, by omega, rfl, hsob.fr0 f3, HN.out, hfb.step0 f3⟩
      | true =>
        have rbb3 := rdI_fr rbb (rdI_lt rbb) f3 (by simp [noB])
        have rcc3 := rdI_fr rcc (rdI_lt rcc) f3 (by simp [noB])
        go_wp2_with fail
        go_at_call 25
        refine (refReaches_any _ _ c _ m rfl (hW2.fr0 f3) HK.out hb b cc).mono ?_
        rintro e w4 ⟨rfl, f4⟩
        have f34 := f3.step0 f4
        cases hbc : ancG m.reverse b cc with
        | false =>
          have HN := Lib.hid (HH.out.skip hlt (by rw [HC.out]; exact (HNO.out a b (.inr hbc))))
          go_wp2_with fail
          go_roundg (m.length - (i + 1))
          case measure => omega
          case rel => exact ⟨i + 1, o, A1, c1, by simp, rfl, by omega, rfl, hsob.fr0 f34, HN.out, hfb.step0 f34⟩
        | true =>
          have hbase := base_of HK.out hac hbc
          have HBASE := Lib.hid hbase
          have HAC := Lib.hid hac
          have HBC := Lib.hid hbc
          have HID2 := HID
          clear hbase hac hbc rbb3 rcc3
          go_wp2_with fail
          go_loopg [10, 11, 12] m.length (fun gk bv kv v12 wr => Ba2 w4 m a b cc gk bv kv wr)
          case atStart => exact ⟨0, rfl, rfl, by omega, by simp [badN], Fr.refl _ _⟩
          case round =>
            obtain ⟨k, rfl, rfl, hkl, rfl, hf5⟩ := hrel
            obtain ⟨wm, ewm⟩ : ∃ wm, wm = wr := ⟨wr, rfl⟩
            subst ewm
            have f35 := f34.step0 hf5
            have hf6 := hfb.step0 f35
            by_cases hlk : k < m.length
            · have k0 : (0 : Int) ≤ (k : Int) := by omega
              have k1 : (k : Int) < (m.length : Int) := by omega
              have rd := HID.out k hlk _ hf6
              have hsucc := badN_succ m a b cc k hlk
              have hne : k ≠ i → (m[k]).1 ≠ cc := fun h e => h (key_inj HK.out hlk hlt (by rw [e, HC.out]))
              have heq : k = i → (m[k]).1 = cc := fun h => by subst h; exact HC.out
              generalize (m[k]).1 = d at rd hsucc hne heq
              have HS := Lib.hid hsucc
              have HNE := Lib.hid hne
              have HEQ := Lib.hid heq
              clear hsucc hne heq
              have s1 : bxA (wm.alloc (aro zID)) wm.heap.size = some zID := bxA_new _ _
              obtain ⟨a1', a2', q0⟩ := putC_fr s1 d
              have fc : Fr noB wm (putC (wm.alloc (aro zID)) wm.heap.size d) := ((Fr.refl noB wm).alloc _).step1 a1' (Nat.le_refl _)
              have rd1 := rdI_fr rd (rdI_lt rd) ((Fr.refl noB wm).alloc (aro zID)) (by simp [noB])
              have rdd := bxA_rd q0
              have f5c := hf5.step0 fc
              have f3c := f34.step0 f5c
              have ra7 := rdI_fr rab (rdI_lt rab) f3c (by simp [noB])
              have rb7 := rdI_fr rbb (rdI_lt rbb) f3c (by simp [noB])
              have rc7 := rdI_fr rcc (rdI_lt rcc) f3c (by simp [noB])
              have hW7 := hW2.fr0 f3c
              by_cases hki : k = i
              · have e1 : ((k : Int) != (i : Int)) = false := by rw [hki]; simp
                have e2 : d = cc := HEQ.out hki
                have HE := Lib.hid e2
                clear e2 hki
                go_wp2_with fail
                go_roundg (m.length - (k + 1))
                case measure => omega
                case rel => exact ⟨k + 1, by simp, rfl, by omega, by rw [HS.out]; simp [badB, HE.out], f5c⟩
              · have e1 : ((k : Int) != (i : Int)) = true := by rw [bne_iff_ne]; omega
                have e2 : d ≠ cc := HNE.out hki
                have HE := Lib.hid e2
                clear e2 hki
                go_wp2_with fail
                generalize wm.heap.size = pd at rdd f5c f3c ra7 rb7 rc7 hW7 ⊢
                generalize putC (wm.alloc (aro zID)) pd d = W7 at rdd f5c f3c ra7 rb7 rc7 hW7 ⊢
                clear rd rd1 q0 s1 fc a1' a2'
                go_at_call 25
                refine (refReaches_any _ _ c _ m rfl hW7 HK.out hb a d).mono ?_
                rintro e w8 ⟨rfl, f8⟩
                cases h1 : ancG m.reverse a d with
                | false =>
                  have H1 := Lib.hid h1
                  clear h1
                  go_wp2_with fail
                  go_roundg (m.length - (k + 1))
                  case measure => omega
                  case rel => exact ⟨k + 1, by simp, rfl, by omega, by rw [HS.out]; simp [badB, H1.out], (f5c.step0 f8)⟩
                | true =>
                  have H1 := Lib.hid h1
                  clear h1
                  have rb8 := rdI_fr rb7 (rdI_lt rb7) f8 (by simp [noB])
                  have rc8 := rdI_fr rc7 (rdI_lt rc7) f8 (by simp [noB])
                  have rd8 := rdI_fr rdd (rdI_lt rdd) f8 (by simp [noB])
                  go_wp2_with fail
                  go_at_call 25
                  refine (refReaches_any _ _ c _ m rfl (hW7.fr0 f8) HK.out hb b d).mono ?_
                  rintro e w9 ⟨rfl, f9⟩
                  cases h2 : ancG m.reverse b d with
                  | false =>
                    have H2 := Lib.hid h2
                    clear h2
                    go_wp2_with fail
                    go_roundg (m.length - (k + 1))
                    case measure => omega
                    case rel => exact ⟨k + 1, by simp, rfl, by omega, by rw [HS.out]; simp [badB, H2.out], ((f5c.step0 f8).step0 f9)⟩
                  | true =>
                    have H2 := Lib.hid h2
                    clear h2
                    have rc9 := rdI_fr rc8 (rdI_lt rc8) f9 (by simp [noB])
                    have rd9 := rdI_fr rd8 (rdI_lt rd8) f9 (by simp [noB])
                    go_wp2_with fail
                    go_at_call 25
                    refine (refReaches_any _ _ c _ m rfl ((hW7.fr0 f8).fr0 f9) HK.out hb d cc).mono ?_
                    rintro e w10 ⟨rfl, f10⟩
                    cases h3 : ancG m.reverse d cc with
                    | false =>
                      have H3 := Lib.hid h3
                      clear h3
                      go_wp2_with fail
                      go_roundg (m.length - (k + 1))
                      case measure => omega
                      case rel => exact ⟨k + 1, by simp, rfl, by omega, by rw [HS.out]; simp [badB, H3.out], (((f5c.step0 f8).step0 f9).step0 f10)⟩
                    | true =>
                      have H3 := Lib.hid h3
                      clear h3
                      go_wp2_with fail
                      go_roundg (m.length - (k + 1))
                      case measure => omega
                      case rel => exact ⟨k + 1, by simp, rfl, by omega, by rw [HS.out]; simp [badB, HE.out, H1.out, H2.out, H3.out], ((f5c.step0 f8).step0 f9).step0 f10⟩
            · have ek : k = m.length := by omega
              subst ek
              rw [← HBASE.out]
              have hso9 := hsob.fr0 f35
              have rc9 := rdI_fr rcc (rdI_lt rcc) f35 (by simp [noB])
              cases hbb : basB m.reverse a b cc with
              | false =>
                have HN := Lib.hid (HH.out.skip hlt (by rw [HC.out]; exact hbb))
                go_wp2_with fail
                go_roundg (m.length - (i + 1))
                case measure => omega
                case rel => exact ⟨i + 1, o, A1, c1, by simp, rfl, by omega, rfl, hsob.fr0 f35, HN.out, hfb.step0 f35⟩
              | true =>
                have hn := HH.out.take HK.out hlt (by rw [HC.out]; exact hbb)
                rw [HC.out] at hn
                have HN := Lib.hid hn
                clear hn hbb
                go_wp2_with fail
                go_at_call 38
                refine (insert_any _ A1 c1 _ o rfl hso9 (by omega) cc).mono ?_
                rintro e w5 ⟨A5, c5, rfl, ho5, hf5⟩
                go_wp2_with fail
                go_roundg (m.length - (i + 1))
                case measure => omega
                case rel => exact ⟨i + 1, _, A5, c5, by simp, rfl, by omega, rfl, Sl.own ho5, HN.out, hf6.step0 hf5⟩
    · have ei : i = m.length := by omega
      subst ei
      have hm := HH.out.done (fun y hy => by
        have := (basB_iff HK.out a b y).2 hy
        exact (anc_has HK.out this.1.1).2)
      have hm2 : ∀ y, y ∈ o ↔ BaseOf m.reverse a b y := fun y => (hm y).trans (basB_iff HK.out a b y).symm
      have hr := HH.out.rise
      have HM := Lib.hid hm2
      have HR := Lib.hid hr
      clear hm hm2 hr
      go_wp2_with fail
      go_ret
      exact ⟨o, A1, c1, rfl, hso, ⟨HR.out, HM.out⟩, by omega, f0.step0 hf⟩
end Go.Proofs.Ytchiclnnoealdaa
