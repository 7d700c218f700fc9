/- Contract: reach. -/
import Derived.Test.YtchiclnnoealdaaIdApp
import Derived.Test.YtchiclnnoealdaaDagQ
namespace Go.Proofs.Ytchiclnnoealdaa
open Go.RowKit Go.Maps Go.Sort
set_option linter.unusedVariables false
set_option linter.unusedSimpArgs false

/-- a new set -/
def NewSet (w : World) (S : ID → Prop) (e : Ending) (w' : World) : Prop := ∃ R l, e = .returned (.map (some R)) ∧ mpI w' R = some (setV l) ∧ (∀ y, y ∈ l ↔ S y) ∧ w.heap.size ≤ R ∧ Fr noB w w'
def ReaR (G : Dg) (ids : List ID) (w : World) (gk : Nat) (iv : Value) (wr : World) : Prop :=
  ∃ met todo A c, iv = .slice A todo.length c ∧ gk = 3 * (G.length - met.length) + todo.length ∧ Found G ids met todo ∧ OwnD w wr A c todo ∧ mpI wr w.heap.size = some (setV met) ∧ Fr noB w wr ∧ w.heap.size < wr.heap.size
theorem look_set (l : List ID) (x : ID) : (look (setV l) x).getD (.bool false) = .bool (decide (x ∈ l)) := by
  rw [look_setV]
  split <;> simp_all

set_option maxRecDepth 100000 in
set_option maxHeartbeats 2000000 in
theorem reach_any (w : World) (D : Nat) (F : Nat → Prop) (G : Dg) (h : DagAt w D F G) (P : Option Addr) (c n : Nat) (ids : List ID) (hn : ids.length = n) (hs : Sl w P (idc ids)) (hb : ids.length ≤ 1000000000) :
    Calls Try.prog 34 #[.pointer (some ⟨D, 0, none⟩), .slice P n c] w (NewSet w (Reached G ids)) := by
  subst hn
  have F1 : Fr noB w (w.alloc (.map #[] 0)) := (Fr.refl noB w).alloc _
  have hG := h
  obtain ⟨A, K, kv, ks, h⟩ := h
  go_enter Try.func34, Try.ntmps34
  go_wp2_with fail
  go_at_call 32
  refine (idclone_any _ P c ids _ rfl (hs.fr0 F1) (by omega)).mono ?_
  rintro e w2 ⟨A2, c2, rfl, ho2, hf2⟩
  have F2 := F1.step0 hf2
  have m2 : mpI w2 w.heap.size = some [] := mpI_fr (mpI_new w) hf2 (by simp [noB])
  go_wp2_with fail
  go_loopg [6] (3 * G.length + ids.length) (fun gk iv wr => ReaR G ids w gk iv wr)
  case atStart => exact ⟨[], ids, A2, c2, rfl, by simp, Found.start G ids, own_base ho2 (by simp), m2, F2, mpI_lt m2⟩
  case round =>
    obtain ⟨met, todo, Ar, cr, rfl, rfl, hfd, hor, hmr, hfr, hwr⟩ := hrel
    rcases List.eq_nil_or_concat todo with rfl | ⟨l, x, rfl⟩
    · have HD := Lib.hid (hfd.done h.ok)
      have HM := Lib.hid hmr
      clear hfd hmr
      go_wp2
      go_ret
      exact ⟨w.heap.size, met, rfl, HM.out, HD.out, Nat.le_refl _, hfr⟩
    · rw [List.concat_eq_append] at *
      obtain ⟨g, off, rfl⟩ := (Sl.own hor).ad (by simp)
      have r1 : rdI wr g (off + l.length * 32) = some x := by
        have := (Sl.own hor).id l.length (by simp)
        simpa using this
      have hoi := own_init hor
      have hln : (l ++ [x]).length = l.length + 1 := by simp
      have hml := nd_len hfd.nd hfd.has
      have hlen := hfd.len
      have HFD := Lib.hid hfd
      clear hfd hor
      rw [hln]
      rw [hln] at hlen
      have i1 : (l.length : Int) < ((l.length + 1 : Nat) : Int) := by omega
      have i2 : ((l.length + 1 : Nat) : Int) - 1 = l.length := by omega
      have p0 : (0 : Int) ≤ (l.length : Int) := by omega
      have hle := h.le
      have hwz : wrap64 (l.length : Int) = l.length := by unfold wrap64; omega
      have mx : mpI (wr.alloc (ido x)) w.heap.size = some (setV met) := by rw [mpI_old _ _ _ hwr]; exact hmr
      have lks := look_set met x
      have rx : rdI (wr.alloc (ido x)) wr.heap.size 0 = some x := rdI_new wr x
      have F3 : Fr noB w (wr.alloc (ido x)) := hfr.alloc _
      have ho3 : OwnD w (wr.alloc (ido x)) (some ⟨g, off, none⟩) cr l := own_fr hoi ((Fr.refl noB wr).alloc _) (fun _ _ => by simp [noB])
      have lc : l.length ≤ cr := by
        rcases hoi.2 with ⟨hv, _⟩ | ⟨g', cap, cur, hv, _, _, hnc, _⟩
        · cases hv
        · injection hv with _ _ h3; omega
      by_cases hm : x ∈ met
      · have hd : decide (x ∈ met) = true := by simp [hm]
        have HM := Lib.hid hm
        clear hm
        rw [hd] at lks
        go_wp2
        go_roundg (3 * (G.length - met.length) + l.length)
        case measure => omega
        case rel => exact ⟨met, l, _, cr, rfl, rfl, HFD.out.skip (.inl HM.out) h.ok, ho3, mx, F3, by simp; omega⟩
      · have hd : decide (x ∈ met) = false := by simp [hm]
        have HM := Lib.hid hm
        clear hm
        rw [hd] at lks
        go_wp2_with fail
        go_at_call 14
        refine (has_any _ D F G (hG.fr0 F3) x).mono ?_
        rintro e w4 ⟨rfl, hf4⟩
        have F4 := F3.step0 hf4
        have ho4 : OwnD w w4 (some ⟨g, off, none⟩) cr l := own_fr ho3 hf4 (fun _ _ => by simp [noB])
        have mx4 := mpI_fr mx hf4 (by simp [noB])
        have rx4 := rdI_fr rx (by simp) hf4 (by simp [noB])
        cases hx : hasG G x with
        | false =>
          go_wp2
          go_roundg (3 * (G.length - met.length) + l.length)
          case measure => omega
          case rel => exact ⟨met, l, _, cr, rfl, rfl, HFD.out.skip (.inr hx) h.ok, ho4, mx4, F4, by have := hf4.size; simp at this; omega⟩
        | true =>
          cases hp : parents G x with
          | none => simp [hasG, hp] at hx
          | some ps =>
          obtain ⟨u1, u2, u3, u4⟩ := mput_all Try.underlying60 mx4 x (.bool true)
          have fu : Fr noB w (mput 60 w4 w.heap.size x (.bool true)) := F4.step1 u3 (Nat.le_refl _)
          have h5 := h.fr0 fu.drew
          have rx5 : rdI (mput 60 w4 w.heap.size x (.bool true)).drew wr.heap.size 0 = some x := by rw [rdI_drew]; exact rdI_fr rx4 (rdI_lt rx4) u3 (fun e => rdI_ne rx4 mx4 e)
          obtain ⟨B, cB, hn, hB, hBF⟩ := h.node x
          rw [hp] at hn hB
          simp only [Option.getD_some] at hn hB
          have hq := okG_par h.ok hp
          go_wp2_with fail
          refine wp_region_N 9 (fun w' => w'.cell? ⟨D, 0, none⟩ = some (.map (some A)) ∧ mpI w' A = some kv ∧ rdI w' wr.heap.size 0 = some x) (by kernel_rfl) (by kernel_rfl) ⟨h5.c0, h5.all, rx5⟩ (fun hA hF => ?_)
          refine wpAnyN_take (i := 0) (v := ?_) hA rfl (by decide) (by kernel_rfl) (by kernel_rfl) (fun _ _ _ h => h) (Or.inl ⟨by rfl, ?_⟩) hF (fun hA => ?_)
          rotate_left
          · intro wS hSw; (try dsimp only at hSw); obtain ⟨s1, s2, s3⟩ := hSw; first | (apply Eq.trans; apply ex_ld_id; exact rfl; exact rfl; assumption; with_reducible rfl) | (go_simp; try with_reducible rfl)
          try simp only [List.getElem_toArray, List.getElem_cons_zero, List.getElem_cons_succ, Act.put, List.setIfInBounds_toArray, List.set_cons_zero, List.set_cons_succ]
          refine wpAnyN_take (i := 1) (v := ?_) hA rfl (by decide) (by kernel_rfl) (by kernel_rfl) (fun _ _ _ h => h) (Or.inl ⟨by rfl, ?_⟩) hF (fun hA => ?_)
          rotate_left
          · intro wS hSw; (try dsimp only at hSw); obtain ⟨s1, s2, s3⟩ := hSw; first | (apply Eq.trans; apply ex_ld_id; exact rfl; exact rfl; assumption; with_reducible rfl) | (go_simp; try with_reducible rfl)
          try simp only [List.getElem_toArray, List.getElem_cons_zero, List.getElem_cons_succ, Act.put, List.setIfInBounds_toArray, List.set_cons_zero, List.set_cons_succ]
          refine wpAnyN_take (i := 2) (v := ?_) hA rfl (by decide) (by kernel_rfl) (by kernel_rfl) (fun _ _ _ h => h) (Or.inl ⟨by rfl, ?_⟩) hF (fun hA => ?_)
          rotate_left
          · intro wS hSw; (try dsimp only at hSw); obtain ⟨s1, s2, s3⟩ := hSw; first | (apply Eq.trans; apply ex_ld_id; exact rfl; exact rfl; assumption; with_reducible rfl) | (go_simp; try with_reducible rfl)
          try simp only [List.getElem_toArray, List.getElem_cons_zero, List.getElem_cons_succ, Act.put, List.setIfInBounds_toArray, List.set_cons_zero, List.set_cons_succ]
          refine wpAnyN_take (i := 3) (v := ?_) hA rfl (by decide) (by kernel_rfl) (by kernel_rfl) (fun _ _ _ h => h) (Or.inl ⟨by rfl, ?_⟩) hF (fun hA => ?_)
          rotate_left
          · intro wS hSw; (try dsimp only at hSw); obtain ⟨s1, s2, s3⟩ := hSw; first | (apply Eq.trans; apply ex_ld_id; exact rfl; exact rfl; assumption; with_reducible rfl) | (go_simp; try with_reducible rfl)
          try simp only [List.getElem_toArray, List.getElem_cons_zero, List.getElem_cons_succ, Act.put, List.setIfInBounds_toArray, List.set_cons_zero, List.set_cons_succ]
          refine wpAnyN_take (i := 4) (v := ?_) hA rfl (by decide) (by kernel_rfl) (by kernel_rfl) (fun _ _ _ h => h) (Or.inl ⟨by rfl, ?_⟩) hF (fun hA => ?_)
          rotate_left
          · intro wS hSw; (try dsimp only at hSw); obtain ⟨s1, s2, s3⟩ := hSw; first | (apply Eq.trans; apply ex_ld_id; exact rfl; exact rfl; assumption; with_reducible rfl) | (go_simp; try with_reducible rfl)
          try simp only [List.getElem_toArray, List.getElem_cons_zero, List.getElem_cons_succ, Act.put, List.setIfInBounds_toArray, List.set_cons_zero, List.set_cons_succ]
          refine wpAnyN_take (i := 5) (v := ?_) hA rfl (by decide) (by kernel_rfl) (by kernel_rfl) (fun _ _ _ h => h) (Or.inl ⟨by rfl, ?_⟩) hF (fun hA => ?_)
          rotate_left
          · intro wS hSw; (try dsimp only at hSw); obtain ⟨s1, s2, s3⟩ := hSw; first | (apply Eq.trans; apply ex_ld_id; exact rfl; exact rfl; assumption; with_reducible rfl) | (go_simp; try with_reducible rfl)
          try simp only [List.getElem_toArray, List.getElem_cons_zero, List.getElem_cons_succ, Act.put, List.setIfInBounds_toArray, List.set_cons_zero, List.set_cons_succ]
          refine wpAnyN_take (i := 6) (v := ?_) hA rfl (by decide) (by kernel_rfl) (by kernel_rfl) (fun _ _ _ h => h) (Or.inl ⟨by rfl, ?_⟩) hF (fun hA => ?_)
          rotate_left
          · intro wS hSw; (try dsimp only at hSw); obtain ⟨s1, s2, s3⟩ := hSw; first | (apply Eq.trans; apply ex_ld_id; exact rfl; exact rfl; assumption; with_reducible rfl) | (go_simp; try with_reducible rfl)
          try simp only [List.getElem_toArray, List.getElem_cons_zero, List.getElem_cons_succ, Act.put, List.setIfInBounds_toArray, List.set_cons_zero, List.set_cons_succ]
          refine wpAnyN_take (i := 7) (v := ?_) hA rfl (by decide) (by kernel_rfl) (by kernel_rfl) (fun _ _ _ h => h) (Or.inl ⟨by rfl, ?_⟩) hF (fun hA => ?_)
          rotate_left
          · intro wS hSw; (try dsimp only at hSw); obtain ⟨s1, s2, s3⟩ := hSw; first | (apply Eq.trans; apply ex_ld_id; exact rfl; exact rfl; assumption; with_reducible rfl) | (go_simp; try with_reducible rfl)
          try simp only [List.getElem_toArray, List.getElem_cons_zero, List.getElem_cons_succ, Act.put, List.setIfInBounds_toArray, List.set_cons_zero, List.set_cons_succ]
          refine wpAnyN_one (i := 8) hA (by kernel_rfl) (by decide) rfl (fun K' hK => ?_)
          have ho5 : OwnD w (mput 60 w4 w.heap.size x (.bool true)).drew (some ⟨g, off, none⟩) cr l := own_fr ho4 u3.drew (by
            intro b hb e
            rcases ho4.2 with ⟨hv, _⟩ | ⟨g', cap, cur, hv, _, hcell, _⟩
            · cases hv
            · injection hv with h1 _ _
              injection h1 with h1
              injection h1 with h1 h2
              have hb' : b = g := by simpa [Value.ownBlock] using hb.symm
              have e' : b = w.heap.size := e
              exact mp_ne mx4 hcell (by omega))
          refine step_appD w _ rfl _ _ rfl (some ⟨g, off, none⟩) l.length cr l rfl rfl ho5 B ps.length cB ps rfl (hB.fr0 fu.drew) rfl (by omega) fu.size ?_
          intro A6 c6 w6 hc6 hm6 ho6 hg6 hA6
          have gB : w.heap.size ≤ g ∧ g ≠ w.heap.size := by
            rcases ho5.2 with ⟨hv, _⟩ | ⟨g', cap, cur, hv, hb1, hcell, _⟩
            · cases hv
            · injection hv with h1 _ _
              injection h1 with h1
              injection h1 with h1 h2
              subst h1
              exact ⟨hb1, mp_ne (w := (mput 60 w4 w.heap.size x (.bool true)).drew) (by rw [mpI_drew]; exact u2) hcell⟩
          have fg : Fr (oneB g) (mput 60 w4 w.heap.size x (.bool true)).drew w6 := Fr.ofGrown hg6 (fun b hb => by simp at hb; exact hb.symm)
          have F6 : Fr noB w w6 := fu.drew.step1 fg gB.1
          have h6 := h.fr0 F6
          refine hK.out _ _ ⟨h6.c0, h6.all, rdI_fr rx5 (rdI_lt rx5) fg (fun e => ?_)⟩ (fun hA => ?_)
          · have := ((Off.own hoi) _ rfl).2
            have e' : wr.heap.size = g := e
            simp only at this
            omega
          clear hK K'
          refine wpAnyN_end rfl (by kernel_rfl) ?_
          simp only [List.drop_succ_cons, List.drop_zero]
          have m6 : mpI w6 w.heap.size = some (setV (met ++ [x])) := by
            refine mpI_fr ?_ fg (fun e => gB.2 e.symm)
            rw [mpI_drew, u2, put_setV, if_neg HM.out]
          have hf6 := HFD.out.take HM.out hp h.ok
          have l6 := nd_len hf6.nd hf6.has
          have hln6 : (met ++ [x]).length = met.length + 1 := by simp
          have hlp : (l ++ ps).length = l.length + ps.length := by simp
          have HF6 := Lib.hid hf6
          clear hf6
          rw [hln6] at l6
          go_wp2
          go_roundg (3 * (G.length - (met ++ [x]).length) + (l ++ ps).length)
          case measure => rw [hln6, hlp]; omega
          case rel => exact ⟨met ++ [x], l ++ ps, A6, c6, by rw [hlp], rfl, HF6.out, ho6, m6, F6, mpI_lt m6⟩
end Go.Proofs.Ytchiclnnoealdaa
