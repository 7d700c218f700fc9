/- Contract: the reference's Heads. (ex_ld_arr: loads of arrays are met by that rule.) -/
import Derived.Test.YtchiclnnoealdaaRefI
namespace Go.Proofs.Ytchiclnnoealdaa
open Go.RowKit Go.Maps Go.Sort Go.Shelf
set_option linter.unusedVariables false
set_option linter.unusedSimpArgs false

def GivL (w : World) (P : List ID → Prop) (e : Ending) (w' : World) : Prop := ∃ l A c, e = .returned (.slice A l.length c) ∧ Sl w' A (idc l) ∧ P l ∧ l.length ≤ 1000000 ∧ Fr noB w w'
/-- the heads among the first i -/
structure HeaI (m : Md) (i : Nat) (o : List ID) : Prop where
  rise : Rise cmpI o
  mem : ∀ y, y ∈ o ↔ ∃ j, ∃ h : j < m.length, j < i ∧ y = (m[j]).1 ∧ isKid m.reverse y = false
  len : o.length ≤ i
theorem HeaI.skip {m : Md} {i : Nat} {o : List ID} (h : HeaI m i o) (hi : i < m.length) (hk : isKid m.reverse (m[i]).1 = true) : HeaI m (i + 1) o :=
  ⟨h.rise, fun y => (h.mem y).trans ⟨fun ⟨j, hj, hl, e, hq⟩ => ⟨j, hj, by omega, e, hq⟩, fun ⟨j, hj, hl, e, hq⟩ => by
    rcases Nat.lt_or_ge j i with hlt | hge
    · exact ⟨j, hj, hlt, e, hq⟩
    · have : j = i := by omega
      subst this
      rw [e, hk] at hq; cases hq⟩, by have := h.len; omega⟩
theorem HeaI.take {m : Md} {i : Nat} {o : List ID} (hg : okG m.reverse) (h : HeaI m i o) (hi : i < m.length) (hk : isKid m.reverse (m[i]).1 = false) : HeaI m (i + 1) (insL o (m[i]).1) := by
  have hn : (m[i]).1 ∉ o := fun hm => by
    obtain ⟨j, hj, hl, e, _⟩ := (h.mem _).1 hm
    have := key_inj hg hi hj e
    omega
  refine ⟨insL_rise h.rise hn, fun y => ?_, by rw [insL_len]; have := h.len; omega⟩
  rw [insL_mem, h.mem]
  constructor
  · rintro (e | ⟨j, hj, hl, e, hq⟩)
    · exact ⟨i, hi, by omega, e, by rw [e]; exact hk⟩
    · exact ⟨j, hj, by omega, e, hq⟩
  · rintro ⟨j, hj, hl, e, hq⟩
    rcases Nat.lt_or_ge j i with hlt | hge
    · exact .inr ⟨j, hj, hlt, e, hq⟩
    · have : j = i := by omega
      subst this; exact .inl e
theorem HeaI.done {m : Md} {o : List ID} (h : HeaI m m.length o) (y : ID) : y ∈ o ↔ (hasG m.reverse y = true ∧ isKid m.reverse y = false) := by
  rw [h.mem, hasG_mem, List.map_reverse, List.mem_reverse, List.mem_map]
  constructor
  · rintro ⟨j, hj, _, e, hq⟩; exact ⟨⟨_, List.getElem_mem hj, e.symm⟩, hq⟩
  · rintro ⟨⟨q, hq, e⟩, hk⟩
    obtain ⟨j, hj, rfl⟩ := List.getElem_of_mem hq
    exact ⟨j, hj, hj, e.symm, hk⟩
def kidN (m : Md) (k : Nat) (y : ID) : Bool := (m.take k).any fun p => decide (y ∈ p.2)
theorem kidN_all (m : Md) (y : ID) : kidN m m.length y = isKid m.reverse y := by
  unfold kidN isKid
  rw [List.take_length, List.any_reverse]
theorem kidN_succ (m : Md) (k : Nat) (hk : k < m.length) (y : ID) : kidN m (k + 1) y = (kidN m k y || decide (y ∈ (m[k]).2)) := by
  unfold kidN
  rw [List.take_succ_eq_append_getElem hk, List.any_append]
  simp
def He1 (w : World) (m : Md) (gk : Nat) (ov iv : Value) (wr : World) : Prop := ∃ (i : Nat) (o : List ID) (A : Option Addr) (c : Nat), iv = .int .i64 (i : Int) ∧ gk = m.length - i ∧ i ≤ m.length ∧ ov = .slice A o.length c ∧ Sl wr A (idc o) ∧ HeaI m i o ∧ Fr noB w wr
def He2 (w : World) (m : Md) (y : ID) (gk : Nat) (bv kv : Value) (wr : World) : Prop := ∃ k : Nat, kv = .int .i64 (k : Int) ∧ gk = m.length - k ∧ k ≤ m.length ∧ bv = .bool (kidN m k y) ∧ Fr noB w wr
def He3 (w : World) (m : Md) (y : ID) (k : Nat) (ps : List ID) (gk : Nat) (bv jv : Value) (wr : World) : Prop := ∃ j : Nat, jv = .int .i64 (j : Int) ∧ gk = ps.length - j ∧ j ≤ ps.length ∧ bv = .bool (kidN m k y || decide (y ∈ ps.take j)) ∧ Fr noB w wr

set_option maxRecDepth 100000 in
set_option maxHeartbeats 2000000 in
theorem refHeads_any (w : World) (A : Option Addr) (c n : Nat) (m : Md) (hn : m.length = n) (h : RfA w A m) (hk : okG m.reverse) (hb : m.length ≤ 1000000) :
    Calls Try.prog 27 #[.slice A n c] w (GivL w fun l => Rise cmpI l ∧ ∀ y, y ∈ l ↔ (hasG m.reverse y = true ∧ isKid m.reverse y = false)) := by
  subst hn
  have HK := Lib.hid hk
  clear hk
  have f0 : Fr noB w (w.alloc (.cells #[] 23)) := (Fr.refl noB w).alloc _
  go_enter Try.func27, Try.ntmps27
  go_wp2_with fail
  go_loopg [3, 4, 5, 6, 7] m.length (fun gk ov iv v5 v6 v7 wr => He1 w m gk ov iv wr)
  case atStart => exact ⟨0, [], _, _, rfl, rfl, by omega, rfl, Sl.nil _ _, ⟨by unfold Rise; simp, fun y => by simp, by simp⟩, f0⟩
  case round =>
    obtain ⟨i, o, A1, c1, rfl, rfl, hi, rfl, hso, hh, hf⟩ := hrel
    clear f0
    obtain ⟨wl, ewl⟩ : ∃ wl, wl = wr := ⟨wr, rfl⟩
    subst ewl
    have HH := Lib.hid hh
    have hol := hh.len
    clear hh
    by_cases hlt : i < m.length
    · have i0 : (0 : Int) ≤ (i : Int) := by omega
      have i1 : (i : Int) < (m.length : Int) := by omega
      obtain ⟨g, off, rfl⟩ := h.ad (by omega)
      have hid : ∀ (k : Nat) (hk : k < m.length) w', Fr noB w w' → rdI w' g (off + k * 33) = some (m[k]).1 := fun k hk w' f => by
        obtain ⟨B, c2, hr, hs⟩ := h.at k hk
        exact (hr.fr f (by simp [noB])).id
      have HID := Lib.hid hid
      clear hid
      generalize hy : (m[i]).1 = y
      have HY := Lib.hid hy
      clear hy
      go_wp2_with fail
      go_loopg [5, 6, 7] m.length (fun gk bv kv v7 wr2 => He2 wl m y gk bv kv wr2)
      case atStart => exact ⟨0, rfl, rfl, by omega, rfl, Fr.refl _ _⟩
      case round =>
        obtain ⟨k, rfl, rfl, hkl, rfl, hf2⟩ := hrel
        by_cases hlk : k < m.length
        · have k0 : (0 : Int) ≤ (k : Int) := by omega
          have k1 : (k : Int) < (m.length : Int) := by omega
          obtain ⟨wk, ewk⟩ : ∃ wk, wk = wr := ⟨wr, rfl⟩
          subst ewk
          have hfk := hf.step0 hf2
          obtain ⟨B2, c2, hr0, hs0⟩ := h.at k hlk
          have hse : ∀ w', Fr noB w w' → w'.cell? ⟨g, off + k * 33 + 32, none⟩ = some (.slice B2 (m[k]).2.length c2) := fun w' f => (hr0.fr f (by simp [noB])).sl
          have hks := kidN_succ m k hlk y
          have hpl := ps_len HK.out k hlk
          generalize (m[k]).2 = ps at hse hs0 hks hpl
          have HSE := Lib.hid hse
          have HKS := Lib.hid hks
          clear hse hks hr0
          have hsl := HSE.out _ hfk
          go_wp2_with fail
          go_loopg [5, 7] ps.length (fun gk bv jv wr3 => He3 wk m y k ps gk bv jv wr3)
          case atStart => exact ⟨0, rfl, rfl, by omega, by simp, Fr.refl _ _⟩
          case round =>
            obtain ⟨j, rfl, rfl, hjl, rfl, hf3⟩ := hrel
            have hfj := hfk.step0 hf3
            clear hsl
            have hsl := HSE.out _ hfj
            by_cases hlj : j < ps.length
            · have j0 : (0 : Int) ≤ (j : Int) := by omega
              have j1 : (j : Int) < (ps.length : Int) := by omega
              obtain ⟨gB, oB, rfl⟩ := hs0.ad (by omega)
              have rq := (hs0.fr0 hfj.drew).id j hlj
              have hts : ps.take (j + 1) = ps.take j ++ [ps[j]] := List.take_succ_eq_append_getElem hlj
              generalize ps[j] = q at rq hts
              have ryy : rdI wr.drew g (off + i * 33) = some y := by have := HID.out i hlt _ hfj.drew; rw [HY.out] at this; exact this
              have F0 : wr.drew.cell? ⟨g, off + k * 33 + 32, none⟩ = some (.slice (some ⟨gB, oB, none⟩) ps.length c2) ∧ rdI wr.drew gB (oB + j * 32) = some q ∧ rdI wr.drew g (off + i * 33) = some y := ⟨HSE.out _ hfj.drew, rq, ryy⟩
              have hbs : (kidN m k y || decide (y ∈ ps.take (j + 1))) = ((kidN m k y || decide (y ∈ ps.take j)) || decide (q = y)) := by
                rw [hts, Bool.or_assoc]
                congr 1
                rw [Bool.eq_iff_iff]
                simp only [List.mem_append, List.mem_singleton, Bool.or_eq_true, decide_eq_true_eq]
                exact or_congr_right eq_comm
              have HBS := Lib.hid hbs
              clear hts hbs rq ryy
              generalize (kidN m k y || decide (y ∈ ps.take j)) = b at HBS
              cases b with
              | true =>
                go_wp2_with fail
                refine wp_region_M 17 18 [⟨2147483648, 32, 0⟩, ⟨4294967296, 2147483648, 1⟩, ⟨8589934592, 4294967297, 2⟩, ⟨17179869184, 4294967360, 2⟩, ⟨34359738368, 30064771072, 14⟩, ⟨68719476736, 38654705664, 18⟩, ⟨137438953472, 73014444032, 34⟩, ⟨274877906944, 4294967424, 2⟩, ⟨549755813888, 416611827712, 194⟩, ⟨1099511627776, 554050781184, 258⟩, ⟨2199023255552, 4294967297, 2⟩, ⟨4398046511104, 4294967312, 2⟩, ⟨8796093022208, 6601364733952, 3074⟩, ⟨17592186044416, 8800387989504, 4098⟩, ⟨35184372088832, 17596481011712, 8194⟩, ⟨70368744177664, 36288178683904, 16898⟩, ⟨140737488355328, 70373039144960, 32770⟩, ⟨32, 140737488355328, 131071⟩] [(true, 0), (true, 1), (true, 2), (true, 3), (true, 4), (true, 5), (true, 6), (true, 7), (true, 8), (true, 9), (true, 10), (true, 11), (true, 12), (true, 13), (true, 14), (true, 15), (true, 16)] (fun w' => w'.cell? ⟨g, off + k * 33 + 32, none⟩ = some (.slice (some ⟨gB, oB, none⟩) ps.length c2) ∧ rdI w' gB (oB + j * 32) = some q ∧ rdI w' g (off + i * 33) = some y) (by kernel_rfl) rfl (by kernel_rfl) (by kernel_rfl) (by kernel_rfl) F0 (fun hA hF => ?_)
                refine wpAnyS_take (v := ?_) hA rfl (fun _ _ _ h => h) (Or.inl ⟨by rfl, ?_⟩) hF (fun hA => ?_)
                rotate_left
                · intro wS hSw; (try dsimp only at hSw); obtain ⟨s1, s2, s3⟩ := hSw; first | (apply Eq.trans; apply ex_ld_id; exact rfl; exact rfl; assumption; with_reducible rfl) | (apply Eq.trans; apply ex_ld_arr; exact rfl; exact rfl; assumption; with_reducible rfl) | (go_simp; try with_reducible rfl)
                try simp only [List.getElem_toArray, List.getElem_cons_zero, List.getElem_cons_succ, Act.put, List.setIfInBounds_toArray, List.set_cons_zero, List.set_cons_succ]
                refine wpAnyS_take (v := ?_) hA rfl (fun _ _ _ h => h) (Or.inl ⟨by rfl, ?_⟩) hF (fun hA => ?_)
                rotate_left
                · intro wS hSw; (try dsimp only at hSw); obtain ⟨s1, s2, s3⟩ := hSw; first | (apply Eq.trans; apply ex_ld_id; exact rfl; exact rfl; assumption; with_reducible rfl) | (apply Eq.trans; apply ex_ld_arr; exact rfl; exact rfl; assumption; with_reducible rfl) | (go_simp; try with_reducible rfl)
                try simp only [List.getElem_toArray, List.getElem_cons_zero, List.getElem_cons_succ, Act.put, List.setIfInBounds_toArray, List.set_cons_zero, List.set_cons_succ]
                refine wpAnyS_take (v := undef) hA rfl (fun _ _ _ h => h) (Or.inr ⟨by rfl, rfl⟩) hF (fun hA => ?_)
                try simp only [List.getElem_toArray, List.getElem_cons_zero, List.getElem_cons_succ, Act.put, List.setIfInBounds_toArray, List.set_cons_zero, List.set_cons_succ]
                refine wpAnyS_take (v := undef) hA rfl (fun _ _ _ h => h) (Or.inr ⟨by rfl, rfl⟩) hF (fun hA => ?_)
                try simp only [List.getElem_toArray, List.getElem_cons_zero, List.getElem_cons_succ, Act.put, List.setIfInBounds_toArray, List.set_cons_zero, List.set_cons_succ]
                refine wpAnyS_take (v := undef) hA rfl (fun _ _ _ h => h) (Or.inr ⟨by rfl, rfl⟩) hF (fun hA => ?_)
                try simp only [List.getElem_toArray, List.getElem_cons_zero, List.getElem_cons_succ, Act.put, List.setIfInBounds_toArray, List.set_cons_zero, List.set_cons_succ]
                refine wpAnyS_take (v := undef) hA rfl (fun _ _ _ h => h) (Or.inr ⟨by rfl, rfl⟩) hF (fun hA => ?_)
                try simp only [List.getElem_toArray, List.getElem_cons_zero, List.getElem_cons_succ, Act.put, List.setIfInBounds_toArray, List.set_cons_zero, List.set_cons_succ]
                refine wpAnyS_take (v := undef) hA rfl (fun _ _ _ h => h) (Or.inr ⟨by rfl, rfl⟩) hF (fun hA => ?_)
                try simp only [List.getElem_toArray, List.getElem_cons_zero, List.getElem_cons_succ, Act.put, List.setIfInBounds_toArray, List.set_cons_zero, List.set_cons_succ]
                refine wpAnyS_take (v := undef) hA rfl (fun _ _ _ h => h) (Or.inr ⟨by rfl, rfl⟩) hF (fun hA => ?_)
                try simp only [List.getElem_toArray, List.getElem_cons_zero, List.getElem_cons_succ, Act.put, List.setIfInBounds_toArray, List.set_cons_zero, List.set_cons_succ]
                refine wpAnyS_take (v := undef) hA rfl (fun _ _ _ h => h) (Or.inr ⟨by rfl, rfl⟩) hF (fun hA => ?_)
                try simp only [List.getElem_toArray, List.getElem_cons_zero, List.getElem_cons_succ, Act.put, List.setIfInBounds_toArray, List.set_cons_zero, List.set_cons_succ]
                refine wpAnyS_take (v := undef) hA rfl (fun _ _ _ h => h) (Or.inr ⟨by rfl, rfl⟩) hF (fun hA => ?_)
                try simp only [List.getElem_toArray, List.getElem_cons_zero, List.getElem_cons_succ, Act.put, List.setIfInBounds_toArray, List.set_cons_zero, List.set_cons_succ]
                refine wpAnyS_take (v := undef) hA rfl (fun _ _ _ h => h) (Or.inr ⟨by rfl, rfl⟩) hF (fun hA => ?_)
                try simp only [List.getElem_toArray, List.getElem_cons_zero, List.getElem_cons_succ, Act.put, List.setIfInBounds_toArray, List.set_cons_zero, List.set_cons_succ]
                refine wpAnyS_take (v := undef) hA rfl (fun _ _ _ h => h) (Or.inr ⟨by rfl, rfl⟩) hF (fun hA => ?_)
                try simp only [List.getElem_toArray, List.getElem_cons_zero, List.getElem_cons_succ, Act.put, List.setIfInBounds_toArray, List.set_cons_zero, List.set_cons_succ]
                refine wpAnyS_take (v := undef) hA rfl (fun _ _ _ h => h) (Or.inr ⟨by rfl, rfl⟩) hF (fun hA => ?_)
                try simp only [List.getElem_toArray, List.getElem_cons_zero, List.getElem_cons_succ, Act.put, List.setIfInBounds_toArray, List.set_cons_zero, List.set_cons_succ]
                refine wpAnyS_take (v := undef) hA rfl (fun _ _ _ h => h) (Or.inr ⟨by rfl, rfl⟩) hF (fun hA => ?_)
                try simp only [List.getElem_toArray, List.getElem_cons_zero, List.getElem_cons_succ, Act.put, List.setIfInBounds_toArray, List.set_cons_zero, List.set_cons_succ]
                refine wpAnyS_take (v := undef) hA rfl (fun _ _ _ h => h) (Or.inr ⟨by rfl, rfl⟩) hF (fun hA => ?_)
                try simp only [List.getElem_toArray, List.getElem_cons_zero, List.getElem_cons_succ, Act.put, List.setIfInBounds_toArray, List.set_cons_zero, List.set_cons_succ]
                refine wpAnyS_take (v := undef) hA rfl (fun _ _ _ h => h) (Or.inr ⟨by rfl, rfl⟩) hF (fun hA => ?_)
                try simp only [List.getElem_toArray, List.getElem_cons_zero, List.getElem_cons_succ, Act.put, List.setIfInBounds_toArray, List.set_cons_zero, List.set_cons_succ]
                refine wpAnyS_take (v := ?_) hA rfl (fun _ _ _ h => h) (Or.inl ⟨by rfl, ?_⟩) hF (fun hA => ?_)
                rotate_left
                · intro wS hSw; (try dsimp only at hSw); obtain ⟨s1, s2, s3⟩ := hSw; first | (apply Eq.trans; apply ex_ld_id; exact rfl; exact rfl; assumption; with_reducible rfl) | (apply Eq.trans; apply ex_ld_arr; exact rfl; exact rfl; assumption; with_reducible rfl) | (go_simp; try with_reducible rfl)
                try simp only [List.getElem_toArray, List.getElem_cons_zero, List.getElem_cons_succ, Act.put, List.setIfInBounds_toArray, List.set_cons_zero, List.set_cons_succ]
                refine wpAnyS_end hA rfl ?_
                simp only [List.drop_succ_cons, List.drop_zero]
                clear hF
                go_wp2_with fail
                go_roundg (ps.length - (j + 1))
                case measure => omega
                case rel => exact ⟨j + 1, by simp, rfl, by omega, by rw [HBS.out]; rfl, hf3.drew⟩
              | false =>
                go_wp2_with fail
                refine wp_region_M 17 18 [⟨2147483648, 32, 0⟩, ⟨4294967296, 2147483648, 1⟩, ⟨8589934592, 4294967297, 2⟩, ⟨17179869184, 4294967360, 2⟩, ⟨34359738368, 30064771072, 14⟩, ⟨68719476736, 38654705664, 18⟩, ⟨137438953472, 73014444032, 34⟩, ⟨274877906944, 4294967424, 2⟩, ⟨549755813888, 416611827712, 194⟩, ⟨1099511627776, 554050781184, 258⟩, ⟨2199023255552, 4294967297, 2⟩, ⟨4398046511104, 4294967312, 2⟩, ⟨8796093022208, 6601364733952, 3074⟩, ⟨17592186044416, 8800387989504, 4098⟩, ⟨35184372088832, 17596481011712, 8194⟩, ⟨70368744177664, 36288178683904, 16898⟩, ⟨140737488355328, 70373039144960, 32770⟩, ⟨32, 140737488355328, 131071⟩] [(true, 0), (true, 1), (true, 2), (true, 3), (true, 4), (true, 5), (true, 6), (true, 7), (true, 8), (true, 9), (true, 10), (true, 11), (true, 12), (true, 13), (true, 14), (true, 15), (true, 16)] (fun w' => w'.cell? ⟨g, off + k * 33 + 32, none⟩ = some (.slice (some ⟨gB, oB, none⟩) ps.length c2) ∧ rdI w' gB (oB + j * 32) = some q ∧ rdI w' g (off + i * 33) = some y) (by kernel_rfl) rfl (by kernel_rfl) (by kernel_rfl) (by kernel_rfl) F0 (fun hA hF => ?_)
                refine wpAnyS_take (v := ?_) hA rfl (fun _ _ _ h => h) (Or.inl ⟨by rfl, ?_⟩) hF (fun hA => ?_)
                rotate_left
                · intro wS hSw; (try dsimp only at hSw); obtain ⟨s1, s2, s3⟩ := hSw; first | (apply Eq.trans; apply ex_ld_id; exact rfl; exact rfl; assumption; with_reducible rfl) | (apply Eq.trans; apply ex_ld_arr; exact rfl; exact rfl; assumption; with_reducible rfl) | (go_simp; try with_reducible rfl)
                try simp only [List.getElem_toArray, List.getElem_cons_zero, List.getElem_cons_succ, Act.put, List.setIfInBounds_toArray, List.set_cons_zero, List.set_cons_succ]
                refine wpAnyS_take (v := ?_) hA rfl (fun _ _ _ h => h) (Or.inl ⟨by rfl, ?_⟩) hF (fun hA => ?_)
                rotate_left
                · intro wS hSw; (try dsimp only at hSw); obtain ⟨s1, s2, s3⟩ := hSw; first | (apply Eq.trans; apply ex_ld_id; exact rfl; exact rfl; assumption; with_reducible rfl) | (apply Eq.trans; apply ex_ld_arr; exact rfl; exact rfl; assumption; with_reducible rfl) | (go_simp; try with_reducible rfl)
                try simp only [List.getElem_toArray, List.getElem_cons_zero, List.getElem_cons_succ, Act.put, List.setIfInBounds_toArray, List.set_cons_zero, List.set_cons_succ]
                refine wpAnyS_take (v := ?_) hA rfl (fun _ _ _ h => h) (Or.inl ⟨by rfl, ?_⟩) hF (fun hA => ?_)
                rotate_left
                · intro wS hSw; (try dsimp only at hSw); obtain ⟨s1, s2, s3⟩ := hSw; first | (apply Eq.trans; apply ex_ld_id; exact rfl; exact rfl; assumption; with_reducible rfl) | (apply Eq.trans; apply ex_ld_arr; exact rfl; exact rfl; assumption; with_reducible rfl) | (go_simp; try with_reducible rfl)
                try simp only [List.getElem_toArray, List.getElem_cons_zero, List.getElem_cons_succ, Act.put, List.setIfInBounds_toArray, List.set_cons_zero, List.set_cons_succ]
                refine wpAnyS_take (v := ?_) hA rfl (fun _ _ _ h => h) (Or.inl ⟨by rfl, ?_⟩) hF (fun hA => ?_)
                rotate_left
                · intro wS hSw; (try dsimp only at hSw); obtain ⟨s1, s2, s3⟩ := hSw; first | (apply Eq.trans; apply ex_ld_id; exact rfl; exact rfl; assumption; with_reducible rfl) | (apply Eq.trans; apply ex_ld_arr; exact rfl; exact rfl; assumption; with_reducible rfl) | (go_simp; try with_reducible rfl)
                try simp only [List.getElem_toArray, List.getElem_cons_zero, List.getElem_cons_succ, Act.put, List.setIfInBounds_toArray, List.set_cons_zero, List.set_cons_succ]
                refine wpAnyS_take (v := ?_) hA rfl (fun _ _ _ h => h) (Or.inl ⟨by rfl, ?_⟩) hF (fun hA => ?_)
                rotate_left
                · intro wS hSw; (try dsimp only at hSw); obtain ⟨s1, s2, s3⟩ := hSw; first | (apply Eq.trans; apply ex_ld_id; exact rfl; exact rfl; assumption; with_reducible rfl) | (apply Eq.trans; apply ex_ld_arr; exact rfl; exact rfl; assumption; with_reducible rfl) | (go_simp; try with_reducible rfl)
                try simp only [List.getElem_toArray, List.getElem_cons_zero, List.getElem_cons_succ, Act.put, List.setIfInBounds_toArray, List.set_cons_zero, List.set_cons_succ]
                refine wpAnyS_take (v := ?_) hA rfl (fun _ _ _ h => h) (Or.inl ⟨by rfl, ?_⟩) hF (fun hA => ?_)
                rotate_left
                · intro wS hSw; (try dsimp only at hSw); obtain ⟨s1, s2, s3⟩ := hSw; first | (apply Eq.trans; apply ex_ld_id; exact rfl; exact rfl; assumption; with_reducible rfl) | (apply Eq.trans; apply ex_ld_arr; exact rfl; exact rfl; assumption; with_reducible rfl) | (go_simp; try with_reducible rfl)
                try simp only [List.getElem_toArray, List.getElem_cons_zero, List.getElem_cons_succ, Act.put, List.setIfInBounds_toArray, List.set_cons_zero, List.set_cons_succ]
                refine wpAnyS_take (v := ?_) hA rfl (fun _ _ _ h => h) (Or.inl ⟨by rfl, ?_⟩) hF (fun hA => ?_)
                rotate_left
                · intro wS hSw; (try dsimp only at hSw); obtain ⟨s1, s2, s3⟩ := hSw; first | (apply Eq.trans; apply ex_ld_id; exact rfl; exact rfl; assumption; with_reducible rfl) | (apply Eq.trans; apply ex_ld_arr; exact rfl; exact rfl; assumption; with_reducible rfl) | (go_simp; try with_reducible rfl)
                try simp only [List.getElem_toArray, List.getElem_cons_zero, List.getElem_cons_succ, Act.put, List.setIfInBounds_toArray, List.set_cons_zero, List.set_cons_succ]
                refine wpAnyS_take (v := ?_) hA rfl (fun _ _ _ h => h) (Or.inl ⟨by rfl, ?_⟩) hF (fun hA => ?_)
                rotate_left
                · intro wS hSw; (try dsimp only at hSw); obtain ⟨s1, s2, s3⟩ := hSw; first | (apply Eq.trans; apply ex_ld_id; exact rfl; exact rfl; assumption; with_reducible rfl) | (apply Eq.trans; apply ex_ld_arr; exact rfl; exact rfl; assumption; with_reducible rfl) | (go_simp; try with_reducible rfl)
                try simp only [List.getElem_toArray, List.getElem_cons_zero, List.getElem_cons_succ, Act.put, List.setIfInBounds_toArray, List.set_cons_zero, List.set_cons_succ]
                refine wpAnyS_take (v := ?_) hA rfl (fun _ _ _ h => h) (Or.inl ⟨by rfl, ?_⟩) hF (fun hA => ?_)
                rotate_left
                · intro wS hSw; (try dsimp only at hSw); obtain ⟨s1, s2, s3⟩ := hSw; first | (apply Eq.trans; apply ex_ld_id; exact rfl; exact rfl; assumption; with_reducible rfl) | (apply Eq.trans; apply ex_ld_arr; exact rfl; exact rfl; assumption; with_reducible rfl) | (go_simp; try with_reducible rfl)
                try simp only [List.getElem_toArray, List.getElem_cons_zero, List.getElem_cons_succ, Act.put, List.setIfInBounds_toArray, List.set_cons_zero, List.set_cons_succ]
                refine wpAnyS_take (v := ?_) hA rfl (fun _ _ _ h => h) (Or.inl ⟨by rfl, ?_⟩) hF (fun hA => ?_)
                rotate_left
                · intro wS hSw; (try dsimp only at hSw); obtain ⟨s1, s2, s3⟩ := hSw; first | (apply Eq.trans; apply ex_ld_id; exact rfl; exact rfl; assumption; with_reducible rfl) | (apply Eq.trans; apply ex_ld_arr; exact rfl; exact rfl; assumption; with_reducible rfl) | (go_simp; try with_reducible rfl)
                try simp only [List.getElem_toArray, List.getElem_cons_zero, List.getElem_cons_succ, Act.put, List.setIfInBounds_toArray, List.set_cons_zero, List.set_cons_succ]
                refine wpAnyS_take (v := ?_) hA rfl (fun _ _ _ h => h) (Or.inl ⟨by rfl, ?_⟩) hF (fun hA => ?_)
                rotate_left
                · intro wS hSw; (try dsimp only at hSw); obtain ⟨s1, s2, s3⟩ := hSw; first | (apply Eq.trans; apply ex_ld_id; exact rfl; exact rfl; assumption; with_reducible rfl) | (apply Eq.trans; apply ex_ld_arr; exact rfl; exact rfl; assumption; with_reducible rfl) | (go_simp; try with_reducible rfl)
                try simp only [List.getElem_toArray, List.getElem_cons_zero, List.getElem_cons_succ, Act.put, List.setIfInBounds_toArray, List.set_cons_zero, List.set_cons_succ]
                refine wpAnyS_take (v := ?_) hA rfl (fun _ _ _ h => h) (Or.inl ⟨by rfl, ?_⟩) hF (fun hA => ?_)
                rotate_left
                · intro wS hSw; (try dsimp only at hSw); obtain ⟨s1, s2, s3⟩ := hSw; first | (apply Eq.trans; apply ex_ld_id; exact rfl; exact rfl; assumption; with_reducible rfl) | (apply Eq.trans; apply ex_ld_arr; exact rfl; exact rfl; assumption; with_reducible rfl) | (go_simp; try with_reducible rfl)
                try simp only [List.getElem_toArray, List.getElem_cons_zero, List.getElem_cons_succ, Act.put, List.setIfInBounds_toArray, List.set_cons_zero, List.set_cons_succ]
                refine wpAnyS_take (v := ?_) hA rfl (fun _ _ _ h => h) (Or.inl ⟨by rfl, ?_⟩) hF (fun hA => ?_)
                rotate_left
                · intro wS hSw; (try dsimp only at hSw); obtain ⟨s1, s2, s3⟩ := hSw; first | (apply Eq.trans; apply ex_ld_id; exact rfl; exact rfl; assumption; with_reducible rfl) | (apply Eq.trans; apply ex_ld_arr; exact rfl; exact rfl; assumption; with_reducible rfl) | (go_simp; try with_reducible rfl)
                try simp only [List.getElem_toArray, List.getElem_cons_zero, List.getElem_cons_succ, Act.put, List.setIfInBounds_toArray, List.set_cons_zero, List.set_cons_succ]
                refine wpAnyS_take (v := ?_) hA rfl (fun _ _ _ h => h) (Or.inl ⟨by rfl, ?_⟩) hF (fun hA => ?_)
                rotate_left
                · intro wS hSw; (try dsimp only at hSw); obtain ⟨s1, s2, s3⟩ := hSw; first | (apply Eq.trans; apply ex_ld_id; exact rfl; exact rfl; assumption; with_reducible rfl) | (apply Eq.trans; apply ex_ld_arr; exact rfl; exact rfl; assumption; with_reducible rfl) | (go_simp; try with_reducible rfl)
                try simp only [List.getElem_toArray, List.getElem_cons_zero, List.getElem_cons_succ, Act.put, List.setIfInBounds_toArray, List.set_cons_zero, List.set_cons_succ]
                refine wpAnyS_take (v := ?_) hA rfl (fun _ _ _ h => h) (Or.inl ⟨by rfl, ?_⟩) hF (fun hA => ?_)
                rotate_left
                · intro wS hSw; (try dsimp only at hSw); obtain ⟨s1, s2, s3⟩ := hSw; first | (apply Eq.trans; apply ex_ld_id; exact rfl; exact rfl; assumption; with_reducible rfl) | (apply Eq.trans; apply ex_ld_arr; exact rfl; exact rfl; assumption; with_reducible rfl) | (go_simp; try with_reducible rfl)
                try simp only [List.getElem_toArray, List.getElem_cons_zero, List.getElem_cons_succ, Act.put, List.setIfInBounds_toArray, List.set_cons_zero, List.set_cons_succ]
                refine wpAnyS_take (v := ?_) hA rfl (fun _ _ _ h => h) (Or.inl ⟨by rfl, ?_⟩) hF (fun hA => ?_)
                rotate_left
                · intro wS hSw; (try dsimp only at hSw); obtain ⟨s1, s2, s3⟩ := hSw; first | (apply Eq.trans; apply ex_ld_id; exact rfl; exact rfl; assumption; with_reducible rfl) | (apply Eq.trans; apply ex_ld_arr; exact rfl; exact rfl; assumption; with_reducible rfl) | (go_simp; try with_reducible rfl)
                try simp only [List.getElem_toArray, List.getElem_cons_zero, List.getElem_cons_succ, Act.put, List.setIfInBounds_toArray, List.set_cons_zero, List.set_cons_succ]
                refine wpAnyS_take (v := ?_) hA rfl (fun _ _ _ h => h) (Or.inl ⟨by rfl, ?_⟩) hF (fun hA => ?_)
                rotate_left
                · intro wS hSw; (try dsimp only at hSw); obtain ⟨s1, s2, s3⟩ := hSw; first | (apply Eq.trans; apply ex_ld_id; exact rfl; exact rfl; assumption; with_reducible rfl) | (apply Eq.trans; apply ex_ld_arr; exact rfl; exact rfl; assumption; with_reducible rfl) | (go_simp; try with_reducible rfl)
                try simp only [List.getElem_toArray, List.getElem_cons_zero, List.getElem_cons_succ, Act.put, List.setIfInBounds_toArray, List.set_cons_zero, List.set_cons_succ]
                refine wpAnyS_end hA rfl ?_
                simp only [List.drop_succ_cons, List.drop_zero]
                clear hF
                go_wp2_with fail
                go_roundg (ps.length - (j + 1))
                case measure => omega
                case rel => exact ⟨j + 1, by simp, rfl, by omega, by rw [HBS.out]; rfl, hf3.drew⟩
            · have ej : j = ps.length := by omega
              subst ej
              rw [List.take_length, ← HKS.out]
              go_wp2_with fail
              go_roundg (m.length - (k + 1))
              case measure => omega
              case rel => exact ⟨k + 1, by simp, rfl, by omega, rfl, hf2.step0 hf3⟩
        · have ek : k = m.length := by omega
          subst ek
          rw [kidN_all]
          have hfe := hf.step0 hf2
          have ryy : rdI wr g (off + i * 33) = some y := by have := HID.out i hlt _ hfe; rw [HY.out] at this; exact this
          have hso2 := hso.fr0 hf2
          cases hkid : isKid m.reverse y with
          | true =>
            have HN := Lib.hid (HH.out.skip hlt (by rw [HY.out]; exact hkid))
            go_wp2_with fail
            go_roundg (m.length - (i + 1))
            case measure => omega
            case rel => exact ⟨i + 1, o, A1, c1, by simp, rfl, by omega, rfl, hso2, HN.out, hfe⟩
          | false =>
            have hn := HH.out.take HK.out hlt (by rw [HY.out]; exact hkid)
            rw [HY.out] at hn
            have HN := Lib.hid hn
            clear hn
            go_wp2_with fail
            go_at_call 38
            refine (insert_any _ A1 c1 _ o rfl hso2 (by omega) y).mono ?_
            rintro e w5 ⟨A5, c5, rfl, ho5, hf5⟩
            go_wp2_with fail
            go_roundg (m.length - (i + 1))
            case measure => omega
            case rel => exact ⟨i + 1, _, A5, c5, by simp, rfl, by omega, rfl, Sl.own ho5, HN.out, hfe.step0 hf5⟩
    · have ei : i = m.length := by omega
      subst ei
      have hm := HH.out.done
      have hr := HH.out.rise
      have HM := Lib.hid hm
      have HR := Lib.hid hr
      clear hm hr
      go_wp2_with fail
      go_ret
      exact ⟨o, A1, c1, rfl, hso, ⟨HR.out, HM.out⟩, by omega, hf⟩
end Go.Proofs.Ytchiclnnoealdaa
