/- Contract: Heads. -/
import Derived.Test.YtchiclnnoealdaaDagW6
namespace Go.Proofs.Ytchiclnnoealdaa
open Go.RowKit Go.Maps Go.Sort Go.Shelf
set_option linter.unusedVariables false
set_option linter.unusedSimpArgs false

/-- is y someone's parent? -/
def isKid (G : Dg) (y : ID) : Bool := G.any fun p => decide (y ∈ p.2)
/-- where a range over a map stands: dn are done -/
def RanR (w0 : World) (it R : Nat) (kv : List (ID × Value)) (X : List ID → World → Prop) (gk : Nat) (wr : World) : Prop :=
  ∃ dn left, gk = left.length ∧ RngL encI wr it R kv left ∧ (dn ++ left.map (·.1)).Perm (kv.map (·.1)) ∧ Fr noB w0 wr ∧ X dn wr
theorem ran_perm {dn : List ID} {l1 l2 : List (ID × Value)} {p : ID × Value} {k : List ID} (h : (dn ++ (l1 ++ p :: l2).map (·.1)).Perm k) : ((dn ++ [p.1]) ++ (l1 ++ l2).map (·.1)).Perm k := by
  refine List.Perm.trans ?_ h
  simp only [List.map_append, List.map_cons, List.append_assoc, List.cons_append, List.nil_append]
  exact List.Perm.append_left dn List.perm_middle.symm
theorem RngL.ne {w : World} {it r : Nat} {kv left : List (ID × Value)} (h : RngL encI w it r kv left) : it ≠ r := by
  obtain ⟨es, clock, seen, hi, hb, _⟩ := h
  rintro rfl
  rw [hi] at hb; cases hb
theorem RngL.lt {w : World} {it r : Nat} {kv left : List (ID × Value)} (h : RngL encI w it r kv left) : it < w.heap.size := by
  obtain ⟨es, clock, seen, hi, hb, _⟩ := h
  exact (Array.getElem?_eq_some_iff.1 hi).1
theorem RngL.mp {w : World} {it r : Nat} {kv left : List (ID × Value)} (h : RngL encI w it r kv left) : mpI w r = some kv := h.map.mpI
/-- gathered so far -/
def Gat (w : World) (P : ID → Bool) (iv : Value) (dn : List ID) (wr : World) : Prop := ∃ A c, iv = .slice A (dn.filter P).length c ∧ OwnD w wr A c (dn.filter P)

set_option maxRecDepth 100000 in
set_option maxHeartbeats 2000000 in
theorem heads_any (w : World) (D : Nat) (F : Nat → Prop) (G : Dg) (h : DagAt w D F G) :
    Calls Try.prog 26 #[.pointer (some ⟨D, 0, none⟩)] w (NewRise w cmpI (fun y => hasG G y = true ∧ isKid G y = false)) := by
  obtain ⟨A, K, kv, ks, h⟩ := h
  have c0 := h.c0
  have ma := h.all
  have hle := h.le
  have hkl := h.len
  obtain ⟨_, hrg⟩ := rng_all Try.underlying63 ma
  have F1 : Fr noB w (w.alloc (rngO w A)) := (Fr.refl noB w).alloc _
  go_enter Try.func26, Try.ntmps26
  go_wp2_with fail
  generalize ew : w.alloc (rngO w A) = w1 at hrg F1 ⊢
  clear ew
  go_loopg [3] kv.length (fun gk iv wr => RanR w w.heap.size A kv (Gat w (fun y => !decide (y ∈ ks)) iv) gk wr)
  case atStart => exact ⟨[], kv, rfl, hrg, by simp, F1, none, 0, rfl, World.ownsRow_nil _ _ _ _⟩
  case round =>
    obtain ⟨dn, left, rfl, hr, hpm, hf, Ao, co, rfl, ho⟩ := hrel
    have hpl := hpm.length_eq
    rw [List.length_append, List.length_map, List.length_map] at hpl
    have hfl := List.length_filter_le (fun y => !decide (y ∈ ks)) dn
    generalize eout : dn.filter (fun y => !decide (y ∈ ks)) = out at ho hfl ⊢
    have EO := Lib.hid eout
    clear eout
    rcases hr.next keyI hr.ne 0 with ⟨h0, hrun⟩ | ⟨l1, p, l2, w3, h0, hp, hrun, hr3, hf3, hent⟩
    · subst h0
      rw [List.map_nil, List.append_nil] at hpm
      have HP := Lib.hid hpm
      clear hpm
      go_wp2_with fail
      go_at_call 36
      refine (sortC_any w wr Ao co _ out rfl ho (by simp at hpl; omega)).mono ?_
      rintro e w4 ⟨rfl, ho4, hf4⟩
      go_wp2
      go_ret
      have hpm := HP.out
      have nd : dn.Nodup := hpm.nodup_iff.2 (mpI_nd ma)
      have nd2 : out.Nodup := by rw [← EO.out]; exact nd.filter _
      refine ⟨sortBy cmpI out, ⟨Ao, co, by rw [sortBy_length]; rfl, ho4, hf.step hf4 (fun b hb => .inl ?_)⟩, sortBy_rise swoI totI nd2, fun y => ?_, by rw [sortBy_length]; simp at hpl; omega⟩
      · cases Ao with
        | none => cases hb
        | some a => simp at hb; rw [← hb]; exact ((Off.own ho) _ rfl).1
      · rw [sortBy_mem, ← EO.out, List.mem_filter, hpm.mem_iff, h.keys, List.mem_reverse, ← hasG_mem]
        have : (y ∈ ks) ↔ isKid G y = true := by rw [h.par]; simp [isKid]
        simp [this]
    · subst h0
      have hne1 := hr.ne_own ho
      have ho3 : OwnD w w3 Ao co out := own_fr ho hf3 (fun g hg e => by rw [ownBlock_sl] at hg; exact (hne1 g hg).1 e)
      have he := hent noB w3 (Fr.refl _ _) (by simp [noB]) (by simp [noB])
      have F3 : Fr noB w w3 := hf.step1 hf3 (Nat.le_refl _)
      have fa : Fr noB w3 (w3.alloc (ido p.1)).drew := ((Fr.refl noB w3).alloc _).drew
      have rp : rdI (w3.alloc (ido p.1)).drew w3.heap.size 0 = some p.1 := by rw [rdI_drew, rdI_new]
      have h3 := h.fr0 (F3.step0 fa)
      have lks := look_set ks p.1
      have HP := Lib.hid hpm
      clear hpm hent
      simp only [List.length_append, List.length_cons] at hpl
      go_wp2_with fail
      refine wp_region_H (fun w' => w'.cell? ⟨D, 1, none⟩ = some (.map (some K)) ∧ mpI w' K = some (setV ks) ∧ rdI w' w3.heap.size 0 = some p.1) (by kernel_rfl) ⟨h3.c1, h3.kids, rp⟩ (fun hF => ?_)
      refine wpAnyH_take (i := 0) (v := ?_) rfl (by kernel_rfl) (by kernel_rfl) (by kernel_rfl) (fun _ _ _ h => h) (Or.inl ⟨by rfl, ?_⟩) hF ?_
      rotate_left
      · intro wS hSw; (try dsimp only at hSw); obtain ⟨s1, s2, s3⟩ := hSw; first | (apply Eq.trans; apply ex_ld_id; exact rfl; exact rfl; assumption; with_reducible rfl) | (go_simp; try with_reducible rfl)
      try simp only [List.getElem_toArray, List.getElem_cons_zero, List.getElem_cons_succ, Act.put, List.setIfInBounds_toArray, List.set_cons_zero, List.set_cons_succ]
      refine wpAnyH_take (i := 1) (v := ?_) rfl (by kernel_rfl) (by kernel_rfl) (by kernel_rfl) (fun _ _ _ h => h) (Or.inl ⟨by rfl, ?_⟩) hF ?_
      rotate_left
      · intro wS hSw; (try dsimp only at hSw); obtain ⟨s1, s2, s3⟩ := hSw; first | (apply Eq.trans; apply ex_ld_id; exact rfl; exact rfl; assumption; with_reducible rfl) | (go_simp; try with_reducible rfl)
      try simp only [List.getElem_toArray, List.getElem_cons_zero, List.getElem_cons_succ, Act.put, List.setIfInBounds_toArray, List.set_cons_zero, List.set_cons_succ]
      refine wpAnyH_take (i := 2) (v := ?_) rfl (by kernel_rfl) (by kernel_rfl) (by kernel_rfl) (fun _ _ _ h => h) (Or.inl ⟨by rfl, ?_⟩) hF ?_
      rotate_left
      · intro wS hSw; (try dsimp only at hSw); obtain ⟨s1, s2, s3⟩ := hSw; first | (apply Eq.trans; apply ex_ld_id; exact rfl; exact rfl; assumption; with_reducible rfl) | (go_simp; try with_reducible rfl)
      try simp only [List.getElem_toArray, List.getElem_cons_zero, List.getElem_cons_succ, Act.put, List.setIfInBounds_toArray, List.set_cons_zero, List.set_cons_succ]
      refine wpAnyH_take (i := 3) (v := ?_) rfl (by kernel_rfl) (by kernel_rfl) (by kernel_rfl) (fun _ _ _ h => h) (Or.inl ⟨by rfl, ?_⟩) hF ?_
      rotate_left
      · intro wS hSw; (try dsimp only at hSw); obtain ⟨s1, s2, s3⟩ := hSw; first | (apply Eq.trans; apply ex_ld_id; exact rfl; exact rfl; assumption; with_reducible rfl) | (go_simp; try with_reducible rfl)
      try simp only [List.getElem_toArray, List.getElem_cons_zero, List.getElem_cons_succ, Act.put, List.setIfInBounds_toArray, List.set_cons_zero, List.set_cons_succ]
      refine wpAnyH_take (i := 4) (v := ?_) rfl (by kernel_rfl) (by kernel_rfl) (by kernel_rfl) (fun _ _ _ h => h) (Or.inl ⟨by rfl, ?_⟩) hF ?_
      rotate_left
      · intro wS hSw; (try dsimp only at hSw); obtain ⟨s1, s2, s3⟩ := hSw; first | (apply Eq.trans; apply ex_ld_id; exact rfl; exact rfl; assumption; with_reducible rfl) | (go_simp; try with_reducible rfl)
      try simp only [List.getElem_toArray, List.getElem_cons_zero, List.getElem_cons_succ, Act.put, List.setIfInBounds_toArray, List.set_cons_zero, List.set_cons_succ]
      refine wpAnyH_take (i := 5) (v := ?_) rfl (by kernel_rfl) (by kernel_rfl) (by kernel_rfl) (fun _ _ _ h => h) (Or.inl ⟨by rfl, ?_⟩) hF ?_
      rotate_left
      · intro wS hSw; (try dsimp only at hSw); obtain ⟨s1, s2, s3⟩ := hSw; first | (apply Eq.trans; apply ex_ld_id; exact rfl; exact rfl; assumption; with_reducible rfl) | (go_simp; try with_reducible rfl)
      try simp only [List.getElem_toArray, List.getElem_cons_zero, List.getElem_cons_succ, Act.put, List.setIfInBounds_toArray, List.set_cons_zero, List.set_cons_succ]
      refine wpAnyH_take (i := 6) (v := ?_) rfl (by kernel_rfl) (by kernel_rfl) (by kernel_rfl) (fun _ _ _ h => h) (Or.inl ⟨by rfl, ?_⟩) hF ?_
      rotate_left
      · intro wS hSw; (try dsimp only at hSw); obtain ⟨s1, s2, s3⟩ := hSw; first | (apply Eq.trans; apply ex_ld_id; exact rfl; exact rfl; assumption; with_reducible rfl) | (go_simp; try with_reducible rfl)
      try simp only [List.getElem_toArray, List.getElem_cons_zero, List.getElem_cons_succ, Act.put, List.setIfInBounds_toArray, List.set_cons_zero, List.set_cons_succ]
      refine wpAnyH_done (by kernel_rfl) ?_ _
      clear hF
      generalize ew : (w3.alloc (ido p.1)).drew = wx at fa rp h3 ⊢
      clear ew
      have rx := hr3.fr fa (by simp [noB]) (by simp [noB])
      have hox : OwnD w wx Ao co out := own_fr ho3 fa (fun _ _ => by simp [noB])
      have Fx := F3.step0 fa
      by_cases hk : p.1 ∈ ks
      · have hd : decide (p.1 ∈ ks) = true := by simp [hk]
        have HK := Lib.hid hk
        clear hk
        rw [hd]
        go_wp2
        go_roundg (l1 ++ l2).length
        case measure => simp
        case rel =>
          refine ⟨dn ++ [p.1], l1 ++ l2, rfl, rx, ran_perm HP.out, Fx, Ao, co, ?_, ?_⟩
          · rw [List.filter_append, EO.out]; simp [HK.out]
          · have : (dn ++ [p.1]).filter (fun y => !decide (y ∈ ks)) = out := by rw [List.filter_append, EO.out]; simp [HK.out]
            rw [this]; exact hox
      · have hd : decide (p.1 ∈ ks) = false := by simp [hk]
        have HK := Lib.hid hk
        clear hk
        rw [hd]
        have F4 : Fr noB wx (wx.alloc (rowo [p.1])) := (Fr.refl noB wx).alloc _
        have ho4 : OwnD w (wx.alloc (rowo [p.1])) Ao co out := own_fr hox F4 (fun _ _ => by simp [noB])
        have hsl := sl_new wx [p.1]
        have hsz := (Fx.step0 F4).size
        go_wp2_with (at_builtin; refine wpList_appD w _ rfl _ _ rfl Ao _ co out rfl rfl ho4 (some ⟨wx.heap.size, 0, none⟩) 1 1 [p.1] rfl hsl rfl (by simp; omega) hsz ?_; intro A5 c5 w5 hc5 hm5 ho5 hg5 hA5)
        go_roundg (l1 ++ l2).length
        case measure => simp
        case rel =>
          have r4 := rx.fr F4 (by simp [noB]) (by simp [noB])
          have fg : Fr (fun b => Ao.map (·.block) = some b) (wx.alloc (rowo [p.1])) w5 := Fr.ofGrown hg5 (fun g hg => hg)
          have hne4 := r4.ne_own ho4
          have ef : (dn ++ [p.1]).filter (fun y => !decide (y ∈ ks)) = out ++ [p.1] := by rw [List.filter_append, EO.out]; simp [HK.out]
          refine ⟨dn ++ [p.1], l1 ++ l2, rfl, r4.fr fg (fun e => (hne4 _ e).1 rfl) (fun e => (hne4 _ e).2 rfl), ran_perm HP.out, (Fx.step0 F4).step fg (fun g hg => .inl ?_), A5, c5, ?_, ?_⟩
          · cases Ao with
            | none => cases hg
            | some ad => simp at hg; rw [← hg]; exact ((Off.own ho) _ rfl).1
          · rw [ef]; simp
          · rw [ef]; exact ho5
end Go.Proofs.Ytchiclnnoealdaa
