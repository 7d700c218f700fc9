/- Contract: grown (commits as numbers say). -/
import Derived.Test.YtchiclnnoealdaaLawB
import Derived.Test.YtchiclnnoealdaaRegM
import Derived.Test.YtchiclnnoealdaaOrdP
import Derived.Test.YtchiclnnoealdaaPc
namespace Go.Proofs.Ytchiclnnoealdaa
open Go.RowKit Go.Maps Go.Sort Go.Shelf
set_option linter.unusedVariables false
set_option linter.unusedSimpArgs false

def Grown (w0 : World) (e : Ending) (w' : World) : Prop := ∃ D G m A c S, e = .returned (.tuple #[.pointer (some ⟨D, 0, none⟩), .slice A m c]) ∧ DagL w0 w' D G S ∧ NumG G m ∧ OwnD w0 w' A c (rowL m) ∧ Off A S
def GroR (w0 : World) (D : Nat) (nums : List (Int × Int)) (gk : Nat) (iv kv : Value) (wr : World) : Prop :=
  ∃ k S A cA G, kv = .int .i64 ((k : Nat) : Int) ∧ gk = nums.length - k ∧ k ≤ nums.length ∧ k ≤ 60 ∧ iv = .slice A k cA ∧ DagL w0 wr D G S ∧ NumG G k ∧ OwnD w0 wr A cA (rowL k) ∧ Off A S

set_option maxRecDepth 100000 in
set_option maxHeartbeats 4000000 in
theorem grown_any (w0 w : World) (f : Fr noB w0 w) (A0 : Option Addr) (c0 n : Nat) (nums : List (Int × Int)) (hn : nums.length = n) (hs : Sl w0 A0 (prc nums)) (hb : nums.length ≤ 200000000000000) :
    Calls Try.prog 28 #[.slice A0 n c0] w (Grown w0) := by
  go_enter Try.func28, Try.ntmps28
  go_wp2_with fail
  go_at_call 8
  refine (newL_any w0 w f (fun _ => False) (fun _ h => h.elim)).mono ?_
  rintro e w2 ⟨D, rfl, hD, f2⟩
  subst hn
  go_wp2_with fail
  go_loopg [5, 16] nums.length (fun gk iv kv wr => GroR w0 D nums gk iv kv wr)
  case atStart =>
    have ff : Fr noB w2 (w2.alloc (.cells #[] 24)) := (Fr.refl _ _).alloc _
    refine ⟨0, _, _, 0, [], rfl, rfl, by omega, by omega, rfl, hD.more ff, NumG.nil, ?_, ?_⟩
    · have := World.ownsRow_lit (base := w2.heap.size) (e := 24) (size := 32) w2 #[] 0 (Nat.le_refl _) (by simp [maxLen]) rfl
      exact own_base (by simpa [rowL, idc] using this) hD.fr.size
    · intro a ha
      injection ha with ha
      subst ha
      exact .inr ⟨Nat.le_refl _, by simp⟩
  case round =>
    obtain ⟨k, S, A, cA, G, rfl, rfl, hkn, hk60, rfl, hDk, hG, hoA, hfA⟩ := hrel
    by_cases hlt : k < nums.length
    · by_cases h60 : k < 60
      · have i1 : (k : Int) < (nums.length : Int) := by omega
        have i2 : (k : Int) < 60 := by omega
        obtain ⟨gB, oB, rfl, hgB, hcB⟩ := (hs.fr0 hDk.fr) (by intro h; have := prc_len nums; rw [h] at this; simp at this; omega)
        have c1 := hcB _ _ (prc_at nums k hlt).1
        have c2 := hcB _ _ (prc_at nums k hlt).2
        rw [← Nat.add_assoc] at c2
        clear hcB
        generalize nums[k] = p at c1 c2
        obtain ⟨p0, p1⟩ := p
        simp only at c1 c2
        have hi : (0 : Int) ≤ (k : Int) := by omega
        have w1' : wrap64 ((k : Int) + 1) = k + 1 := by unfold wrap64; omega
        have w3' : IntKind.u8.wrap ((k : Int) + 1) = k + 1 := by rw [IntKind.wrap_u8]; omega
        have t1 : ((k : Int) + 1).toNat = k + 1 := by omega
        have u1 : (0 : Int) ≤ k + 1 := by omega
        have u2 : (k + 1 : Int) < 256 := by omega
        have s1 : bxI ((wr.alloc (.cells #[.int .i64 p0, .int .i64 p1] 80)).alloc (ido zID)) (wr.heap.size + 1) = some zID := by rw [bxI_new' _ _ _ (by simp)]
        obtain ⟨a1', a2', q0⟩ := putB_fr s1 (id2 (k + 1) 0)
        have bp := (Blk.new wr 80 [.int .i64 p0, .int .i64 p1]).fr ((Fr.refl noB _).alloc (ido zID)) (by simp [noB])
        have bp1 := bp.fr a1' (fun e => by have : wr.heap.size = wr.heap.size + 1 := e; omega)
        have fb : Fr noB wr (putB ((wr.alloc (.cells #[.int .i64 p0, .int .i64 p1] 80)).alloc (ido zID)) (wr.heap.size + 1) (id2 (k + 1) 0)) := (((Fr.refl noB wr).alloc _).alloc _).step1 a1' (by omega)
        have sz : (putB ((wr.alloc (.cells #[.int .i64 p0, .int .i64 p1] 80)).alloc (ido zID)) (wr.heap.size + 1) (id2 (k + 1) 0)).heap.size = wr.heap.size + 2 := by rw [a2']; simp
        have fW := fb.alloc (.cells #[] 24)
        have pW := bp1.fr ((Fr.refl noB _).alloc (.cells #[] 24)) (by simp [noB])
        have qW := bxI_fr q0 ((Fr.refl noB _).alloc (.cells #[] 24)) (by simp [noB])
        have sW : ((putB ((wr.alloc (.cells #[.int .i64 p0, .int .i64 p1] 80)).alloc (ido zID)) (wr.heap.size + 1) (id2 (k + 1) 0)).alloc (.cells #[] 24)).heap.size = wr.heap.size + 3 := by rw [World.size_alloc, sz]
        have oW : OwnD w0 ((putB ((wr.alloc (.cells #[.int .i64 p0, .int .i64 p1] 80)).alloc (ido zID)) (wr.heap.size + 1) (id2 (k + 1) 0)).alloc (.cells #[] 24)) (some ⟨wr.heap.size + 2, 0, none⟩) 0 [] := by
          have := World.ownsRow_lit (base := (putB ((wr.alloc (.cells #[.int .i64 p0, .int .i64 p1] 80)).alloc (ido zID)) (wr.heap.size + 1) (id2 (k + 1) 0)).heap.size) (e := 24) (size := 32) (putB ((wr.alloc (.cells #[.int .i64 p0, .int .i64 p1] 80)).alloc (ido zID)) (wr.heap.size + 1) (id2 (k + 1) 0)) #[] 0 (Nat.le_refl _) (by simp [maxLen]) rfl
          rw [sz] at this
          exact own_base this (by have := hDk.fr.size; omega)
        have hDW := hDk.more fW
        rw [sW] at hDW
        have hAW : OwnD w0 _ A cA (rowL k) := own_fr hoA fW (fun _ _ => by simp [noB])
        have lw : w0.heap.size ≤ wr.heap.size := hDk.fr.size
        go_upto_region 9 with fail
        generalize hWe : (putB ((wr.alloc (.cells #[.int .i64 p0, .int .i64 p1] 80)).alloc (ido zID)) (wr.heap.size + 1) (id2 (k + 1) 0)).alloc (.cells #[] 24) = W at fW pW qW sW oW hDW hAW ⊢
        clear hWe fb bp bp1 q0 sz a1' a2' s1
        have cp0 : W.cell? ⟨wr.heap.size, 0, none⟩ = some (.int .i64 p0) := pW.cell 0
        have hS1 : ∀ b, S b → b < wr.heap.size := fun b hb => by obtain ⟨F, hI⟩ := hDk; exact (hI.own b hb).2
        generalize hSe : (fun b => S b ∨ (wr.heap.size ≤ b ∧ b < wr.heap.size + 3)) = S1 at hDW
        have hSS : ∀ b, S1 b ↔ (S b ∨ (wr.heap.size ≤ b ∧ b < wr.heap.size + 3)) := by subst hSe; exact fun b => Iff.rfl
        clear hSe
        by_cases hk0 : 0 < k
        · by_cases hp0 : 0 ≤ p0
          · have e0 : decide (0 < (k : Int)) = true := by simpa using hk0
            have e1 : decide (0 ≤ p0) = true := by simpa using hp0
            have hkz : ¬ (k = 0) := by omega
            obtain ⟨ra, era, hra⟩ := and_mask p0 1023 (by omega)
            obtain ⟨rb, erb, hrb⟩ := and_mask p1 1023 (by omega)
            have la : ra % k < k := Nat.mod_lt _ hk0
            have lb : rb % k < k := Nat.mod_lt _ hk0
            have ha : (bits BinOp.and IntKind.i64 p0 1023).tmod (k : Int) = ((ra % k : Nat) : Int) := by rw [show bits BinOp.and IntKind.i64 p0 1023 = (ra : Int) from era]; rfl
            have hb' : (bits BinOp.and IntKind.i64 p1 1023).tmod (k : Int) = ((rb % k : Nat) : Int) := by rw [show bits BinOp.and IntKind.i64 p1 1023 = (rb : Int) from erb]; rfl
            generalize ra % k = a at la ha
            generalize rb % k = b at lb hb'
            clear era erb hra hrb
            go_upto_region 10 with fail
            have cp1 : W.cell? ⟨wr.heap.size, 1, none⟩ = some (.int .i64 p1) := pW.cell 1
            refine wp_region_H (fun w' => w'.cell? ⟨wr.heap.size, 0, none⟩ = some (.int .i64 p0) ∧ w'.cell? ⟨wr.heap.size, 1, none⟩ = some (.int .i64 p1)) (by kernel_rfl) ⟨cp0, cp1⟩ (fun hF => ?_)
            refine wpAnyH_take (i := 0) (v := ?_) rfl (by kernel_rfl) (by kernel_rfl) (by kernel_rfl) (fun _ _ _ h => h) (Or.inl ⟨by rfl, ?_⟩) hF ?_
            rotate_left
            · intro wS hSw; (try dsimp only at hSw); obtain ⟨s1, s2⟩ := hSw; first | (apply Eq.trans; apply ex_ld_id; exact rfl; exact rfl; assumption; with_reducible rfl) | (go_simp; try with_reducible rfl)
            try simp only [List.getElem_toArray, List.getElem_cons_zero, List.getElem_cons_succ, Act.put, List.setIfInBounds_toArray, List.set_cons_zero, List.set_cons_succ]
            refine wpAnyH_take (i := 1) (v := ?_) rfl (by kernel_rfl) (by kernel_rfl) (by kernel_rfl) (fun _ _ _ h => h) (Or.inl ⟨by rfl, ?_⟩) hF ?_
            rotate_left
            · intro wS hSw; (try dsimp only at hSw); obtain ⟨s1, s2⟩ := hSw; first | (apply Eq.trans; apply ex_ld_id; exact rfl; exact rfl; assumption; with_reducible rfl) | (go_simp; try with_reducible rfl)
            try simp only [List.getElem_toArray, List.getElem_cons_zero, List.getElem_cons_succ, Act.put, List.setIfInBounds_toArray, List.set_cons_zero, List.set_cons_succ]
            refine wpAnyH_take (i := 2) (v := ?_) rfl (by kernel_rfl) (by kernel_rfl) (by kernel_rfl) (fun _ _ _ h => h) (Or.inl ⟨by rfl, ?_⟩) hF ?_
            rotate_left
            · intro wS hSw; (try dsimp only at hSw); obtain ⟨s1, s2⟩ := hSw; first | (apply Eq.trans; apply ex_ld_id; exact rfl; exact rfl; assumption; with_reducible rfl) | (go_simp; try with_reducible rfl)
            try simp only [List.getElem_toArray, List.getElem_cons_zero, List.getElem_cons_succ, Act.put, List.setIfInBounds_toArray, List.set_cons_zero, List.set_cons_succ]
            refine wpAnyH_take (i := 3) (v := ?_) rfl (by kernel_rfl) (by kernel_rfl) (by kernel_rfl) (fun _ _ _ h => h) (Or.inl ⟨by rfl, ?_⟩) hF ?_
            rotate_left
            · intro wS hSw; (try dsimp only at hSw); obtain ⟨s1, s2⟩ := hSw; first | (apply Eq.trans; apply ex_ld_id; exact rfl; exact rfl; assumption; with_reducible rfl) | (go_simp; try with_reducible rfl)
            try simp only [List.getElem_toArray, List.getElem_cons_zero, List.getElem_cons_succ, Act.put, List.setIfInBounds_toArray, List.set_cons_zero, List.set_cons_succ]
            refine wpAnyH_take (i := 4) (v := ?_) rfl (by kernel_rfl) (by kernel_rfl) (by kernel_rfl) (fun _ _ _ h => h) (Or.inl ⟨by rfl, ?_⟩) hF ?_
            rotate_left
            · intro wS hSw; (try dsimp only at hSw); obtain ⟨s1, s2⟩ := hSw; first | (apply Eq.trans; apply ex_ld_id; exact rfl; exact rfl; assumption; with_reducible rfl) | (go_simp; try with_reducible rfl)
            try simp only [List.getElem_toArray, List.getElem_cons_zero, List.getElem_cons_succ, Act.put, List.setIfInBounds_toArray, List.set_cons_zero, List.set_cons_succ]
            refine wpAnyH_take (i := 5) (v := ?_) rfl (by kernel_rfl) (by kernel_rfl) (by kernel_rfl) (fun _ _ _ h => h) (Or.inl ⟨by rfl, ?_⟩) hF ?_
            rotate_left
            · intro wS hSw; (try dsimp only at hSw); obtain ⟨s1, s2⟩ := hSw; first | (apply Eq.trans; apply ex_ld_id; exact rfl; exact rfl; assumption; with_reducible rfl) | (go_simp; try with_reducible rfl)
            try simp only [List.getElem_toArray, List.getElem_cons_zero, List.getElem_cons_succ, Act.put, List.setIfInBounds_toArray, List.set_cons_zero, List.set_cons_succ]
            refine wpAnyH_take (i := 6) (v := ?_) rfl (by kernel_rfl) (by kernel_rfl) (by kernel_rfl) (fun _ _ _ h => h) (Or.inl ⟨by rfl, ?_⟩) hF ?_
            rotate_left
            · intro wS hSw; (try dsimp only at hSw); obtain ⟨s1, s2⟩ := hSw; first | (apply Eq.trans; apply ex_ld_id; exact rfl; exact rfl; assumption; with_reducible rfl) | (go_simp; try with_reducible rfl)
            try simp only [List.getElem_toArray, List.getElem_cons_zero, List.getElem_cons_succ, Act.put, List.setIfInBounds_toArray, List.set_cons_zero, List.set_cons_succ]
            refine wpAnyH_take (i := 7) (v := ?_) rfl (by kernel_rfl) (by kernel_rfl) (by kernel_rfl) (fun _ _ _ h => h) (Or.inl ⟨by rfl, ?_⟩) hF ?_
            rotate_left
            · intro wS hSw; (try dsimp only at hSw); obtain ⟨s1, s2⟩ := hSw; first | (apply Eq.trans; apply ex_ld_id; exact rfl; exact rfl; assumption; with_reducible rfl) | (go_simp; try with_reducible rfl)
            try simp only [List.getElem_toArray, List.getElem_cons_zero, List.getElem_cons_succ, Act.put, List.setIfInBounds_toArray, List.set_cons_zero, List.set_cons_succ]
            refine wpAnyH_take (i := 8) (v := ?_) rfl (by kernel_rfl) (by kernel_rfl) (by kernel_rfl) (fun _ _ _ h => h) (Or.inl ⟨by rfl, ?_⟩) hF ?_
            rotate_left
            · intro wS hSw; (try dsimp only at hSw); obtain ⟨s1, s2⟩ := hSw; first | (apply Eq.trans; apply ex_ld_id; exact rfl; exact rfl; assumption; with_reducible rfl) | (go_simp; try with_reducible rfl)
            try simp only [List.getElem_toArray, List.getElem_cons_zero, List.getElem_cons_succ, Act.put, List.setIfInBounds_toArray, List.set_cons_zero, List.set_cons_succ]
            refine wpAnyH_take (i := 9) (v := ?_) rfl (by kernel_rfl) (by kernel_rfl) (by kernel_rfl) (fun _ _ _ h => h) (Or.inl ⟨by rfl, ?_⟩) hF ?_
            rotate_left
            · intro wS hSw; (try dsimp only at hSw); obtain ⟨s1, s2⟩ := hSw; first | (apply Eq.trans; apply ex_ld_id; exact rfl; exact rfl; assumption; with_reducible rfl) | (go_simp; try with_reducible rfl)
            try simp only [List.getElem_toArray, List.getElem_cons_zero, List.getElem_cons_succ, Act.put, List.setIfInBounds_toArray, List.set_cons_zero, List.set_cons_succ]
            refine wpAnyH_take (i := 10) (v := ?_) rfl (by kernel_rfl) (by kernel_rfl) (by kernel_rfl) (fun _ _ _ h => h) (Or.inl ⟨by rfl, ?_⟩) hF ?_
            rotate_left
            · intro wS hSw; (try dsimp only at hSw); obtain ⟨s1, s2⟩ := hSw; first | (apply Eq.trans; apply ex_ld_id; exact rfl; exact rfl; assumption; with_reducible rfl) | (go_simp; try with_reducible rfl)
            try simp only [List.getElem_toArray, List.getElem_cons_zero, List.getElem_cons_succ, Act.put, List.setIfInBounds_toArray, List.set_cons_zero, List.set_cons_succ]
            refine wpAnyH_take (i := 11) (v := ?_) rfl (by kernel_rfl) (by kernel_rfl) (by kernel_rfl) (fun _ _ _ h => h) (Or.inl ⟨by rfl, ?_⟩) hF ?_
            rotate_left
            · intro wS hSw; (try dsimp only at hSw); obtain ⟨s1, s2⟩ := hSw; first | (apply Eq.trans; apply ex_ld_id; exact rfl; exact rfl; assumption; with_reducible rfl) | (go_simp; try with_reducible rfl)
            try simp only [List.getElem_toArray, List.getElem_cons_zero, List.getElem_cons_succ, Act.put, List.setIfInBounds_toArray, List.set_cons_zero, List.set_cons_succ]
            refine wpAnyH_done (by kernel_rfl) ?_ _
            clear hF cp0 cp1 pW ha hb' e0 e1
            have fd := (Fr.refl noB W).drew
            have hD1 := hDW.fr0 fd
            have hA1 : OwnD w0 W.drew A cA (rowL k) := own_fr hAW fd (fun _ _ => by simp [noB])
            have oV : OwnD w0 W.drew (some ⟨wr.heap.size + 1 + 1, 0, none⟩) 0 [] := own_fr oW fd (fun _ _ => by simp [noB])
            have qV := bxI_fr qW fd (by simp [noB])
            have zV : W.drew.heap.size = wr.heap.size + 3 := sW
            generalize W.drew = V at fd hD1 hA1 oV qV zV ⊢
            clear hDW hAW oW qW sW
            have ZV := Lib.hid zV
            clear zV
            obtain ⟨gA, oA, rfl⟩ := (Sl.own hA1).ad (by rw [rowL_len]; omega)
            have gm := (Sl.own hA1).id (min a b) (by rw [rowL_len]; omega)
            have gx := (Sl.own hA1).id (max a b) (by rw [rowL_len]; omega)
            rw [rowL_get] at gm gx
            have hgS : S gA := hfA _ rfl
            have hgl := hS1 gA hgS
            have m3 : min (a : Int) (b : Int) = ((min a b : Nat) : Int) := by omega
            have m4 : max (a : Int) (b : Int) = ((max a b : Nat) : Int) := by omega
            have z1 : (0 : Int) ≤ ((min a b : Nat) : Int) := by omega
            have z2 : ((min a b : Nat) : Int) < (k : Int) := by omega
            have z3 : (0 : Int) ≤ ((max a b : Nat) : Int) := by omega
            have z4 : ((max a b : Nat) : Int) < (k : Int) := by omega
            have fe := (Fr.refl noB V).alloc (rowo [LL (min a b)])
            have sl1 := sl_new V [LL (min a b)]
            have o1 : OwnD w0 (V.alloc (rowo [LL (min a b)])) (some ⟨wr.heap.size + 1 + 1, 0, none⟩) 0 [] := own_fr oV fe (fun _ _ => by simp [noB])
            have hsz1 : w0.heap.size ≤ (V.alloc (rowo [LL (min a b)])).heap.size := (hD1.fr.step0 fe).size
            clear oV
            go_upto_region 12 with (at_builtin; refine wpList_appD w0 _ rfl _ _ rfl (some ⟨wr.heap.size + 1 + 1, 0, none⟩) 0 0 [] rfl rfl o1 (some ⟨V.heap.size, 0, none⟩) 1 1 [LL (min a b)] rfl sl1 rfl (by simp) hsz1 ?_; intro A7 c7 w7 hc7 hm7 ho7 hg7 hA7)
            simp only [List.nil_append] at ho7
            have f7 : Fr (oneB (wr.heap.size + 1 + 1)) V w7 := fe.any.trans (Fr.ofGrown (M := oneB (wr.heap.size + 1 + 1)) hg7 (fun g hg => by simp only [Option.map_some, Option.some.injEq] at hg; exact hg.symm)) (fun _ _ h => h)
            have hD7 := hD1.frS f7 (fun b hb => ⟨(hSS b).2 (.inr ⟨by have : b = _ := hb; omega, by have : b = _ := hb; omega⟩), by have : b = _ := hb; omega⟩)
            have q7 := bxI_fr qV f7 (fun e => by have : wr.heap.size + 1 = wr.heap.size + 1 + 1 := e; omega)
            have hA7' : OwnD w0 w7 (some ⟨gA, oA, none⟩) cA (rowL k) := own_fr hA1 f7 (fun g hg e => by
              have h1 : gA = g := by simpa [Value.ownBlock] using hg
              have h2 : g = wr.heap.size + 1 + 1 := e
              omega)
            have hX1 : S1 (wr.heap.size + 1) := (hSS _).2 (.inr ⟨by omega, by omega⟩)
            have hX2 : ∀ b, (some (⟨gA, oA, none⟩ : Addr)).map (·.block) = some b → S1 b := fun b hb => (hSS _).2 (.inl (by simp only [Option.map_some, Option.some.injEq] at hb; rw [← hb]; exact hgS))
            by_cases hab : a = b
            · have e2 : ((a : Int) == (b : Int)) = true := by simp [hab]
              have e3 : ((a : Int) != (b : Int)) = false := by simp [hab]
              have hDX := hD7
              have qX := q7
              have hAX := hA7'
              have slX := Sl.own ho7
              have hpar : ParOk k [LL (min a b)] := .inr (.inl ⟨min a b, by omega, rfl⟩)
              have HAB := Lib.hid hab
              clear hab hA7' hD7 q7 hD1 hA1 qV sl1 fe o1 ho7 hg7 hA7 gm gx
              generalize (some ⟨gA, oA, none⟩ : Option Addr) = A at hAX hX2 ⊢
              have rX := bxI_rd qX
              go_wp2_with fail
              go_at_call 10
              refine (addL_any hDX (by have := hG.len; omega) (id2 (k + 1) 0) _ _ _ [LL (min a b)] rfl slX (by have := hpar.len; omega)).mono ?_
              rintro e v1 ⟨rfl, hE1, hg1⟩
              obtain ⟨hadd, hG2⟩ := hG.add h60 hpar
              rw [show addG G (id2 (k + 1) 0) [LL (min a b)] = (0, (LL k, [LL (min a b)]) :: G) from hadd] at hE1 ⊢
              have q1 := bxI_fr qX hg1 (fun hn => hn.2 hX1)
              have hA1 : OwnD w0 v1 A cA (rowL k) := own_fr hAX hg1 (fun g hg hn => hn.2 (hX2 g (by rw [ownBlock_sl] at hg; exact hg)))
              have r1 := bxI_rd q1
              have fy := (Fr.refl noB v1).alloc (rowo [id2 (k + 1) 0])
              have sl5 := sl_new v1 [id2 (k + 1) 0]
              have hA2 : OwnD w0 (v1.alloc (rowo [id2 (k + 1) 0])) A cA (rowL k) := own_fr hA1 fy (fun _ _ => by simp [noB])
              have hby : (rowL k).length + [id2 (k + 1) 0].length ≤ 1000000000000 := by rw [rowL_len]; simp only [List.length_cons, List.length_nil]; omega
              have hrl := rowL_len k
              have HRL := Lib.hid hrl
              have hsz : w0.heap.size ≤ (v1.alloc (rowo [id2 (k + 1) 0])).heap.size := (hE1.fr.step0 fy).size
              clear hrl
              go_wp2_with (at_builtin; refine wpList_appD w0 _ rfl _ _ rfl A _ cA (rowL k) rfl HRL.out hA2 (some ⟨v1.heap.size, 0, none⟩) 1 1 [id2 (k + 1) 0] rfl sl5 rfl hby hsz ?_; intro A6 c6 w6 hc6 hm6 ho6 hg6 hA6)
              go_roundg (nums.length - (k + 1))
              case measure => omega
              case rel =>
                have f6 : Fr (fun b => A.map (·.block) = some b) (v1.alloc (rowo [id2 (k + 1) 0])) w6 := Fr.ofGrown hg6 (fun g hg => hg)
                have f36 : Fr (fun b => A.map (·.block) = some b) v1 w6 := fy.any.trans f6 (fun _ _ h => h)
                have hAb : ∀ b, A.map (·.block) = some b → S1 b ∧ w0.heap.size ≤ b := fun b hb => ⟨hX2 b hb, (hA1.lt b (by rw [ownBlock_sl]; exact hb)).1⟩
                have hL6 := hE1.grow f36 (fun b hb => hAb b hb)
                have z6 := f6.size
                rw [World.size_alloc] at z6 hA6
                refine ⟨k + 1, _, A6, c6, _, by simp, rfl, by omega, by omega, congrArg (fun m => Value.slice A6 m c6) (by simp [rowL_len]), hL6, hG2, by rw [rowL_succ]; exact ho6, ?_⟩
                intro a ha
                subst ha
                rcases hA6 with h | h
                · exact .inl (hAb _ h.symm).1
                · simp only [Option.map_some, Option.some.injEq] at h
                  have := (Off.own ho6 _ rfl).2
                  exact .inr ⟨by omega, this⟩
            · have e2 : ((a : Int) == (b : Int)) = false := by rw [beq_eq_false_iff_ne]; omega
              have e3 : ((a : Int) != (b : Int)) = true := by simp [bne, e2]
              have gx7 : rdI w7 gA (oA + max a b * 32) = some (LL (max a b)) := rdI_fr gx (rdI_lt gx) f7 (fun e => by have : gA = wr.heap.size + 1 + 1 := e; omega)
              have fe2 := (Fr.refl noB w7).alloc (rowo [LL (max a b)])
              have sl2 := sl_new w7 [LL (max a b)]
              have o2 : OwnD w0 (w7.alloc (rowo [LL (max a b)])) A7 c7 [LL (min a b)] := own_fr ho7 fe2 (fun _ _ => by simp [noB])
              have hsz2 : w0.heap.size ≤ (w7.alloc (rowo [LL (max a b)])).heap.size := (hD7.fr.step0 fe2).size
              have HAB := Lib.hid hab
              clear hab gm gx sl1 fe o1
              go_upto_region 14 with (at_builtin; refine wpList_appD w0 _ rfl _ _ rfl A7 1 c7 [LL (min a b)] rfl rfl o2 (some ⟨w7.heap.size, 0, none⟩) 1 1 [LL (max a b)] rfl sl2 rfl (by simp) hsz2 ?_; intro A8 c8 w8 hc8 hm8 ho8 hg8 hA8)
              simp only [List.cons_append, List.nil_append] at ho8
              have f8 : Fr (fun b => A7.map (·.block) = some b) w7 w8 := fe2.any.trans (Fr.ofGrown hg8 (fun g hg => hg)) (fun _ _ h => h)
              have hb7 : ∀ b, A7.map (·.block) = some b → b = wr.heap.size + 1 + 1 ∨ V.heap.size ≤ b := by
                intro b hb
                rcases hA7 with h | h
                · rw [h] at hb; simp only [Option.map_some, Option.some.injEq] at hb; exact .inl hb.symm
                · rw [h] at hb; simp only [Option.some.injEq] at hb; right; rw [← hb, World.size_alloc] ; omega
              have f78 : Fr (oneB (wr.heap.size + 1 + 1)) V w8 := f7.trans f8 (fun b hb hm => (hb7 b hm).resolve_right (by omega))
              have hDX := hD1.frS f78 (fun b hb => ⟨(hSS b).2 (.inr ⟨by have : b = _ := hb; omega, by have : b = _ := hb; omega⟩), by have : b = _ := hb; omega⟩)
              have qX := bxI_fr qV f78 (fun e => by have : wr.heap.size + 1 = wr.heap.size + 1 + 1 := e; omega)
              have hAX : OwnD w0 w8 (some ⟨gA, oA, none⟩) cA (rowL k) := own_fr hA1 f78 (fun g hg e => by
                have h1 : gA = g := by simpa [Value.ownBlock] using hg
                have h2 : g = wr.heap.size + 1 + 1 := e
                omega)
              have slX := Sl.own ho8
              have hpar : ParOk k [LL (min a b), LL (max a b)] := .inr (.inr ⟨min a b, max a b, by have := HAB.out; omega, by omega, rfl⟩)
              clear hA7' hD7 q7 hD1 hA1 qV ho7 hg7 hA7 ho8 hg8 hA8 sl2 fe2 o2 gx7
              generalize (some ⟨gA, oA, none⟩ : Option Addr) = A at hAX hX2 ⊢
              have rX := bxI_rd qX
              go_wp2_with fail
              go_at_call 10
              refine (addL_any hDX (by have := hG.len; omega) (id2 (k + 1) 0) _ _ _ [LL (min a b), LL (max a b)] rfl slX (by have := hpar.len; omega)).mono ?_
              rintro e v1 ⟨rfl, hE1, hg1⟩
              obtain ⟨hadd, hG2⟩ := hG.add h60 hpar
              rw [show addG G (id2 (k + 1) 0) [LL (min a b), LL (max a b)] = (0, (LL k, [LL (min a b), LL (max a b)]) :: G) from hadd] at hE1 ⊢
              have q1 := bxI_fr qX hg1 (fun hn => hn.2 hX1)
              have hA1 : OwnD w0 v1 A cA (rowL k) := own_fr hAX hg1 (fun g hg hn => hn.2 (hX2 g (by rw [ownBlock_sl] at hg; exact hg)))
              have r1 := bxI_rd q1
              have fy := (Fr.refl noB v1).alloc (rowo [id2 (k + 1) 0])
              have sl5 := sl_new v1 [id2 (k + 1) 0]
              have hA2 : OwnD w0 (v1.alloc (rowo [id2 (k + 1) 0])) A cA (rowL k) := own_fr hA1 fy (fun _ _ => by simp [noB])
              have hby : (rowL k).length + [id2 (k + 1) 0].length ≤ 1000000000000 := by rw [rowL_len]; simp only [List.length_cons, List.length_nil]; omega
              have hrl := rowL_len k
              have HRL := Lib.hid hrl
              have hsz : w0.heap.size ≤ (v1.alloc (rowo [id2 (k + 1) 0])).heap.size := (hE1.fr.step0 fy).size
              clear hrl
              go_wp2_with (at_builtin; refine wpList_appD w0 _ rfl _ _ rfl A _ cA (rowL k) rfl HRL.out hA2 (some ⟨v1.heap.size, 0, none⟩) 1 1 [id2 (k + 1) 0] rfl sl5 rfl hby hsz ?_; intro A6 c6 w6 hc6 hm6 ho6 hg6 hA6)
              go_roundg (nums.length - (k + 1))
              case measure => omega
              case rel =>
                have f6 : Fr (fun b => A.map (·.block) = some b) (v1.alloc (rowo [id2 (k + 1) 0])) w6 := Fr.ofGrown hg6 (fun g hg => hg)
                have f36 : Fr (fun b => A.map (·.block) = some b) v1 w6 := fy.any.trans f6 (fun _ _ h => h)
                have hAb : ∀ b, A.map (·.block) = some b → S1 b ∧ w0.heap.size ≤ b := fun b hb => ⟨hX2 b hb, (hA1.lt b (by rw [ownBlock_sl]; exact hb)).1⟩
                have hL6 := hE1.grow f36 (fun b hb => hAb b hb)
                have z6 := f6.size
                rw [World.size_alloc] at z6 hA6
                refine ⟨k + 1, _, A6, c6, _, by simp, rfl, by omega, by omega, congrArg (fun m => Value.slice A6 m c6) (by simp [rowL_len]), hL6, hG2, by rw [rowL_succ]; exact ho6, ?_⟩
                intro a ha
                subst ha
                rcases hA6 with h | h
                · exact .inl (hAb _ h.symm).1
                · simp only [Option.map_some, Option.some.injEq] at h
                  have := (Off.own ho6 _ rfl).2
                  exact .inr ⟨by omega, this⟩
          · have e0 : decide (0 < (k : Int)) = true := by simpa using hk0
            have e1 : decide (0 ≤ p0) = false := by simpa using hp0
            have hDX := hDW
            have qX := qW
            have hAX := hAW
            have slX : Sl W (some ⟨wr.heap.size + 1 + 1, 0, none⟩) (idc []) := Sl.nil _ _
            have hpar : ParOk k [] := .inl rfl
            have hX1 : S1 (wr.heap.size + 1) := (hSS _).2 (.inr ⟨by omega, by omega⟩)
            have hX2 : ∀ b, A.map (·.block) = some b → S1 b := fun b hb => (hSS _).2 (.inl (by cases A with | none => cases hb | some a => simp only [Option.map_some, Option.some.injEq] at hb; rw [← hb]; exact hfA _ rfl))
            clear hDW qW hAW oW
            have rX := bxI_rd qX
            go_wp2_with fail
            go_at_call 10
            refine (addL_any hDX (by have := hG.len; omega) (id2 (k + 1) 0) _ _ _ [] rfl slX (by have := hpar.len; omega)).mono ?_
            rintro e v1 ⟨rfl, hE1, hg1⟩
            obtain ⟨hadd, hG2⟩ := hG.add h60 hpar
            rw [show addG G (id2 (k + 1) 0) [] = (0, (LL k, []) :: G) from hadd] at hE1 ⊢
            have q1 := bxI_fr qX hg1 (fun hn => hn.2 hX1)
            have hA1 : OwnD w0 v1 A cA (rowL k) := own_fr hAX hg1 (fun g hg hn => hn.2 (hX2 g (by rw [ownBlock_sl] at hg; exact hg)))
            have r1 := bxI_rd q1
            have fy := (Fr.refl noB v1).alloc (rowo [id2 (k + 1) 0])
            have sl5 := sl_new v1 [id2 (k + 1) 0]
            have hA2 : OwnD w0 (v1.alloc (rowo [id2 (k + 1) 0])) A cA (rowL k) := own_fr hA1 fy (fun _ _ => by simp [noB])
            have hby : (rowL k).length + [id2 (k + 1) 0].length ≤ 1000000000000 := by rw [rowL_len]; simp only [List.length_cons, List.length_nil]; omega
            have hrl := rowL_len k
            have HRL := Lib.hid hrl
            have hsz : w0.heap.size ≤ (v1.alloc (rowo [id2 (k + 1) 0])).heap.size := (hE1.fr.step0 fy).size
            clear hrl
            go_wp2_with (at_builtin; refine wpList_appD w0 _ rfl _ _ rfl A _ cA (rowL k) rfl HRL.out hA2 (some ⟨v1.heap.size, 0, none⟩) 1 1 [id2 (k + 1) 0] rfl sl5 rfl hby hsz ?_; intro A6 c6 w6 hc6 hm6 ho6 hg6 hA6)
            go_roundg (nums.length - (k + 1))
            case measure => omega
            case rel =>
              have f6 : Fr (fun b => A.map (·.block) = some b) (v1.alloc (rowo [id2 (k + 1) 0])) w6 := Fr.ofGrown hg6 (fun g hg => hg)
              have f36 : Fr (fun b => A.map (·.block) = some b) v1 w6 := fy.any.trans f6 (fun _ _ h => h)
              have hAb : ∀ b, A.map (·.block) = some b → S1 b ∧ w0.heap.size ≤ b := fun b hb => ⟨hX2 b hb, (hA1.lt b (by rw [ownBlock_sl]; exact hb)).1⟩
              have hL6 := hE1.grow f36 (fun b hb => hAb b hb)
              have z6 := f6.size
              rw [World.size_alloc] at z6 hA6
              refine ⟨k + 1, _, A6, c6, _, by simp, rfl, by omega, by omega, congrArg (fun m => Value.slice A6 m c6) (by simp [rowL_len]), hL6, hG2, by rw [rowL_succ]; exact ho6, ?_⟩
              intro a ha
              subst ha
              rcases hA6 with h | h
              · exact .inl (hAb _ h.symm).1
              · simp only [Option.map_some, Option.some.injEq] at h
                have := (Off.own ho6 _ rfl).2
                exact .inr ⟨by omega, this⟩
        · have e0 : decide (0 < (k : Int)) = false := by simpa using hk0
          have HK := Lib.hid hk0
          clear hk0
          have hDX := hDW
          have qX := qW
          have hAX := hAW
          have slX : Sl W (some ⟨wr.heap.size + 1 + 1, 0, none⟩) (idc []) := Sl.nil _ _
          have hpar : ParOk k [] := .inl rfl
          have hX1 : S1 (wr.heap.size + 1) := (hSS _).2 (.inr ⟨by omega, by omega⟩)
          have hX2 : ∀ b, A.map (·.block) = some b → S1 b := fun b hb => (hSS _).2 (.inl (by cases A with | none => cases hb | some a => simp only [Option.map_some, Option.some.injEq] at hb; rw [← hb]; exact hfA _ rfl))
          clear hDW qW hAW oW
          have rX := bxI_rd qX
          go_wp2_with fail
          go_at_call 10
          refine (addL_any hDX (by have := hG.len; omega) (id2 (k + 1) 0) _ _ _ [] rfl slX (by have := hpar.len; omega)).mono ?_
          rintro e v1 ⟨rfl, hE1, hg1⟩
          obtain ⟨hadd, hG2⟩ := hG.add h60 hpar
          rw [show addG G (id2 (k + 1) 0) [] = (0, (LL k, []) :: G) from hadd] at hE1 ⊢
          have q1 := bxI_fr qX hg1 (fun hn => hn.2 hX1)
          have hA1 : OwnD w0 v1 A cA (rowL k) := own_fr hAX hg1 (fun g hg hn => hn.2 (hX2 g (by rw [ownBlock_sl] at hg; exact hg)))
          have r1 := bxI_rd q1
          have fy := (Fr.refl noB v1).alloc (rowo [id2 (k + 1) 0])
          have sl5 := sl_new v1 [id2 (k + 1) 0]
          have hA2 : OwnD w0 (v1.alloc (rowo [id2 (k + 1) 0])) A cA (rowL k) := own_fr hA1 fy (fun _ _ => by simp [noB])
          have hby : (rowL k).length + [id2 (k + 1) 0].length ≤ 1000000000000 := by rw [rowL_len]; simp only [List.length_cons, List.length_nil]; omega
          have hrl := rowL_len k
          have HRL := Lib.hid hrl
          have hsz : w0.heap.size ≤ (v1.alloc (rowo [id2 (k + 1) 0])).heap.size := (hE1.fr.step0 fy).size
          clear hrl
          go_wp2_with (at_builtin; refine wpList_appD w0 _ rfl _ _ rfl A _ cA (rowL k) rfl HRL.out hA2 (some ⟨v1.heap.size, 0, none⟩) 1 1 [id2 (k + 1) 0] rfl sl5 rfl hby hsz ?_; intro A6 c6 w6 hc6 hm6 ho6 hg6 hA6)
          go_roundg (nums.length - (k + 1))
          case measure => omega
          case rel =>
            have f6 : Fr (fun b => A.map (·.block) = some b) (v1.alloc (rowo [id2 (k + 1) 0])) w6 := Fr.ofGrown hg6 (fun g hg => hg)
            have f36 : Fr (fun b => A.map (·.block) = some b) v1 w6 := fy.any.trans f6 (fun _ _ h => h)
            have hAb : ∀ b, A.map (·.block) = some b → S1 b ∧ w0.heap.size ≤ b := fun b hb => ⟨hX2 b hb, (hA1.lt b (by rw [ownBlock_sl]; exact hb)).1⟩
            have hL6 := hE1.grow f36 (fun b hb => hAb b hb)
            have z6 := f6.size
            rw [World.size_alloc] at z6 hA6
            refine ⟨k + 1, _, A6, c6, _, by simp, rfl, by omega, by omega, congrArg (fun m => Value.slice A6 m c6) (by simp [rowL_len]), hL6, hG2, by rw [rowL_succ]; exact ho6, ?_⟩
            intro a ha
            subst ha
            rcases hA6 with h | h
            · exact .inl (hAb _ h.symm).1
            · simp only [Option.map_some, Option.some.injEq] at h
              have := (Off.own ho6 _ rfl).2
              exact .inr ⟨by omega, this⟩
      · have ek : k = 60 := by omega
        subst ek
        have i1 : (60 : Int) < (nums.length : Int) := by omega
        have HLT := Lib.hid hlt
        clear hlt h60 hkn hk60
        obtain ⟨gB, oB, rfl, hgB, hcB⟩ := (hs.fr0 hDk.fr) (by intro h; have := prc_len nums; rw [h] at this; have := HLT.out; simp at *; omega)
        have c1 := hcB _ _ (prc_at nums 60 HLT.out).1
        have c2 := hcB _ _ (prc_at nums 60 HLT.out).2
        rw [← Nat.add_assoc] at c2
        clear hcB
        generalize nums[60]'HLT.out = p at c1 c2
        obtain ⟨p0, p1⟩ := p
        simp only at c1 c2
        go_wp2_with fail
        go_ret2
        exact ⟨D, G, 60, A, cA, S, rfl, hDk.fr0 ((Fr.refl _ _).alloc _), hG, own_fr hoA ((Fr.refl noB _).alloc _) (fun _ _ => by simp [noB]), hfA⟩
    · have ek : k = nums.length := by omega
      have i1 : ¬ ((k : Int) < (nums.length : Int)) := by omega
      have HK := Lib.hid ek
      clear ek hlt hkn
      go_wp2_with fail
      go_ret2
      exact ⟨D, G, k, A, cA, S, rfl, hDk, hG, hoA, hfA⟩
end Go.Proofs.Ytchiclnnoealdaa
