/- Contract: the reference's insert. (ex_ld_arr: loads of arrays are met by that rule.) -/
import Derived.Test.YtchiclnnoealdaaRefF
namespace Go.Proofs.Ytchiclnnoealdaa
open Go.RowKit Go.Maps Go.Sort Go.Shelf
set_option linter.unusedVariables false
set_option linter.unusedSimpArgs false

def insL : List ID → ID → List ID
  | [], x => [x]
  | y :: l, x => if cmpI x y = -1 then x :: y :: l else y :: insL l x
theorem insL_mem (l : List ID) (x y : ID) : y ∈ insL l x ↔ y = x ∨ y ∈ l := by
  induction l with
  | nil => simp [insL]
  | cons z l ih =>
    unfold insL
    split
    · simp
    · rw [List.mem_cons, ih, List.mem_cons]
      constructor
      · rintro (h | h | h) <;> simp [h]
      · rintro (h | h | h) <;> simp [h]
theorem insL_len (l : List ID) (x : ID) : (insL l x).length = l.length + 1 := by
  induction l with
  | nil => rfl
  | cons z l ih => unfold insL; split <;> simp [ih]
theorem insL_rise {l : List ID} {x : ID} (h : Rise cmpI l) (hx : x ∉ l) : Rise cmpI (insL l x) := by
  unfold Rise at h ⊢
  induction l with
  | nil => simp [insL]
  | cons z l ih =>
    rw [List.pairwise_cons] at h
    unfold insL
    split
    · rename_i hc
      rw [List.pairwise_cons]
      refine ⟨fun y hy => ?_, by rw [List.pairwise_cons]; exact h⟩
      rcases List.mem_cons.1 hy with rfl | hy
      · omega
      · exact cmpI_trans (by omega) (h.1 y hy)
    · rename_i hc
      rw [List.pairwise_cons]
      refine ⟨fun y hy => ?_, ih h.2 (fun hm => hx (by simp [hm]))⟩
      rcases (insL_mem l x y).1 hy with rfl | hy
      · have h1 := cmpI_anti z y
        have h2 : cmpI z y ≠ 0 := fun e => hx (by rw [(cmpI_eq z y).1 e]; simp)
        rcases cb_range y.1 z.1 with e | e | e
        · exact absurd e hc
        · have : cmpI y z = 0 := e; omega
        · have : cmpI y z = 1 := e; omega
      · exact h.1 y hy
/-- one more element -/
theorem wpList_appY (w0 w : World) {ops : Array Oper} {rest : List Oper} {o : Oper} {a : Act} {Q : Exit → Act → World → Prop} (hgd : o.guard = none) (s x : Operand)
    (ho : o.op = .call { callee := .builtin .append, args := #[s, x], argTypes := #[36, 36] })
    (As : Option Addr) (ns cs : Nat) (lo : List ID) (hs : a.eval s = .slice As ns cs) (hns : lo.length = ns) (hown : OwnR w0 w As cs lo)
    (A : Option Addr) (c : Nat) (y : ID) (hx : a.eval x = .slice A 1 c) (hr : Sl w A (idc [y])) (hb : lo.length ≤ 100000000001) (f : Fr noB w0 w)
    (h : ∀ A' c' w', OwnR w0 w' A' c' (lo ++ [y]) → Fr noB w0 w' → wpList Try.prog ops Q rest (a.put o.dst (.slice A' (lo ++ [y]).length c')) w') :
    wpList Try.prog ops Q (o :: rest) a w := by
  refine wpList_appR w0 w hgd s x ho As ns cs lo hs hns hown A 1 c [y] hx hr rfl (by simp only [List.length_cons, List.length_nil]; omega) f.size ?_
  intro A' c' w' _ _ h1 h2 _
  refine h A' c' w' h1 (f.step (M' := fun b => As.map (·.block) = some b) (Fr.ofGrown h2 (fun g hg => hg)) (fun b hb => .inl ?_))
  cases As with
  | none => cases hb
  | some a => simp only [Option.map_some, Option.some.injEq] at hb; rw [← hb]; exact (hown.lt _ (by simp [Value.ownBlock])).1
def InsR (w : World) (l : List ID) (x : ID) (gk : Nat) (ov dv iv : Value) (wr : World) : Prop := ∃ (k : Nat) (A : Option Addr) (c : Nat) (o : List ID) (d : Bool), iv = .int .i64 (k : Int) ∧ gk = l.length - k ∧ k ≤ l.length ∧ ov = .slice A o.length c ∧ dv = .bool d ∧ OwnR w wr A c o ∧ o.length ≤ k + 1 ∧ (d = false → o.length ≤ k) ∧ insL l x = o ++ (if d then l.drop k else insL (l.drop k) x) ∧ Fr noB w wr

set_option maxRecDepth 100000 in
set_option maxHeartbeats 2000000 in
theorem insert_any (w : World) (A0 : Option Addr) (c0 n : Nat) (l : List ID) (hn : l.length = n) (hs : Sl w A0 (idc l)) (hb : l.length ≤ 100000000000) (x : ID) : Calls Try.prog 38 #[.slice A0 n c0, encI x] w (NewArrs w (insL l x)) := by
  subst hn
  have b1 := rd_arr w x
  have f0 : Fr noB w (w.alloc (aro x)) := (Fr.refl noB w).alloc _
  have s1 : (w.alloc (aro x)).heap.size = w.heap.size + 1 := World.size_alloc ..
  go_enter Try.func38, Try.ntmps38
  go_wp2_with fail
  generalize w.alloc (aro x) = w1 at b1 f0 s1 ⊢
  have hs1 := hs.fr0 f0
  have f1 : Fr noB w1 (w1.alloc (.cells #[] 23)) := (Fr.refl noB w1).alloc _
  have ow : OwnR w1 (w1.alloc (.cells #[] 23)) (some ⟨w1.heap.size, 0, none⟩) 0 [] :=
    World.ownsRow_lit (base := w1.heap.size) (e := 23) (size := 32) w1 #[] 0 (Nat.le_refl _) (by simp [maxLen]) rfl
  rw [s1] at ow
  generalize hP : w.heap.size = P at b1 ow ⊢
  go_loopg [5, 6, 7] l.length (fun gk ov dv iv wr => InsR w1 l x gk ov dv iv wr)
  case atStart => exact ⟨0, _, 0, [], false, rfl, rfl, by omega, rfl, rfl, ow, by simp, by simp, by simp, f1⟩
  case round =>
    obtain ⟨k, A, c, o, d, rfl, rfl, hk, rfl, rfl, ho, hol, hol2, hi, hf⟩ := hrel
    have HI := Lib.hid hi
    clear hi ow f1
    by_cases hlt : k < l.length
    · have i1 : (k : Int) < (l.length : Int) := by omega
      have i0 : (0 : Int) ≤ (k : Int) := by omega
      obtain ⟨g, off, rfl⟩ := hs1.ad (by omega)
      have fd := hf.drew
      have hod : OwnR w1 wr.drew A c o := own_fr ho (Fr.refl noB wr).drew (fun _ _ => by simp [noB])
      have ry := (hs1.fr0 fd).id k hlt
      have ry0 := hs1.id k hlt
      have rx := rdI_fr b1 (rdI_lt b1) fd (by simp [noB])
      have hdr : l.drop k = l[k] :: l.drop (k + 1) := List.drop_eq_getElem_cons hlt
      generalize l[k] = y at ry ry0 hdr
      have HD := Lib.hid hdr
      clear hdr hf ho
      have F0 : rdI wr.drew P 0 = some x ∧ rdI wr.drew g (off + k * 32) = some y := ⟨rx, ry⟩
      have keep : ∀ w' w'' : World, Fr noB w' w'' → (rdI w' P 0 = some x ∧ rdI w' g (off + k * 32) = some y) → (rdI w'' P 0 = some x ∧ rdI w'' g (off + k * 32) = some y) := fun w' w'' f h =>
        ⟨rdI_fr h.1 (rdI_lt h.1) f (by simp [noB]), rdI_fr h.2 (rdI_lt h.2) f (by simp [noB])⟩
      clear rx ry
      cases d with
      | true =>
        go_wp2_with fail
        refine wp_region_M 10 11 [⟨32768, 64, 0⟩, ⟨65536, 32768, 1⟩, ⟨131072, 65536, 2⟩, ⟨262144, 131080, 4⟩, ⟨524288, 131073, 4⟩, ⟨1048576, 131200, 4⟩, ⟨2097152, 1703936, 52⟩, ⟨4194304, 2228224, 68⟩, ⟨8388608, 4587520, 140⟩, ⟨16777216, 8519680, 260⟩, ⟨33554432, 16908288, 516⟩] [(true, 0), (true, 1), (true, 2), (true, 3), (true, 4), (true, 5), (true, 6), (true, 7), (true, 8), (true, 9)] (fun w' => rdI w' P 0 = some x ∧ rdI w' g (off + k * 32) = some y) (by kernel_rfl) rfl (by kernel_rfl) (by kernel_rfl) (by kernel_rfl) F0 (fun hA hF => ?_)
        refine wpAnyS_take (v := ?_) hA rfl (fun _ _ _ h => h) (Or.inl ⟨by rfl, ?_⟩) hF (fun hA => ?_)
        rotate_left
        · intro wS hSw; (try dsimp only at hSw); obtain ⟨s1, s2⟩ := hSw; first | (apply Eq.trans; apply ex_ld_id; exact rfl; exact rfl; assumption; with_reducible rfl) | (apply Eq.trans; apply ex_ld_arr; exact rfl; exact rfl; assumption; with_reducible rfl) | (go_simp; try with_reducible rfl)
        try simp only [List.getElem_toArray, List.getElem_cons_zero, List.getElem_cons_succ, Act.put, List.setIfInBounds_toArray, List.set_cons_zero, List.set_cons_succ]
        refine wpAnyS_take (v := ?_) hA rfl (fun _ _ _ h => h) (Or.inl ⟨by rfl, ?_⟩) hF (fun hA => ?_)
        rotate_left
        · intro wS hSw; (try dsimp only at hSw); obtain ⟨s1, s2⟩ := hSw; first | (apply Eq.trans; apply ex_ld_id; exact rfl; exact rfl; assumption; with_reducible rfl) | (apply Eq.trans; apply ex_ld_arr; exact rfl; exact rfl; assumption; with_reducible rfl) | (go_simp; try with_reducible rfl)
        try simp only [List.getElem_toArray, List.getElem_cons_zero, List.getElem_cons_succ, Act.put, List.setIfInBounds_toArray, List.set_cons_zero, List.set_cons_succ]
        refine wpAnyS_take (v := ?_) hA rfl (fun _ _ _ h => h) (Or.inl ⟨by rfl, ?_⟩) hF (fun hA => ?_)
        rotate_left
        · intro wS hSw; (try dsimp only at hSw); obtain ⟨s1, s2⟩ := hSw; first | (apply Eq.trans; apply ex_ld_id; exact rfl; exact rfl; assumption; with_reducible rfl) | (apply Eq.trans; apply ex_ld_arr; exact rfl; exact rfl; assumption; with_reducible rfl) | (go_simp; try with_reducible rfl)
        try simp only [List.getElem_toArray, List.getElem_cons_zero, List.getElem_cons_succ, Act.put, List.setIfInBounds_toArray, List.set_cons_zero, List.set_cons_succ]
        refine wpAnyS_take (v := undef) hA rfl (fun _ _ _ h => h) (Or.inr ⟨by rfl, rfl⟩) hF (fun hA => ?_)
        try simp only [List.getElem_toArray, List.getElem_cons_zero, List.getElem_cons_succ, Act.put, List.setIfInBounds_toArray, List.set_cons_zero, List.set_cons_succ]
        refine wpAnyS_take (v := undef) hA rfl (fun _ _ _ h => h) (Or.inr ⟨by rfl, rfl⟩) hF (fun hA => ?_)
        try simp only [List.getElem_toArray, List.getElem_cons_zero, List.getElem_cons_succ, Act.put, List.setIfInBounds_toArray, List.set_cons_zero, List.set_cons_succ]
        refine wpAnyS_take (v := undef) hA rfl (fun _ _ _ h => h) (Or.inr ⟨by rfl, rfl⟩) hF (fun hA => ?_)
        try simp only [List.getElem_toArray, List.getElem_cons_zero, List.getElem_cons_succ, Act.put, List.setIfInBounds_toArray, List.set_cons_zero, List.set_cons_succ]
        refine wpAnyS_take (v := undef) hA rfl (fun _ _ _ h => h) (Or.inr ⟨by rfl, rfl⟩) hF (fun hA => ?_)
        try simp only [List.getElem_toArray, List.getElem_cons_zero, List.getElem_cons_succ, Act.put, List.setIfInBounds_toArray, List.set_cons_zero, List.set_cons_succ]
        refine wpAnyS_take (v := undef) hA rfl (fun _ _ _ h => h) (Or.inr ⟨by rfl, rfl⟩) hF (fun hA => ?_)
        try simp only [List.getElem_toArray, List.getElem_cons_zero, List.getElem_cons_succ, Act.put, List.setIfInBounds_toArray, List.set_cons_zero, List.set_cons_succ]
        refine wpAnyS_take (v := undef) hA rfl (fun _ _ _ h => h) (Or.inr ⟨by rfl, rfl⟩) hF (fun hA => ?_)
        try simp only [List.getElem_toArray, List.getElem_cons_zero, List.getElem_cons_succ, Act.put, List.setIfInBounds_toArray, List.set_cons_zero, List.set_cons_succ]
        refine wpAnyS_take (v := undef) hA rfl (fun _ _ _ h => h) (Or.inr ⟨by rfl, rfl⟩) hF (fun hA => ?_)
        try simp only [List.getElem_toArray, List.getElem_cons_zero, List.getElem_cons_succ, Act.put, List.setIfInBounds_toArray, List.set_cons_zero, List.set_cons_succ]
        refine wpAnyS_end hA rfl ?_
        simp only [List.drop_succ_cons, List.drop_zero]
        have rx9 := hF.1
        have ry9 := hF.2
        clear hF
        have sly := sl_newR wr.drew [y]
        have fay : Fr noB wr.drew (World.alloc wr.drew (rowr [y])) := (Fr.refl noB wr.drew).alloc _
        have fby := Fr.step0 fd fay
        have hoay : OwnR w1 (World.alloc wr.drew (rowr [y])) A c o := own_fr hod fay (fun _ _ => by simp [noB])
        have hly : (o).length ≤ 100000000001 := by (try simp only [List.length_append, List.length_cons, List.length_nil]); omega
        have ry10 := rdI_fr ry9 (rdI_lt ry9) fay (by simp [noB])
        go_wp2_with (at_builtin; refine wpList_appY w1 _ rfl _ _ rfl A _ c o rfl rfl hoay _ _ y rfl sly hly fby ?_; intro A7 c7 w7 ho7 f7)
        go_roundg (l.length - (k + 1))
        case measure => omega
        case rel => exact ⟨k + 1, A7, c7, o ++ [y], true, by simp, rfl, by omega, by first | rfl | simp, rfl, ho7, by simp only [List.length_append, List.length_cons, List.length_nil]; omega, by intro hdd; first | (cases hdd; done) | (simp only [List.length_append, List.length_cons, List.length_nil]; omega), by rw [HI.out, HD.out, List.append_assoc]; rfl, f7⟩
      | false =>
        replace hol2 := hol2 rfl
        rcases cb_range x.1 y.1 with e | e | e
        · have hc : cmpI x y = -1 := e
          have HC := Lib.hid hc
          clear hc e
          go_wp2_with fail
          refine wp_region_M 10 11 [⟨32768, 64, 0⟩, ⟨65536, 32768, 1⟩, ⟨131072, 65536, 2⟩, ⟨262144, 131080, 4⟩, ⟨524288, 131073, 4⟩, ⟨1048576, 131200, 4⟩, ⟨2097152, 1703936, 52⟩, ⟨4194304, 2228224, 68⟩, ⟨8388608, 4587520, 140⟩, ⟨16777216, 8519680, 260⟩, ⟨33554432, 16908288, 516⟩] [(true, 0), (true, 1), (true, 2), (true, 3), (true, 4), (true, 5), (true, 6), (true, 7), (false, 8), (true, 9)] (fun w' => rdI w' P 0 = some x ∧ rdI w' g (off + k * 32) = some y) (by kernel_rfl) rfl (by kernel_rfl) (by kernel_rfl) (by kernel_rfl) F0 (fun hA hF => ?_)
          refine wpAnyS_take (v := ?_) hA rfl (fun _ _ _ h => h) (Or.inl ⟨by rfl, ?_⟩) hF (fun hA => ?_)
          rotate_left
          · intro wS hSw; (try dsimp only at hSw); obtain ⟨s1, s2⟩ := hSw; first | (apply Eq.trans; apply ex_ld_id; exact rfl; exact rfl; assumption; with_reducible rfl) | (apply Eq.trans; apply ex_ld_arr; exact rfl; exact rfl; assumption; with_reducible rfl) | (go_simp; try with_reducible rfl)
          try simp only [List.getElem_toArray, List.getElem_cons_zero, List.getElem_cons_succ, Act.put, List.setIfInBounds_toArray, List.set_cons_zero, List.set_cons_succ]
          refine wpAnyS_take (v := ?_) hA rfl (fun _ _ _ h => h) (Or.inl ⟨by rfl, ?_⟩) hF (fun hA => ?_)
          rotate_left
          · intro wS hSw; (try dsimp only at hSw); obtain ⟨s1, s2⟩ := hSw; first | (apply Eq.trans; apply ex_ld_id; exact rfl; exact rfl; assumption; with_reducible rfl) | (apply Eq.trans; apply ex_ld_arr; exact rfl; exact rfl; assumption; with_reducible rfl) | (go_simp; try with_reducible rfl)
          try simp only [List.getElem_toArray, List.getElem_cons_zero, List.getElem_cons_succ, Act.put, List.setIfInBounds_toArray, List.set_cons_zero, List.set_cons_succ]
          refine wpAnyS_take (v := ?_) hA rfl (fun _ _ _ h => h) (Or.inl ⟨by rfl, ?_⟩) hF (fun hA => ?_)
          rotate_left
          · intro wS hSw; (try dsimp only at hSw); obtain ⟨s1, s2⟩ := hSw; first | (apply Eq.trans; apply ex_ld_id; exact rfl; exact rfl; assumption; with_reducible rfl) | (apply Eq.trans; apply ex_ld_arr; exact rfl; exact rfl; assumption; with_reducible rfl) | (go_simp; try with_reducible rfl)
          try simp only [List.getElem_toArray, List.getElem_cons_zero, List.getElem_cons_succ, Act.put, List.setIfInBounds_toArray, List.set_cons_zero, List.set_cons_succ]
          refine wpAnyS_take (v := ?_) hA rfl (fun _ _ _ h => h) (Or.inl ⟨by rfl, ?_⟩) hF (fun hA => ?_)
          rotate_left
          · intro wS hSw; (try dsimp only at hSw); obtain ⟨s1, s2⟩ := hSw; first | (apply Eq.trans; apply ex_ld_id; exact rfl; exact rfl; assumption; with_reducible rfl) | (apply Eq.trans; apply ex_ld_arr; exact rfl; exact rfl; assumption; with_reducible rfl) | (go_simp; try with_reducible rfl)
          try simp only [List.getElem_toArray, List.getElem_cons_zero, List.getElem_cons_succ, Act.put, List.setIfInBounds_toArray, List.set_cons_zero, List.set_cons_succ]
          refine wpAnyS_take (v := ?_) hA rfl (fun _ _ _ h => h) (Or.inl ⟨by rfl, ?_⟩) hF (fun hA => ?_)
          rotate_left
          · intro wS hSw; (try dsimp only at hSw); obtain ⟨s1, s2⟩ := hSw; first | (apply Eq.trans; apply ex_ld_id; exact rfl; exact rfl; assumption; with_reducible rfl) | (apply Eq.trans; apply ex_ld_arr; exact rfl; exact rfl; assumption; with_reducible rfl) | (go_simp; try with_reducible rfl)
          try simp only [List.getElem_toArray, List.getElem_cons_zero, List.getElem_cons_succ, Act.put, List.setIfInBounds_toArray, List.set_cons_zero, List.set_cons_succ]
          refine wpAnyS_take (v := ?_) hA rfl (fun _ _ _ h => h) (Or.inl ⟨by rfl, ?_⟩) hF (fun hA => ?_)
          rotate_left
          · intro wS hSw; (try dsimp only at hSw); obtain ⟨s1, s2⟩ := hSw; first | (apply Eq.trans; apply ex_ld_id; exact rfl; exact rfl; assumption; with_reducible rfl) | (apply Eq.trans; apply ex_ld_arr; exact rfl; exact rfl; assumption; with_reducible rfl) | (go_simp; try with_reducible rfl)
          try simp only [List.getElem_toArray, List.getElem_cons_zero, List.getElem_cons_succ, Act.put, List.setIfInBounds_toArray, List.set_cons_zero, List.set_cons_succ]
          refine wpAnyS_take (v := ?_) hA rfl (fun _ _ _ h => h) (Or.inl ⟨by rfl, ?_⟩) hF (fun hA => ?_)
          rotate_left
          · intro wS hSw; (try dsimp only at hSw); obtain ⟨s1, s2⟩ := hSw; first | (apply Eq.trans; apply ex_ld_id; exact rfl; exact rfl; assumption; with_reducible rfl) | (apply Eq.trans; apply ex_ld_arr; exact rfl; exact rfl; assumption; with_reducible rfl) | (go_simp; try with_reducible rfl)
          try simp only [List.getElem_toArray, List.getElem_cons_zero, List.getElem_cons_succ, Act.put, List.setIfInBounds_toArray, List.set_cons_zero, List.set_cons_succ]
          refine wpAnyS_take (v := ?_) hA rfl (fun _ _ _ h => h) (Or.inl ⟨by rfl, ?_⟩) hF (fun hA => ?_)
          rotate_left
          · intro wS hSw; (try dsimp only at hSw); obtain ⟨s1, s2⟩ := hSw; first | (apply Eq.trans; apply ex_ld_id; exact rfl; exact rfl; assumption; with_reducible rfl) | (apply Eq.trans; apply ex_ld_arr; exact rfl; exact rfl; assumption; with_reducible rfl) | (go_simp; try with_reducible rfl)
          try simp only [List.getElem_toArray, List.getElem_cons_zero, List.getElem_cons_succ, Act.put, List.setIfInBounds_toArray, List.set_cons_zero, List.set_cons_succ]
          refine wpAnyS_one hA rfl (fun K' hK => ?_)
          rw [if_pos (by rfl)]
          go_simp
          go_at_call 29
          refine (rcmp_any _ x y).mono ?_
          rintro e u1 ⟨rfl, hu1⟩
          replace hF := keep _ _ hu1 hF
          refine hK.out _ _ hF (fun hA => ?_)
          clear hK K'
          as_aux_lemma =>
          rw [HC.out]
          refine wpAnyS_take (v := ?_) hA rfl (fun _ _ _ h => h) (Or.inl ⟨by rfl, ?_⟩) hF (fun hA => ?_)
          rotate_left
          · intro wS hSw; (try dsimp only at hSw); obtain ⟨s1, s2⟩ := hSw; first | (apply Eq.trans; apply ex_ld_id; exact rfl; exact rfl; assumption; with_reducible rfl) | (apply Eq.trans; apply ex_ld_arr; exact rfl; exact rfl; assumption; with_reducible rfl) | (go_simp; try with_reducible rfl)
          try simp only [List.getElem_toArray, List.getElem_cons_zero, List.getElem_cons_succ, Act.put, List.setIfInBounds_toArray, List.set_cons_zero, List.set_cons_succ]
          refine wpAnyS_end hA rfl ?_
          simp only [List.drop_succ_cons, List.drop_zero]
          have fu := fd.step0 hu1
          have hou : OwnR w1 u1 A c o := own_fr hod hu1 (fun _ _ => by simp [noB])
          have rx9 := hF.1
          have ry9 := hF.2
          clear hF
          have slx := sl_newR u1 [x]
          have fax : Fr noB u1 (World.alloc u1 (rowr [x])) := (Fr.refl noB u1).alloc _
          have fbx := Fr.step0 fu fax
          have hoax : OwnR w1 (World.alloc u1 (rowr [x])) A c o := own_fr hou fax (fun _ _ => by simp [noB])
          have hlx : (o).length ≤ 100000000001 := by (try simp only [List.length_append, List.length_cons, List.length_nil]); omega
          have ry10 := rdI_fr ry9 (rdI_lt ry9) fax (by simp [noB])
          go_wp2_with (first
            | (at_builtin; refine wpList_appY w1 _ rfl _ _ rfl A _ c o rfl rfl hoax _ _ x rfl slx hlx fbx ?_; intro A6 c6 w6 ho6 f6; have ry6 := rdI_fr ry0 (rdI_lt ry0) f6 (by simp [noB]); clear ry10; have sly := sl_newR w6 [y]; have fay : Fr noB w6 (World.alloc w6 (rowr [y])) := (Fr.refl noB w6).alloc _; have fby := Fr.step0 f6 fay; have hoay : OwnR w1 (World.alloc w6 (rowr [y])) A6 c6 (o ++ [x]) := own_fr ho6 fay (fun _ _ => by simp [noB]); have hly : (o ++ [x]).length ≤ 100000000001 := by (try simp only [List.length_append, List.length_cons, List.length_nil]); omega)
            | (at_builtin; refine wpList_appY w1 _ rfl _ _ rfl A6 _ c6 (o ++ [x]) rfl (by first | rfl | simp) hoay _ _ y rfl sly hly fby ?_; intro A7 c7 w7 ho7 f7))
          go_roundg (l.length - (k + 1))
          case measure => omega
          case rel => exact ⟨k + 1, A7, c7, o ++ [x] ++ [y], true, by simp, rfl, by omega, by first | rfl | simp, rfl, ho7, by simp only [List.length_append, List.length_cons, List.length_nil]; omega, by intro hdd; first | (cases hdd; done) | (simp only [List.length_append, List.length_cons, List.length_nil]; omega), by rw [HI.out, HD.out]; simp [insL, HC.out], f7⟩
        · have hc : cmpI x y = 0 := e
          have HC := Lib.hid hc
          clear hc e
          go_wp2_with fail
          refine wp_region_M 10 11 [⟨32768, 64, 0⟩, ⟨65536, 32768, 1⟩, ⟨131072, 65536, 2⟩, ⟨262144, 131080, 4⟩, ⟨524288, 131073, 4⟩, ⟨1048576, 131200, 4⟩, ⟨2097152, 1703936, 52⟩, ⟨4194304, 2228224, 68⟩, ⟨8388608, 4587520, 140⟩, ⟨16777216, 8519680, 260⟩, ⟨33554432, 16908288, 516⟩] [(true, 0), (true, 1), (true, 2), (true, 3), (true, 4), (true, 5), (true, 6), (true, 7), (false, 8), (true, 9)] (fun w' => rdI w' P 0 = some x ∧ rdI w' g (off + k * 32) = some y) (by kernel_rfl) rfl (by kernel_rfl) (by kernel_rfl) (by kernel_rfl) F0 (fun hA hF => ?_)
          refine wpAnyS_take (v := ?_) hA rfl (fun _ _ _ h => h) (Or.inl ⟨by rfl, ?_⟩) hF (fun hA => ?_)
          rotate_left
          · intro wS hSw; (try dsimp only at hSw); obtain ⟨s1, s2⟩ := hSw; first | (apply Eq.trans; apply ex_ld_id; exact rfl; exact rfl; assumption; with_reducible rfl) | (apply Eq.trans; apply ex_ld_arr; exact rfl; exact rfl; assumption; with_reducible rfl) | (go_simp; try with_reducible rfl)
          try simp only [List.getElem_toArray, List.getElem_cons_zero, List.getElem_cons_succ, Act.put, List.setIfInBounds_toArray, List.set_cons_zero, List.set_cons_succ]
          refine wpAnyS_take (v := ?_) hA rfl (fun _ _ _ h => h) (Or.inl ⟨by rfl, ?_⟩) hF (fun hA => ?_)
          rotate_left
          · intro wS hSw; (try dsimp only at hSw); obtain ⟨s1, s2⟩ := hSw; first | (apply Eq.trans; apply ex_ld_id; exact rfl; exact rfl; assumption; with_reducible rfl) | (apply Eq.trans; apply ex_ld_arr; exact rfl; exact rfl; assumption; with_reducible rfl) | (go_simp; try with_reducible rfl)
          try simp only [List.getElem_toArray, List.getElem_cons_zero, List.getElem_cons_succ, Act.put, List.setIfInBounds_toArray, List.set_cons_zero, List.set_cons_succ]
          refine wpAnyS_take (v := ?_) hA rfl (fun _ _ _ h => h) (Or.inl ⟨by rfl, ?_⟩) hF (fun hA => ?_)
          rotate_left
          · intro wS hSw; (try dsimp only at hSw); obtain ⟨s1, s2⟩ := hSw; first | (apply Eq.trans; apply ex_ld_id; exact rfl; exact rfl; assumption; with_reducible rfl) | (apply Eq.trans; apply ex_ld_arr; exact rfl; exact rfl; assumption; with_reducible rfl) | (go_simp; try with_reducible rfl)
          try simp only [List.getElem_toArray, List.getElem_cons_zero, List.getElem_cons_succ, Act.put, List.setIfInBounds_toArray, List.set_cons_zero, List.set_cons_succ]
          refine wpAnyS_take (v := ?_) hA rfl (fun _ _ _ h => h) (Or.inl ⟨by rfl, ?_⟩) hF (fun hA => ?_)
          rotate_left
          · intro wS hSw; (try dsimp only at hSw); obtain ⟨s1, s2⟩ := hSw; first | (apply Eq.trans; apply ex_ld_id; exact rfl; exact rfl; assumption; with_reducible rfl) | (apply Eq.trans; apply ex_ld_arr; exact rfl; exact rfl; assumption; with_reducible rfl) | (go_simp; try with_reducible rfl)
          try simp only [List.getElem_toArray, List.getElem_cons_zero, List.getElem_cons_succ, Act.put, List.setIfInBounds_toArray, List.set_cons_zero, List.set_cons_succ]
          refine wpAnyS_take (v := ?_) hA rfl (fun _ _ _ h => h) (Or.inl ⟨by rfl, ?_⟩) hF (fun hA => ?_)
          rotate_left
          · intro wS hSw; (try dsimp only at hSw); obtain ⟨s1, s2⟩ := hSw; first | (apply Eq.trans; apply ex_ld_id; exact rfl; exact rfl; assumption; with_reducible rfl) | (apply Eq.trans; apply ex_ld_arr; exact rfl; exact rfl; assumption; with_reducible rfl) | (go_simp; try with_reducible rfl)
          try simp only [List.getElem_toArray, List.getElem_cons_zero, List.getElem_cons_succ, Act.put, List.setIfInBounds_toArray, List.set_cons_zero, List.set_cons_succ]
          refine wpAnyS_take (v := ?_) hA rfl (fun _ _ _ h => h) (Or.inl ⟨by rfl, ?_⟩) hF (fun hA => ?_)
          rotate_left
          · intro wS hSw; (try dsimp only at hSw); obtain ⟨s1, s2⟩ := hSw; first | (apply Eq.trans; apply ex_ld_id; exact rfl; exact rfl; assumption; with_reducible rfl) | (apply Eq.trans; apply ex_ld_arr; exact rfl; exact rfl; assumption; with_reducible rfl) | (go_simp; try with_reducible rfl)
          try simp only [List.getElem_toArray, List.getElem_cons_zero, List.getElem_cons_succ, Act.put, List.setIfInBounds_toArray, List.set_cons_zero, List.set_cons_succ]
          refine wpAnyS_take (v := ?_) hA rfl (fun _ _ _ h => h) (Or.inl ⟨by rfl, ?_⟩) hF (fun hA => ?_)
          rotate_left
          · intro wS hSw; (try dsimp only at hSw); obtain ⟨s1, s2⟩ := hSw; first | (apply Eq.trans; apply ex_ld_id; exact rfl; exact rfl; assumption; with_reducible rfl) | (apply Eq.trans; apply ex_ld_arr; exact rfl; exact rfl; assumption; with_reducible rfl) | (go_simp; try with_reducible rfl)
          try simp only [List.getElem_toArray, List.getElem_cons_zero, List.getElem_cons_succ, Act.put, List.setIfInBounds_toArray, List.set_cons_zero, List.set_cons_succ]
          refine wpAnyS_take (v := ?_) hA rfl (fun _ _ _ h => h) (Or.inl ⟨by rfl, ?_⟩) hF (fun hA => ?_)
          rotate_left
          · intro wS hSw; (try dsimp only at hSw); obtain ⟨s1, s2⟩ := hSw; first | (apply Eq.trans; apply ex_ld_id; exact rfl; exact rfl; assumption; with_reducible rfl) | (apply Eq.trans; apply ex_ld_arr; exact rfl; exact rfl; assumption; with_reducible rfl) | (go_simp; try with_reducible rfl)
          try simp only [List.getElem_toArray, List.getElem_cons_zero, List.getElem_cons_succ, Act.put, List.setIfInBounds_toArray, List.set_cons_zero, List.set_cons_succ]
          refine wpAnyS_one hA rfl (fun K' hK => ?_)
          rw [if_pos (by rfl)]
          go_simp
          go_at_call 29
          refine (rcmp_any _ x y).mono ?_
          rintro e u1 ⟨rfl, hu1⟩
          replace hF := keep _ _ hu1 hF
          refine hK.out _ _ hF (fun hA => ?_)
          clear hK K'
          as_aux_lemma =>
          rw [HC.out]
          refine wpAnyS_take (v := ?_) hA rfl (fun _ _ _ h => h) (Or.inl ⟨by rfl, ?_⟩) hF (fun hA => ?_)
          rotate_left
          · intro wS hSw; (try dsimp only at hSw); obtain ⟨s1, s2⟩ := hSw; first | (apply Eq.trans; apply ex_ld_id; exact rfl; exact rfl; assumption; with_reducible rfl) | (apply Eq.trans; apply ex_ld_arr; exact rfl; exact rfl; assumption; with_reducible rfl) | (go_simp; try with_reducible rfl)
          try simp only [List.getElem_toArray, List.getElem_cons_zero, List.getElem_cons_succ, Act.put, List.setIfInBounds_toArray, List.set_cons_zero, List.set_cons_succ]
          refine wpAnyS_end hA rfl ?_
          simp only [List.drop_succ_cons, List.drop_zero]
          have fu := fd.step0 hu1
          have hou : OwnR w1 u1 A c o := own_fr hod hu1 (fun _ _ => by simp [noB])
          have rx9 := hF.1
          have ry9 := hF.2
          clear hF
          have sly := sl_newR u1 [y]
          have fay : Fr noB u1 (World.alloc u1 (rowr [y])) := (Fr.refl noB u1).alloc _
          have fby := Fr.step0 fu fay
          have hoay : OwnR w1 (World.alloc u1 (rowr [y])) A c o := own_fr hou fay (fun _ _ => by simp [noB])
          have hly : (o).length ≤ 100000000001 := by (try simp only [List.length_append, List.length_cons, List.length_nil]); omega
          have ry10 := rdI_fr ry9 (rdI_lt ry9) fay (by simp [noB])
          go_wp2_with (at_builtin; refine wpList_appY w1 _ rfl _ _ rfl A _ c o rfl rfl hoay _ _ y rfl sly hly fby ?_; intro A7 c7 w7 ho7 f7)
          go_roundg (l.length - (k + 1))
          case measure => omega
          case rel => exact ⟨k + 1, A7, c7, o ++ [y], false, by simp, rfl, by omega, by first | rfl | simp, rfl, ho7, by simp only [List.length_append, List.length_cons, List.length_nil]; omega, by intro hdd; first | (cases hdd; done) | (simp only [List.length_append, List.length_cons, List.length_nil]; omega), by rw [HI.out, HD.out, List.append_assoc]; (simp [insL, HC.out]), f7⟩
        · have hc : cmpI x y = 1 := e
          have HC := Lib.hid hc
          clear hc e
          go_wp2_with fail
          refine wp_region_M 10 11 [⟨32768, 64, 0⟩, ⟨65536, 32768, 1⟩, ⟨131072, 65536, 2⟩, ⟨262144, 131080, 4⟩, ⟨524288, 131073, 4⟩, ⟨1048576, 131200, 4⟩, ⟨2097152, 1703936, 52⟩, ⟨4194304, 2228224, 68⟩, ⟨8388608, 4587520, 140⟩, ⟨16777216, 8519680, 260⟩, ⟨33554432, 16908288, 516⟩] [(true, 0), (true, 1), (true, 2), (true, 3), (true, 4), (true, 5), (true, 6), (true, 7), (false, 8), (true, 9)] (fun w' => rdI w' P 0 = some x ∧ rdI w' g (off + k * 32) = some y) (by kernel_rfl) rfl (by kernel_rfl) (by kernel_rfl) (by kernel_rfl) F0 (fun hA hF => ?_)
          refine wpAnyS_take (v := ?_) hA rfl (fun _ _ _ h => h) (Or.inl ⟨by rfl, ?_⟩) hF (fun hA => ?_)
          rotate_left
          · intro wS hSw; (try dsimp only at hSw); obtain ⟨s1, s2⟩ := hSw; first | (apply Eq.trans; apply ex_ld_id; exact rfl; exact rfl; assumption; with_reducible rfl) | (apply Eq.trans; apply ex_ld_arr; exact rfl; exact rfl; assumption; with_reducible rfl) | (go_simp; try with_reducible rfl)
          try simp only [List.getElem_toArray, List.getElem_cons_zero, List.getElem_cons_succ, Act.put, List.setIfInBounds_toArray, List.set_cons_zero, List.set_cons_succ]
          refine wpAnyS_take (v := ?_) hA rfl (fun _ _ _ h => h) (Or.inl ⟨by rfl, ?_⟩) hF (fun hA => ?_)
          rotate_left
          · intro wS hSw; (try dsimp only at hSw); obtain ⟨s1, s2⟩ := hSw; first | (apply Eq.trans; apply ex_ld_id; exact rfl; exact rfl; assumption; with_reducible rfl) | (apply Eq.trans; apply ex_ld_arr; exact rfl; exact rfl; assumption; with_reducible rfl) | (go_simp; try with_reducible rfl)
          try simp only [List.getElem_toArray, List.getElem_cons_zero, List.getElem_cons_succ, Act.put, List.setIfInBounds_toArray, List.set_cons_zero, List.set_cons_succ]
          refine wpAnyS_take (v := ?_) hA rfl (fun _ _ _ h => h) (Or.inl ⟨by rfl, ?_⟩) hF (fun hA => ?_)
          rotate_left
          · intro wS hSw; (try dsimp only at hSw); obtain ⟨s1, s2⟩ := hSw; first | (apply Eq.trans; apply ex_ld_id; exact rfl; exact rfl; assumption; with_reducible rfl) | (apply Eq.trans; apply ex_ld_arr; exact rfl; exact rfl; assumption; with_reducible rfl) | (go_simp; try with_reducible rfl)
          try simp only [List.getElem_toArray, List.getElem_cons_zero, List.getElem_cons_succ, Act.put, List.setIfInBounds_toArray, List.set_cons_zero, List.set_cons_succ]
          refine wpAnyS_take (v := ?_) hA rfl (fun _ _ _ h => h) (Or.inl ⟨by rfl, ?_⟩) hF (fun hA => ?_)
          rotate_left
          · intro wS hSw; (try dsimp only at hSw); obtain ⟨s1, s2⟩ := hSw; first | (apply Eq.trans; apply ex_ld_id; exact rfl; exact rfl; assumption; with_reducible rfl) | (apply Eq.trans; apply ex_ld_arr; exact rfl; exact rfl; assumption; with_reducible rfl) | (go_simp; try with_reducible rfl)
          try simp only [List.getElem_toArray, List.getElem_cons_zero, List.getElem_cons_succ, Act.put, List.setIfInBounds_toArray, List.set_cons_zero, List.set_cons_succ]
          refine wpAnyS_take (v := ?_) hA rfl (fun _ _ _ h => h) (Or.inl ⟨by rfl, ?_⟩) hF (fun hA => ?_)
          rotate_left
          · intro wS hSw; (try dsimp only at hSw); obtain ⟨s1, s2⟩ := hSw; first | (apply Eq.trans; apply ex_ld_id; exact rfl; exact rfl; assumption; with_reducible rfl) | (apply Eq.trans; apply ex_ld_arr; exact rfl; exact rfl; assumption; with_reducible rfl) | (go_simp; try with_reducible rfl)
          try simp only [List.getElem_toArray, List.getElem_cons_zero, List.getElem_cons_succ, Act.put, List.setIfInBounds_toArray, List.set_cons_zero, List.set_cons_succ]
          refine wpAnyS_take (v := ?_) hA rfl (fun _ _ _ h => h) (Or.inl ⟨by rfl, ?_⟩) hF (fun hA => ?_)
          rotate_left
          · intro wS hSw; (try dsimp only at hSw); obtain ⟨s1, s2⟩ := hSw; first | (apply Eq.trans; apply ex_ld_id; exact rfl; exact rfl; assumption; with_reducible rfl) | (apply Eq.trans; apply ex_ld_arr; exact rfl; exact rfl; assumption; with_reducible rfl) | (go_simp; try with_reducible rfl)
          try simp only [List.getElem_toArray, List.getElem_cons_zero, List.getElem_cons_succ, Act.put, List.setIfInBounds_toArray, List.set_cons_zero, List.set_cons_succ]
          refine wpAnyS_take (v := ?_) hA rfl (fun _ _ _ h => h) (Or.inl ⟨by rfl, ?_⟩) hF (fun hA => ?_)
          rotate_left
          · intro wS hSw; (try dsimp only at hSw); obtain ⟨s1, s2⟩ := hSw; first | (apply Eq.trans; apply ex_ld_id; exact rfl; exact rfl; assumption; with_reducible rfl) | (apply Eq.trans; apply ex_ld_arr; exact rfl; exact rfl; assumption; with_reducible rfl) | (go_simp; try with_reducible rfl)
          try simp only [List.getElem_toArray, List.getElem_cons_zero, List.getElem_cons_succ, Act.put, List.setIfInBounds_toArray, List.set_cons_zero, List.set_cons_succ]
          refine wpAnyS_take (v := ?_) hA rfl (fun _ _ _ h => h) (Or.inl ⟨by rfl, ?_⟩) hF (fun hA => ?_)
          rotate_left
          · intro wS hSw; (try dsimp only at hSw); obtain ⟨s1, s2⟩ := hSw; first | (apply Eq.trans; apply ex_ld_id; exact rfl; exact rfl; assumption; with_reducible rfl) | (apply Eq.trans; apply ex_ld_arr; exact rfl; exact rfl; assumption; with_reducible rfl) | (go_simp; try with_reducible rfl)
          try simp only [List.getElem_toArray, List.getElem_cons_zero, List.getElem_cons_succ, Act.put, List.setIfInBounds_toArray, List.set_cons_zero, List.set_cons_succ]
          refine wpAnyS_one hA rfl (fun K' hK => ?_)
          rw [if_pos (by rfl)]
          go_simp
          go_at_call 29
          refine (rcmp_any _ x y).mono ?_
          rintro e u1 ⟨rfl, hu1⟩
          replace hF := keep _ _ hu1 hF
          refine hK.out _ _ hF (fun hA => ?_)
          clear hK K'
          as_aux_lemma =>
          rw [HC.out]
          refine wpAnyS_take (v := ?_) hA rfl (fun _ _ _ h => h) (Or.inl ⟨by rfl, ?_⟩) hF (fun hA => ?_)
          rotate_left
          · intro wS hSw; (try dsimp only at hSw); obtain ⟨s1, s2⟩ := hSw; first | (apply Eq.trans; apply ex_ld_id; exact rfl; exact rfl; assumption; with_reducible rfl) | (apply Eq.trans; apply ex_ld_arr; exact rfl; exact rfl; assumption; with_reducible rfl) | (go_simp; try with_reducible rfl)
          try simp only [List.getElem_toArray, List.getElem_cons_zero, List.getElem_cons_succ, Act.put, List.setIfInBounds_toArray, List.set_cons_zero, List.set_cons_succ]
          refine wpAnyS_end hA rfl ?_
          simp only [List.drop_succ_cons, List.drop_zero]
          have fu := fd.step0 hu1
          have hou : OwnR w1 u1 A c o := own_fr hod hu1 (fun _ _ => by simp [noB])
          have rx9 := hF.1
          have ry9 := hF.2
          clear hF
          have sly := sl_newR u1 [y]
          have fay : Fr noB u1 (World.alloc u1 (rowr [y])) := (Fr.refl noB u1).alloc _
          have fby := Fr.step0 fu fay
          have hoay : OwnR w1 (World.alloc u1 (rowr [y])) A c o := own_fr hou fay (fun _ _ => by simp [noB])
          have hly : (o).length ≤ 100000000001 := by (try simp only [List.length_append, List.length_cons, List.length_nil]); omega
          have ry10 := rdI_fr ry9 (rdI_lt ry9) fay (by simp [noB])
          go_wp2_with (at_builtin; refine wpList_appY w1 _ rfl _ _ rfl A _ c o rfl rfl hoay _ _ y rfl sly hly fby ?_; intro A7 c7 w7 ho7 f7)
          go_roundg (l.length - (k + 1))
          case measure => omega
          case rel => exact ⟨k + 1, A7, c7, o ++ [y], false, by simp, rfl, by omega, by first | rfl | simp, rfl, ho7, by simp only [List.length_append, List.length_cons, List.length_nil]; omega, by intro hdd; first | (cases hdd; done) | (simp only [List.length_append, List.length_cons, List.length_nil]; omega), by rw [HI.out, HD.out, List.append_assoc]; (simp [insL, HC.out]), f7⟩
    · have ek : k = l.length := by omega
      subst ek
      have hdr : l.drop l.length = [] := List.drop_length ..
      have HD := Lib.hid hdr
      clear hdr
      cases d with
      | true =>
        go_wp2_with fail
        go_ret
        have e : insL l x = o := by rw [HI.out, HD.out]; simp
        rw [e]
        exact ⟨A, c, rfl, own_base ho (by omega), f0.step0 hf⟩
      | false =>
        have rx9 := rdI_fr b1 (rdI_lt b1) hf (by simp [noB])
        have slx := sl_newR wr [x]
        have fax : Fr noB wr (World.alloc wr (rowr [x])) := (Fr.refl noB wr).alloc _
        have fbx := Fr.step0 hf fax
        have hoax : OwnR w1 (World.alloc wr (rowr [x])) A c o := own_fr ho fax (fun _ _ => by simp [noB])
        have hlx : (o).length ≤ 100000000001 := by (try simp only [List.length_append, List.length_cons, List.length_nil]); omega
        have rx10 := rdI_fr rx9 (rdI_lt rx9) fax (by simp [noB])
        go_wp2_with (at_builtin; refine wpList_appY w1 _ rfl _ _ rfl A _ c o rfl rfl hoax _ _ x rfl slx hlx fbx ?_; intro A7 c7 w7 ho7 f7)
        go_ret
        have e : insL l x = o ++ [x] := by rw [HI.out, HD.out]; simp [insL]
        rw [e]
        exact ⟨A7, c7, by first | rfl | simp, own_base ho7 (by omega), f0.step0 f7⟩
end Go.Proofs.Ytchiclnnoealdaa
