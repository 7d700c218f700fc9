/- Rows of new memory that are stored into: they keep their shape. For the walk of ObjKeeps: bytes of a directory are few; what was read, turned. -/
import Derived.Test.YtdandpaeeodolaaGreatRdCK
import Derived.Test.YtdandpaeeodolaaGreatPutDK
namespace Go.Proofs.YtdandpaeeodolaaGreat
open Go.RowKit
set_option linter.unusedVariables false
set_option linter.unusedSimpArgs false

theorem splice_get (cur xs : List Value) (o m : Nat) (h : o + xs.length ≤ cur.length) : (cur.take o ++ xs ++ cur.drop (o + xs.length))[m]? = if o ≤ m ∧ m < o + xs.length then xs[m - o]? else cur[m]? := by
  have ht : (cur.take o).length = o := by rw [List.length_take]; omega
  by_cases h1 : m < o
  · rw [if_neg (by omega), List.append_assoc, List.getElem?_append_left (by omega), List.getElem?_take_of_lt h1]
  · by_cases h2 : m < o + xs.length
    · rw [if_pos ⟨by omega, h2⟩, List.append_assoc, List.getElem?_append_right (by omega), ht, List.getElem?_append_left (by omega)]
    · rw [if_neg (by omega), List.getElem?_append_right (by rw [List.length_append]; omega), List.length_append, ht, List.getElem?_drop]
      congr 1; omega
theorem seg_get (l : List Value) (a n i : Nat) : ((l.drop a).take n)[i]? = if i < n then l[a + i]? else none := by
  by_cases h : i < n
  · rw [if_pos h, List.getElem?_take_of_lt h, List.getElem?_drop]
  · rw [if_neg h, List.getElem?_eq_none (by rw [List.length_take]; omega)]
section
variable {α : Type} (C : Cod α)
/-- block g holds (at least) n values, the k-th with P k -/
def Shp (w : World) (g n : Nat) (P : Nat → α → Prop) : Prop := ∃ cur : List Value, w.heap[g]? = some (.cells cur.toArray C.t (0, 0)) ∧ ∀ k, k < n → ∃ x, P k x ∧ (cur.drop (k * C.n)).take C.n = C.cs x
variable {C}
theorem Shp.of {w0 w : World} {A : Option Addr} {c : Nat} {l : List α} (h : OwnC C w0 w A c l) (h0 : 0 < l.length) : ∃ g, A = some ⟨g, 0, none⟩ ∧ w0.heap.size ≤ g ∧ Shp C w g l.length (fun k x => l[k]? = some x) := by
  rcases h.2 with ⟨hv, hn⟩ | ⟨g, cap, cur, hv, hb, hg, hnc, hm, hs, ht⟩
  · omega
  · injection hv with h1 h2 h3
    refine ⟨g, h1, hb, cur.toList, (by rw [Array.toArray_toList]; exact hg), fun k hk => ⟨l[k], List.getElem?_eq_getElem hk, ?_⟩⟩
    have hkk : k * C.n + C.n ≤ l.length * C.n := by rw [← Nat.succ_mul]; exact Nat.mul_le_mul_right _ hk
    apply List.ext_getElem?
    intro i
    rw [seg_get]
    by_cases hi : i < C.n
    · have e : (C.cs l[k])[i]? = some ((C.cs l[k])[i]'(by rw [C.len]; exact hi)) := List.getElem?_eq_getElem _
      rw [if_pos hi, e, ← Cod.row_get l k i hk _ e, ← ht, List.getElem?_take_of_lt (by omega)]
    · rw [if_neg hi, List.getElem?_eq_none (by rw [C.len]; omega)]
theorem Shp.mono {w : World} {g n : Nat} {P Q : Nat → α → Prop} (h : Shp C w g n P) (hpq : ∀ k x, k < n → P k x → Q k x) : Shp C w g n Q := by
  obtain ⟨cur, h1, h2⟩ := h
  exact ⟨cur, h1, fun k hk => by obtain ⟨x, hp, hx⟩ := h2 k hk; exact ⟨x, hpq k x hk hp, hx⟩⟩
theorem Shp.lt {w : World} {g n : Nat} {P : Nat → α → Prop} (h : Shp C w g n P) : g < w.heap.size := by
  obtain ⟨cur, h1, _⟩ := h
  exact (Array.getElem?_eq_some_iff.1 h1).1
theorem Shp.blk {w : World} {g n : Nat} {P : Nat → α → Prop} (h : Shp C w g n P) : ∃ cs, Blk w g C.t cs := by
  obtain ⟨cur, h1, _⟩ := h
  exact ⟨cur, h1⟩
theorem Shp.ne {β : Type} {D : Cod β} {w : World} {g g' n n' : Nat} {P : Nat → α → Prop} {Q : Nat → β → Prop} (h : Shp C w g n P) (h' : Shp D w g' n' Q) (ht : C.t ≠ D.t) : g ≠ g' := by
  rintro rfl
  obtain ⟨cur, h1, _⟩ := h
  obtain ⟨cur', h2, _⟩ := h'
  rw [h1] at h2
  injection h2 with h2
  injection h2 with _ h2 _
  exact ht h2
theorem Shp.fr {M : Nat → Prop} {w w' : World} {g n : Nat} {P : Nat → α → Prop} (h : Shp C w g n P) (f : Fr M w w') (hM : ¬ M g) : Shp C w' g n P := by
  have hl := h.lt
  obtain ⟨cur, h1, h2⟩ := h
  exact ⟨cur, (f.block g hl hM).trans h1, h2⟩
theorem Shp.fr0 {w w' : World} {g n : Nat} {P : Nat → α → Prop} (h : Shp C w g n P) (f : Fr noB w w') : Shp C w' g n P := h.fr f (by simp [noB])
theorem Shp.len {w : World} {g n : Nat} {P : Nat → α → Prop} {cur : List Value} (h1 : ∀ k, k < n → ∃ x, P k x ∧ (cur.drop (k * C.n)).take C.n = C.cs x) {k : Nat} (hk : k < n) : k * C.n + C.n ≤ cur.length := by
  obtain ⟨x, _, hx⟩ := h1 k hk
  have := congrArg List.length hx
  rw [C.len, List.length_take, List.length_drop] at this
  have := C.pos
  omega
theorem Shp.rd {w : World} {g n : Nat} {P : Nat → α → Prop} (h : Shp C w g n P) {k : Nat} (hk : k < n) : ∃ x, P k x ∧ C.rd w g (k * C.n) = some x ∧ ∀ j, j < C.n → w.frozen? ⟨g, k * C.n + j, none⟩ = false := by
  obtain ⟨cur, h1, h2⟩ := h
  have hb : Blk w g C.t cur := h1
  obtain ⟨x, hp, hx⟩ := h2 k hk
  refine ⟨x, hp, Cod.Rd.rd fun j v hv => ?_, fun j _ => hb.frozen _⟩
  have hj : j < C.n := by have := (List.getElem?_eq_some_iff.1 hv).1; rw [C.len] at this; exact this
  rw [hb.cell, ← hv, ← hx, seg_get, if_pos hj]
/-- cells stored into one of them; the block may be told in another way too -/
theorem Shp.set2 {w : World} {g n n' : Nat} {P P' : Nat → α → Prop} (h : Shp C w g n P) (h' : Shp C w g n' P') {k : Nat} (hk : k < n) (xs : List Value) (j : Nat) (hj : j + xs.length ≤ C.n)
    (hs : ∀ x, P' k x → ∃ x', P' k x' ∧ (C.cs x).take j ++ xs ++ (C.cs x).drop (j + xs.length) = C.cs x') : Shp C (w.setCells g (k * C.n + j) xs) g n' P' ∧ Fr (oneB g) w (w.setCells g (k * C.n + j) xs) := by
  have hlt := h.lt
  obtain ⟨cur, h1, h2⟩ := h
  obtain ⟨cur', h1', h2'⟩ := h'
  have hl := Shp.len h2 hk (w := w) (g := g)
  have hcc : cur' = cur := by
    rw [h1] at h1'
    injection h1' with h3
    injection h3 with h3 _ _
    simpa using h3.symm
  subst hcc
  have e := setCells_row g C.t xs w cur' (k * C.n + j) h1 (by omega)
  obtain ⟨f1, f2, f3⟩ := frameMap hlt (Obj.cells (cur'.take (k * C.n + j) ++ xs ++ cur'.drop (k * C.n + j + xs.length)).toArray C.t (0, 0))
  rw [e]
  refine ⟨⟨_, f3, fun k' hk' => ?_⟩, f1⟩
  obtain ⟨x, hp, hx⟩ := h2' k' hk'
  by_cases hkk : k' = k
  · subst hkk
    obtain ⟨x', hp', hx'⟩ := hs x hp
    refine ⟨x', hp', ?_⟩
    rw [← hx', ← hx]
    apply List.ext_getElem?
    intro i
    have hsl : ((cur'.drop (k' * C.n)).take C.n).length = C.n := by rw [hx, C.len]
    rw [seg_get, splice_get _ _ _ _ (by omega), splice_get _ _ _ _ (by rw [hsl]; exact hj), seg_get]
    by_cases hi : i < C.n
    · rw [if_pos hi, if_pos hi]
      by_cases hb : j ≤ i ∧ i < j + xs.length
      · rw [if_pos hb, if_pos (by omega)]
        congr 1; omega
      · rw [if_neg hb, if_neg (by omega)]
    · rw [if_neg hi, if_neg (by omega), if_neg hi]
  · refine ⟨x, hp, ?_⟩
    rw [← hx]
    apply List.ext_getElem?
    intro i
    rw [seg_get, seg_get]
    by_cases hi : i < C.n
    · rw [if_pos hi, if_pos hi, splice_get _ _ _ _ (by omega), if_neg]
      rcases Nat.lt_or_gt_of_ne hkk with h | h
      · have := Nat.mul_le_mul_right C.n (show k' + 1 ≤ k by omega)
        rw [Nat.add_mul, Nat.one_mul] at this
        omega
      · have := Nat.mul_le_mul_right C.n (show k + 1 ≤ k' by omega)
        rw [Nat.add_mul, Nat.one_mul] at this
        omega
    · rw [if_neg hi, if_neg hi]
theorem Shp.set {w : World} {g n : Nat} {P : Nat → α → Prop} (h : Shp C w g n P) {k : Nat} (hk : k < n) (xs : List Value) (j : Nat) (hj : j + xs.length ≤ C.n)
    (hs : ∀ x, P k x → ∃ x', P k x' ∧ (C.cs x).take j ++ xs ++ (C.cs x).drop (j + xs.length) = C.cs x') : Shp C (w.setCells g (k * C.n + j) xs) g n P ∧ Fr (oneB g) w (w.setCells g (k * C.n + j) xs) := h.set2 h hk xs j hj hs
/-- an ID stored into one of them -/
theorem Shp.stI {w : World} {g n : Nat} {P : Nat → α → Prop} (h : Shp C w g n P) {k : Nat} (hk : k < n) (x : ID) (j o : Nat) (ho : k * C.n + j = o) (hj : j + 32 ≤ C.n) : Proofs.YtdandpaeeodolaaGreat.stI w (.pointer (some ⟨g, o, none⟩)) (encI x) = .ok .skip (w.setCells g o (bv x.1)) := by
  subst ho
  obtain ⟨y, _, hr, hf⟩ := h.rd hk
  have hrun := run_storeAt_mid (P := Tryz.prog) w g (k * C.n + j) 30 (bv x.1).toArray (fun i hi => by
    rw [List.size_toArray, bv_length, x.2] at hi
    have hlt : j + i < (C.cs y).length := by rw [C.len]; omega
    have hc := Cod.rd_cell hr (j + i) (List.getElem?_eq_getElem hlt)
    rw [Nat.add_assoc]
    exact ⟨by rw [hc]; rfl, hf (j + i) (by rw [C.len] at hlt; exact hlt)⟩) (by rw [List.size_toArray, bv_length, x.2]; exact infoID) (all_oneCell_toArray (bv_one _))
  unfold Proofs.YtdandpaeeodolaaGreat.stI
  simp only [encI, idA_eq]
  rw [hrun]
  rfl
end
end Go.Proofs.YtdandpaeeodolaaGreat
namespace Go.Proofs.YtdandpaeeodolaaGreat
open Go.RowKit
set_option linter.unusedVariables false
set_option linter.unusedSimpArgs false

theorem itB_len {x : It} (h : rightIt x = true) : (itB x).length ≤ 60000 := by
  simp only [rightIt, Bool.and_eq_true, decide_eq_true_eq, List.all_eq_true] at h
  obtain ⟨⟨⟨⟨⟨⟨h1, h2⟩, h3⟩, h4⟩, h5⟩, h6⟩, h7⟩ := h
  have a1 := stB_len (okSt_of h1)
  have a2 := stB_len (okSt_of h2)
  have h8 := nameOk_le h4
  have a3 := numB_length x.Name.length (by omega)
  have a4 := numB_length x.Heads.length (by omega)
  have a5 := x.Sub.2
  have a7 : ∀ l : List Hd, (∀ o ∈ l, rightS o.At = true) → (l.flatMap hdB).length ≤ l.length * 52 := by
    intro l
    induction l with
    | nil => simp
    | cons x l ih =>
      intro hh
      have := ih (fun s hs => hh s (by simp [hs]))
      have h0 := hdB_len (hh x (by simp))
      simp only [List.flatMap_cons, List.length_append, List.length_cons]
      omega
  have a8 := a7 x.Heads (fun o ho => (h6 o ho).1.1)
  unfold itB txB
  simp only [List.length_append]
  omega
theorem drB_len {l : List It} (h : rightDr l = true) : (drB l).length ≤ 100000000 := by
  simp only [rightDr, Bool.and_eq_true, decide_eq_true_eq, List.all_eq_true] at h
  obtain ⟨⟨h1, h2⟩, h3⟩ := h
  have a1 := numB_length l.length (by omega)
  have a7 : ∀ l : List It, (∀ o ∈ l, rightIt o = true) → (l.flatMap itB).length ≤ l.length * 60000 := by
    intro l
    induction l with
    | nil => simp
    | cons x l ih =>
      intro hh
      have := ih (fun s hs => hh s (by simp [hs]))
      have h0 := itB_len (hh x (by simp))
      simp only [List.flatMap_cons, List.length_append, List.length_cons]
      omega
  have a8 := a7 l h2
  unfold drB
  simp only [List.length_cons, List.length_append, List.cons_append]
  omega
def itP (rs : List ItW) (k : Nat) (x : ItW) : Prop := ∃ r, rs[k]? = some r ∧ x.A = r.A ∧ x.n = r.n ∧ x.c = r.c
theorem Fr.newB {W w w' : World} {g : Nat} (f : Fr noB W w) (f' : Fr (oneB g) w w') (h : W.heap.size ≤ g) : Fr noB W w' := f.step f' (fun b hb => .inl (by simp only [oneB] at hb; omega))
theorem dataS (y : Hd) (x : ID) : ∃ y' : Hd, True ∧ (codH.cs y).take 2 ++ bv x.1 ++ (codH.cs y).drop (2 + (bv x.1).length) = codH.cs y' := by
  have hx : (bv x.1).length = 32 := by rw [bv_length, x.2]
  refine ⟨{ y with Data := x }, trivial, ?_⟩
  rw [hx]
  show List.take 2 (csH y) ++ _ ++ List.drop 34 (csH y) = csH _
  have : (csH y).length = 34 := codH.len y
  rw [List.drop_eq_nil_of_le (by omega)]
  simp [csH]
/-- operations that were read, their rows' shape -/
def opP (rs : List OpW) (k : Nat) (x : OpW) : Prop := rs[k]? = some x
structure KO (W wr : World) (g : Nat) (rs : List OpW) : Prop where
  fr : Fr noB W wr
  row : Shp codO wr g rs.length (opP rs)
  hd : ∀ r ∈ rs, 0 < r.n → ∃ h, r.A = some ⟨h, 0, none⟩ ∧ W.heap.size ≤ h ∧ Shp codS wr h r.n (fun _ _ => True)
theorem KO.of {W w : World} {A : Option Addr} {c : Nat} {rs : List OpW} {xs : List Opn} (f : Fr noB W w) (ho : OwnC codO W w A c rs) (hi : OpsOwn W w rs xs) (h0 : 0 < rs.length) : ∃ g, A = some ⟨g, 0, none⟩ ∧ KO W w g rs := by
  obtain ⟨g, rfl, hb, hs⟩ := Shp.of ho h0
  refine ⟨g, rfl, f, hs, fun r hr hn => ?_⟩
  obtain ⟨i, hi1, rfl⟩ := List.getElem_of_mem hr
  obtain ⟨hin, hown⟩ := hi.at_ i hi1 (by rw [← hi.len]; exact hi1)
  have hl := hin.len
  rw [← hl] at hown hn
  obtain ⟨h, e, hb2, hs2⟩ := Shp.of (C := codS) hown hn
  exact ⟨h, e, hb2, by rw [← hl]; exact hs2.mono fun _ _ _ _ => trivial⟩
theorem timeS (y : St) (t : Int) : ∃ y' : St, True ∧ (codS.cs y).take 0 ++ [.int .i64 t] ++ (codS.cs y).drop (0 + [Value.int .i64 t].length) = codS.cs y' := ⟨{ y with T := t }, trivial, rfl⟩
theorem KO.time {W w : World} {g : Nat} {rs : List OpW} (h : KO W w g rs) {r : OpW} (hr : r ∈ rs) {k : Nat} (hk : k < r.n) (t : Int) {a : Nat} (ha : r.A = some ⟨a, 0, none⟩) :
    KO W (w.setCell ⟨a, k * 2, none⟩ (.int .i64 t)) g rs ∧ Fr (oneB a) w (w.setCell ⟨a, k * 2, none⟩ (.int .i64 t)) := by
  obtain ⟨a', e, hb, hs⟩ := h.hd r hr (by omega)
  rw [ha] at e
  injection e with e
  injection e with e
  subst e
  obtain ⟨h1, f1⟩ := hs.set hk [.int .i64 t] 0 (show 1 ≤ 2 by decide) (fun y _ => timeS y t)
  refine ⟨⟨h.fr.newB f1 hb, h.row.fr f1 (fun e => (h.row.ne hs (by decide)) e), fun q hq hn => ?_⟩, f1⟩
  obtain ⟨b, e2, hb2, hs2⟩ := h.hd q hq hn
  by_cases hab : b = a
  · subst hab
    exact ⟨b, e2, hb2, (hs.set2 hs2 hk [.int .i64 t] 0 (show 1 ≤ 2 by decide) (fun y _ => timeS y t)).1⟩
  · exact ⟨b, e2, hb2, hs2.fr f1 (fun e => hab e)⟩
/-- parents that were read -/
structure KI (W wr : World) (g n : Nat) : Prop where
  fr : Fr noB W wr
  gb : W.heap.size ≤ g
  row : Shp codI wr g n (fun _ _ => True)
theorem idS (y x : ID) : ∃ y' : ID, True ∧ (codI.cs y).take 0 ++ bv x.1 ++ (codI.cs y).drop (0 + (bv x.1).length) = codI.cs y' := by
  refine ⟨x, trivial, ?_⟩
  show _ = bv x.1
  have : (codI.cs y).length = 32 := codI.len y
  rw [List.drop_eq_nil_of_le (by rw [bv_length, x.2]; omega)]
  simp
theorem KI.put {W w : World} {g n : Nat} (h : KI W w g n) {k : Nat} (hk : k < n) (x : ID) : KI W (w.setCells g (k * 32) (bv x.1)) g n ∧ Fr (oneB g) w (w.setCells g (k * 32) (bv x.1)) := by
  obtain ⟨h1, f1⟩ := h.row.set hk (bv x.1) 0 (by rw [bv_length, x.2]; decide) (fun y _ => idS y x)
  exact ⟨⟨h.fr.newB f1 h.gb, h.gb, h1⟩, f1⟩
theorem Shp.neB {α β : Type} {C : Cod α} {D : Cod β} {w : World} {g n b : Nat} {P : Nat → α → Prop} {y : β} (h : Shp C w g n P) (hb : D.bxd w b = some y) (ht : C.t ≠ D.t) : g ≠ b := by
  rintro rfl
  obtain ⟨cur, h1, _⟩ := h
  have h2 : w.heap[g]? = _ := Cod.bxd_blk hb
  rw [h1] at h2
  injection h2 with h2
  injection h2 with _ h2 _
  exact ht h2
theorem KO.keepI {W w w' : World} {g a n : Nat} {rs : List OpW} (h : KO W w g rs) {P : Nat → ID → Prop} (hI : Shp codI w a n P) (f : Fr (oneB a) w w') (fW : Fr noB W w') : KO W w' g rs :=
  ⟨fW, h.row.fr f (fun e => (h.row.ne hI (by decide)) e), fun r hr hn => by
    obtain ⟨b, e, hb, hs⟩ := h.hd r hr hn
    exact ⟨b, e, hb, hs.fr f (fun e => (hs.ne hI (by decide)) e)⟩⟩
end Go.Proofs.YtdandpaeeodolaaGreat
