/- Contracts: Make in the laws; making. -/
import Derived.Test.YtifgaejmhaepoaaMake
import Derived.Test.YtifgaejmhaepoaaLawSteps
namespace Go.Proofs.Ytifgaejmhaepoaa
open Go.RowKit
set_option linter.unusedVariables false
set_option linter.unusedSimpArgs false

/-- the library's variable that Index reads holds some number -/
structure HasM (w : World) : Prop where
  ex : ∃ m, w.cell? ⟨0, 0, none⟩ = some (.int .i64 m)
  lt : 0 < w.heap.size
theorem HasM.fr0 {w w' : World} (h : HasM w) (f : Fr noB w w') : HasM w' := by
  obtain ⟨⟨m, hm⟩, hl⟩ := h
  exact ⟨⟨m, (World.cell?_of_block (a := ⟨0, 0, none⟩) (f.block 0 hl (by simp [noB]))).trans hm⟩, Nat.lt_of_lt_of_le hl f.size⟩

/-- what Make makes: all that the laws need of it -/
structure Made (base target d : List UInt8) : Prop where
  is : makeD base target = .ok d
  ap : applyD base d = .ok target
  len : d.length ≤ target.length + 16
  told : ∃ steps, d = numB target.length ++ steps ∧ ∀ rest, apS base (steps ++ rest, false) [] = apS base (rest, false) target
  short : (0 ≤ Lib.index base target ∨ target = []) → base.length ≤ 20000 → d.length ≤ 16
theorem made (base target : List UInt8) (ht : target.length ≤ 1048576) (hb : base.length ≤ 140737488351232) : ∃ d, Made base target d := by
  obtain ⟨d, steps, h1, h2, h3, h4, h5⟩ := make_tells base target ht hb
  exact ⟨d, h1, make_applies base target d ht hb h1, h4, ⟨steps, h2, h3⟩, h5⟩

/-- bytes handed back with an error's number -/
def BytesE (w : World) (l : List UInt8) (n : Nat) (e : Ending) (w' : World) : Prop :=
  ∃ A c, e = .returned (.tuple #[.slice A l.length c, .int .i64 n]) ∧ l.length ≤ c ∧ Sl w' A (bv l) ∧ Fr noB w w'
theorem make_d (w : World) (A T : Option Addr) (cb ct : Nat) (base target d : List UInt8) (n k : Nat) (hn : base.length = n) (hk : target.length = k) (hd : Made base target d) (hA : Sl w A (bv base)) (hT : Sl w T (bv target)) (hcb : base.length ≤ cb) (hct : target.length ≤ ct) (hAn : A = none → cb = 0)
    (hb : base.length ≤ 1000000000) (hm : HasM w) :
    Calls Try.prog 16 #[.slice A n cb, .slice T k ct] w (BytesE w d 0) := by
  obtain ⟨⟨m, hm⟩, hl⟩ := hm
  have := make_n w A T cb ct base target n k hn hk hA hT hcb hct hAn hb m hm hl
  rw [hd.is] at this
  exact this
theorem apply_d (w : World) (A D : Option Addr) (c cd : Nat) (base d : List UInt8) (n k : Nat) (hn : base.length = n) (hk : d.length = k) (hA : Sl w A (bv base)) (hD : Sl w D (bv d)) (hc : base.length ≤ c) (hcd : d.length ≤ cd)
    (hb : base.length ≤ 140737488351232) (hd : d.length ≤ 140737488351232) (out : List UInt8) (en : Nat) (hr : applyD base d = .ok out ∧ en = 0 ∨ applyD base d = .error en ∧ out = []) :
    Calls Try.prog 10 #[.slice A n c, .slice D k cd] w (BytesE w out en) := by
  rcases hr with ⟨hr, rfl⟩ | ⟨hr, rfl⟩
  · refine (apply_n w A D c cd base d n k hn hk hA hD hc hcd hb hd _ hr).mono ?_
    rintro e w1 ⟨A1, c1, rfl, ho, hf⟩
    obtain ⟨_, _, e, hcc, _⟩ := own_form ho
    injection e with _ _ e3
    subst e3
    exact ⟨A1, c1, rfl, hcc, Sl.own ho, hf⟩
  · refine (apply_n w A D c cd base d n k hn hk hA hD hc hcd hb hd _ hr).mono ?_
    rintro e w1 ⟨A1, c1, rfl, ho, hf⟩
    exact ⟨A1, c1, rfl, Nat.zero_le _, Sl.nil _ _, hf⟩

/-- 'append(out, src...)' on bytes, what comes out under a name -/
theorem wpList_appT (w0 w : World) {ops : Array Oper} {rest : List Oper} {o : Oper} {a : Act} {Q : Exit → Act → World → Prop} (hgd : o.guard = none) (s x : Operand)
    (ho : o.op = .call { callee := .builtin .append, args := #[s, x], argTypes := #[22, 22] })
    (As : Option Addr) (ns cs : Nat) (lo : List UInt8) (hs : a.eval s = .slice As ns cs) (hns : lo.length = ns) (hown : OwnB w0 w As cs lo)
    (A : Option Addr) (m c : Nat) (news : List UInt8) (hx : a.eval x = .slice A m c) (hr : Sl w A (bv news)) (hl : news.length = m)
    (hbytes : lo.length + news.length ≤ 140737488355328) (hf : Fr noB w0 w) (l2 : List UInt8) (h2 : l2 = lo ++ news)
    (h : ∀ A' c' w', l2.length ≤ c' → OwnB w0 w' A' c' l2 → Fr noB w0 w' → w.grownBy w' (As.map (·.block)) →
      (A'.map (·.block) = As.map (·.block) ∨ A'.map (·.block) = some w.heap.size) → wpList Try.prog ops Q rest (a.put o.dst (.slice A' l2.length c')) w') : wpList Try.prog ops Q (o :: rest) a w := by
  subst h2
  refine wpList_appC w0 w hgd s x ho As ns cs lo hs hns hown A m c news hx hr hl hbytes hf.size ?_
  intro A' c' w' h1 _ h3 h4 h5
  exact h A' c' w' h1 h3 (own_grow hown hf h4) h4 h5
/-- a slice that is not nil where it has a capacity: the form of a row of the call's own -/
theorem own_nil {w0 w : World} {A : Option Addr} {c : Nat} {l : List UInt8} (h : OwnB w0 w A c l) : A = none → c = 0 := by
  rintro rfl
  rcases h.2 with ⟨e, _⟩ | ⟨g, cap, cur, e, _⟩
  · injection e
  · injection e with e1; cases e1

@[simp] theorem str_list (l : List UInt8) : (str l).toList = l := str_toList l
@[simp] theorem conv_const1 (w : World) (o : Obj) (C : Array Value) (n c : Nat) :
    (convert 22 22 (.slice (some ⟨w.heap.size + 1, 0, none⟩) n c)).run Try.prog ((w.alloc o).alloc (.cells C 5)) = .ok (.slice (some ⟨w.heap.size + 1, 0, none⟩) n c) ((w.alloc o).alloc (.cells C 5 (C.size, C.size + 1))) := by
  have := conv_const (w.alloc o) C n c
  rwa [World.size_alloc] at this

theorem making_any (w : World) (hm : HasM w) : Calls Try.prog 15 #[] w (BoolTo w true) := by
  obtain ⟨d, hd⟩ := made [48, 49, 50, 51, 52, 53, 54, 55, 56, 57] [50, 51, 52, 53, 54] (by decide) (by decide)
  have hl : d.length ≤ 16 := hd.short (.inl (index_has [48, 49] [50, 51, 52, 53, 54] [55, 56, 57])) (by decide)
  have hl2 : ((d.length : Int) ≤ 16) := by omega
  have HD := Lib.hid hd
  clear hd
  go_enter Try.func15, Try.ntmps15
  go_wp2_with (first
    | (go_at_call 16; refine (make_d _ _ _ _ _ [48, 49, 50, 51, 52, 53, 54, 55, 56, 57] [50, 51, 52, 53, 54] d _ _ rfl rfl HD.out (Sl.fr0 (Sl.newF w 5 (bv [48, 49, 50, 51, 52, 53, 54, 55, 56, 57]) (10, 11)) ((Fr.refl noB _).alloc _)) (by have := Sl.newF (w.alloc (.cells #[.int .u8 48, .int .u8 49, .int .u8 50, .int .u8 51, .int .u8 52, .int .u8 53, .int .u8 54, .int .u8 55, .int .u8 56, .int .u8 57] 5 (10, 11))) 5 (bv [50, 51, 52, 53, 54]) (5, 6); rw [World.size_alloc] at this; exact this) (by decide) (by decide) (fun h => by cases h) (by decide) (hm.fr0 (((Fr.refl noB w).alloc _).alloc _))).mono ?_; rintro e w1 ⟨A1, c1, rfl, hc1, hs1, hf1⟩)
    | (go_at_call 10; refine (apply_d _ _ A1 _ _ [48, 49, 50, 51, 52, 53, 54, 55, 56, 57] d _ _ rfl rfl (Sl.newF w1 5 (bv [48, 49, 50, 51, 52, 53, 54, 55, 56, 57]) (10, 11)) (hs1.fr0 ((Fr.refl noB _).alloc _)) (by decide) hc1 (by decide) (by omega) [50, 51, 52, 53, 54] 0 (.inl ⟨HD.out.ap, rfl⟩)).mono ?_; rintro e w2 ⟨A2, c2, rfl, hc2, hs2, hf2⟩; have hcv := conv_str w2 A2 5 c2 [50, 51, 52, 53, 54] rfl hs2))
  go_ret
  exact ⟨by simp, ((((Fr.refl noB w).alloc _).alloc _).step0 hf1).step0 (((Fr.refl noB w1).alloc _).step0 hf2)⟩
end Go.Proofs.Ytifgaejmhaepoaa
