/- Contract: pack.Read (nobody outside). -/
import Derived.Test.YtahllkifmmjbdaaPkGKp
import Derived.Test.YtahllkifmmjbdaaMapIKp
import Derived.Test.YtahllkifmmjbdaaRegQKp
import Derived.Test.YtahllkifmmjbdaaShxFKp
set_option linter.unusedVariables false
set_option linter.unusedSimpArgs false
namespace Go.Proofs.Ytahllkifmmjbdaa
open Go.RowKit Go.Maps Go.Sort
set_option maxRecDepth 100000
structure KvIn (w:World) (kv:List (ID × Value)) (es:List PeP):Prop where
 len:kv.length = es.length
 at_:∀ i (h:i < kv.length) (h':i < es.length),kv[i].1 = nameH es[i].b ∧ ∃ (ad:Addr) (c:Nat),kv[i].2 = .slice (some ad) es[i].b.length c ∧ SlT w (some ad) es[i].b ∧ es[i].b.length ≤ c ∧ es[i].b.length ≤ 1048576
theorem KvIn.nil (w:World):KvIn w [] []:=⟨rfl,fun i h=>absurd h (by simp)⟩
theorem KvIn.frT {w w':World} {M:Nat → Prop} {kv:List (ID × Value)} {es:List PeP} (h:KvIn w kv es) (f:Fr M w w') (hM:∀ g,M g → ∀ (cur:Array Value) (z:Nat × Nat),w.heap[g]? ≠ some (.cells cur 5 z)):KvIn w' kv es :=
 ⟨h.len,fun i h1 h2=>by
  obtain ⟨a,ad,c,b1,b2,b3⟩:=h.at_ i h1 h2
  exact ⟨a,ad,c,b1,b2.frT f hM,b3⟩⟩
theorem KvIn.fr0 {w w':World} {kv:List (ID × Value)} {es:List PeP} (h:KvIn w kv es) (f:Fr noB w w'):KvIn w' kv es:=h.frT f (fun g e=>absurd e (by simp [noB]))
theorem KvIn.snoc {w:World} {kv:List (ID × Value)} {es:List PeP} (h:KvIn w kv es) (x:PeP) (ad:Addr) (c:Nat) (hs:SlT w (some ad) x.b) (hc:x.b.length ≤ c) (hb:x.b.length ≤ 1048576):KvIn w (kv ++ [(nameH x.b,.slice (some ad) x.b.length c)]) (es ++ [x]):=by
 refine ⟨by simp [h.len],fun i h1 h2=>?_⟩
 rw [List.length_append,List.length_singleton] at h1 h2
 by_cases hi:i < kv.length
 ·have:=h.at_ i hi (by rw [← h.len];exact hi)
  simp only [List.getElem_append_left hi,List.getElem_append_left (show i < es.length by rw [← h.len];exact hi)]
  exact this
 ·have e:i = kv.length:=by omega
  subst e
  have e2:(es ++ [x])[kv.length] = x:=by simp [h.len]
  have e3:(kv ++ [(nameH x.b,Value.slice (some ad) x.b.length c)])[kv.length] = (nameH x.b,Value.slice (some ad) x.b.length c):=by simp
  rw [e2,e3]
  exact ⟨rfl,ad,c,rfl,hs,hc,hb⟩
theorem body_x (w:World) (A:Option Addr) (n c:Nat) (l:List UInt8) (hn:l.length = n) (hc:l.length ≤ c) (hs:Sl w A (bv l)) (hb:l.length ≤ 100000000000):Calls Try.prog 28 #[.slice A n c] w fun e w' =>
  ∃ (A':Option Addr) (m c':Nat),e = .returned (.tuple #[.slice A' m c',.bool (okPk l)]) ∧ Fr noB w w' ∧ (okPk l = true → m = ((l.take (l.length - 4)).drop 4).length ∧ Sl w' A' (bv ((l.take (l.length - 4)).drop 4))):=by
 refine (body_any w A n c l hn hc hs hb).mono ?_
 rintro e w' ⟨hf,⟨h1,rfl⟩ | ⟨⟨h1,h2⟩,B,d,rfl,h3,h4⟩⟩
 ·have:okPk l = false:=by
   unfold okPk
   rw [Bool.eq_false_iff]
   intro h
   rw [Bool.and_eq_true,Bool.and_eq_true,decide_eq_true_eq] at h
   exact h1 h.1
  rw [this]
  exact ⟨none,0,0,rfl,hf,fun h=>by cases h⟩
 ·refine ⟨B,l.length - 8,d,?_,hf,fun _=>⟨?_,h3⟩⟩
  ·unfold okPk
   rw [h2]
   simp [h1]
  ·rw [List.length_drop,List.length_take];omega
theorem KvIn.keys {w:World} {kv:List (ID × Value)} {es:List PeP} (h:KvIn w kv es):kv.map (·.1) = es.map (fun y=>nameH y.b):=by
 apply List.ext_getElem
 ·simp [h.len]
 ·intro i h1 h2
  rw [List.getElem_map,List.getElem_map]
  exact (h.at_ i (by simpa using h1) (by simpa using h2)).1
theorem KvIn.look {w:World} {kv:List (ID × Value)} {es:List PeP} (h:KvIn w kv es) (hn:(kv.map (·.1)).Nodup) (id:ID) :
  (look kv id = none ∧ id ∉ es.map (fun y=>nameH y.b)) ∨ ∃ (x:PeP) (ad:Addr) (c:Nat),x ∈ es ∧ nameH x.b = id ∧ look kv id = some (.slice (some ad) x.b.length c) ∧ SlT w (some ad) x.b ∧ x.b.length ≤ c ∧ x.b.length ≤ 1048576:=by
 cases hl:Go.Proofs.Ytahllkifmmjbdaa.look kv id with
 | none=>exact .inl ⟨rfl,by rw [← h.keys];exact look_none.1 hl⟩
 | some v =>
  have hm:=(look_mem hn).1 hl
  obtain ⟨i,hi,he⟩:=List.getElem_of_mem hm
  obtain ⟨a,ad,c,b1,b2,b3⟩:=h.at_ i hi (by rw [← h.len];exact hi)
  rw [he] at a b1
  simp only at a b1
  exact .inr ⟨_,ad,c,List.getElem_mem _,a.symm,by rw [b1],b2,b3⟩
def PkAt (w0 w:World) (P:Nat) (es:List PeP):Prop:=∃ (MO MU:Nat) (kv:List (ID × Value)),Blk w P 61 [.map (some MO),.map (some MU)] ∧ mpI w MO = some kv ∧ KvIn w kv es ∧ mpI w MU = some []
theorem PkAt.fr0 {w0 w w':World} {P:Nat} {es:List PeP} (h:PkAt w0 w P es) (f:Fr noB w w'):PkAt w0 w' P es:=by
 obtain ⟨MO,MU,kv,h1,h2,h3,h4⟩:=h
 exact ⟨MO,MU,kv,h1.fr f (by simp [noB]),mpI_fr h2 f (by simp [noB]),h3.fr0 f,mpI_fr h4 f (by simp [noB])⟩
def PkTo (w:World) (r:Except Nat (List PeP)) (e:Ending) (w':World):Prop:=Fr noB w w' ∧
 ((∃ n,r = .error n ∧ e = .returned (.tuple #[.pointer none,.int .i64 (n:Int)])) ∨ ∃ es P,r = .ok es ∧ e = .returned (.tuple #[.pointer (some ⟨P,0,none⟩),.int .i64 0]) ∧ PkAt w w' P es)
theorem Rdr.offE {w0 w:World} {p:Nat} {s:RS} {Q:Nat → Prop} {A:Option Addr} {c:Nat} {rs:List PeW} (h:Rdr w p s Q) (ho:OwnC codPe w0 w A c rs):Off A (fun b=>¬ oneB p b):=by
 obtain ⟨B,d,hb,_⟩:=h
 intro a ha e
 exact hb.ne_own ho (by decide) a.block (by rw [ha];rfl) e
theorem entF_len (s:RS) (es:List PeP):(entF s es).2.1.length ≤ s.1.length:=by
 have h1:=(rdNum_bd 2 s).2
 unfold entF
 simp only
 split
 ·exact h1
 ·split
  ·split <;> exact Nat.le_trans (rdText_len _ _) h1
  ·have h2:=baseF_len (rdNum 2 s).2 (rdNum 2 s).1 es
   split
   ·rename_i e;rw [e] at h2;exact Nat.le_trans h2 h1
   ·rename_i e
    rw [e] at h2
    have h3:=Nat.le_trans (rdText_len 1048576 _) (Nat.le_trans h2 h1)
    split
    ·exact h3
    ·split
     ·exact h3
     ·split <;> exact h3
theorem Rdr.neE {w0 w:World} {p:Nat} {s:RS} {Q:Nat → Prop} {A:Option Addr} {c:Nat} {rs:List PeW} (h:Rdr w p s Q) (ho:OwnC codPe w0 w A c rs):∀ g,(Value.slice A rs.length c).ownBlock = some g → ¬ oneB p g:=by
 obtain ⟨B,d,hb,_⟩:=h
 exact fun g hg e=>hb.ne_own ho (by decide) g hg e
theorem Rdr.no8 {w:World} {p:Nat} {s:RS} {Q:Nat → Prop} (h:Rdr w p s Q):∀ g,oneB p g → ∀ (cur:Array Value) (z:Nat × Nat),w.heap[g]? ≠ some (.cells cur 5 z):=by
 obtain ⟨B,d,hb,_⟩:=h
 exact Go.Proofs.Ytahllkifmmjbdaa.no8 hb (by decide)
theorem mp_no8 {w:World} {r:Nat} {kv:List (ID × Value)} (h:mpI w r = some kv):∀ g,oneB r g → ∀ (cur:Array Value) (z:Nat × Nat),w.heap[g]? ≠ some (.cells cur 5 z):=by
 rintro g rfl cur z e
 exact mp_ne h e rfl
theorem PeIn.frT {w w':World} {M:Nat → Prop} {r:PeW} {x:PeP} (h:PeIn w r x) (f:Fr M w w') (hM:∀ g,M g → ∀ (cur:Array Value) (z:Nat × Nat),w.heap[g]? ≠ some (.cells cur 5 z)):PeIn w' r x:=⟨h.len,h.cap,h.sl.frT f hM,h.bd,h.ch,h.lo,h.nil⟩
theorem EsIn.frT {w w':World} {M:Nat → Prop} {rs:List PeW} {xs:List PeP} (h:EsIn w rs xs) (f:Fr M w w') (hM:∀ g,M g → ∀ (cur:Array Value) (z:Nat × Nat),w.heap[g]? ≠ some (.cells cur 5 z)):EsIn w' rs xs:=⟨h.len,fun i h1 h2=>(h.at_ i h1 h2).frT f hM⟩
theorem own_no8 {w0 w:World} {A:Option Addr} {c:Nat} {rs:List PeW} (ho:OwnC codPe w0 w A c rs):∀ g,A.map (·.block) = some g → ∀ (cur:Array Value) (z:Nat × Nat),w.heap[g]? ≠ some (.cells cur 5 z):=by
 intro g hg cur z e
 rcases ho.2 with ⟨hv,_⟩ | ⟨g',cap,cu,hv,_,hh,_⟩
 ·injection hv with hv;subst hv;cases hg
 ·injection hv with hv
  subst hv
  injection hg with hg
  subst hg
  exact no8 hh (by decide) _ rfl cur z e
theorem applyL_err (base:List UInt8):∀ (f:Nat) (l out:List UInt8) (e:Nat),applyL base f l out = .error e → e ≠ 0
 | 0,l,out,e,h=>by cases h
 | f + 1,l,out,e,h=>by
  unfold applyL at h
  split at h
  ·cases h
  ·split at h
   ·cases h;decide
   ·split at h
    ·cases h;decide
    ·split at h
     ·split at h
      ·cases h;decide
      ·exact applyL_err base f _ _ e h
     ·split at h
      ·cases h;decide
      ·split at h
       ·cases h;decide
       ·exact applyL_err base f _ _ e h
theorem applyD_err {base d:List UInt8} {e:Nat} (h:applyD base d = .error e):e ≠ 0:=by
 unfold applyD at h
 split at h
 ·cases h;decide
 ·split at h
  ·rename_i e2
   cases h
   exact applyL_err base _ _ _ _ e2
  ·split at h
   ·cases h
   ·cases h;decide
@[simp] theorem neq_nilS0 (w:World):(binOp .neq 25 (.slice none 0 0) (.slice none 0 0)).run Try.prog w = .ok (.bool false) w:=by kernel_rfl
@[simp] theorem neq_nilS1 (w:World) (ad:Addr) (n c:Nat):(binOp .neq 25 (.slice (some ad) n c) (.slice none 0 0)).run Try.prog w = .ok (.bool true) w:=by kernel_rfl
theorem zeroBy (w:World):(zeroValue 25).run Try.prog w = .ok (.slice none 0 0) w:=by kernel_rfl
theorem entF_err {s s':RS} {es:List PeP} {e:Nat} (h:entF s es = (.error e,s')):e ≠ 0:=by
 unfold entF at h
 simp only at h
 split at h
 ·cases h;decide
 ·split at h
  ·split at h
   ·cases h;decide
   ·cases h
  ·split at h
   ·rename_i e2
    cases h
    rcases baseF_err e2 with h | h <;> omega
   ·split at h
    ·cases h;decide
    ·split at h
     ·cases h;decide
     ·split at h
      ·rename_i e2
       cases h
       exact applyD_err e2
      ·cases h
set_option maxHeartbeats 16000000 in
theorem pkRead_any (w:World) (A:Option Addr) (n c:Nat) (l:List UInt8) (hn:l.length = n) (hc:l.length ≤ c) (hs:Sl w A (bv l)) (hb:l.length ≤ 100000000000):Calls Try.prog 8 #[.slice A n c,.nilFunc] w (PkTo w (readF l)):=by
 subst hn
 have HS:=Lib.hid hs
 have HB:=Lib.hid hb
 have HC:=Lib.hid hc
 clear hs hb hc
 go_enter Try.func8,Try.ntmps8
 obtain ⟨q,hq⟩:∃ q,q = okPk l:=⟨_,rfl⟩
 have HQ:=Lib.hid hq
 have CB:=Lib.hid (show Calls Try.prog 28 #[.slice A l.length c] w fun e w'=>∃ (A':Option Addr) (m c':Nat),e = .returned (.tuple #[.slice A' m c',.bool q]) ∧ Fr noB w w' ∧ (q = true → m = ((l.take (l.length - 4)).drop 4).length ∧ Sl w' A' (bv ((l.take (l.length - 4)).drop 4))) from by rw [hq];exact body_x w A _ c l rfl HC.out HS.out HB.out)
 clear hq
 cases q with
 | false =>
  go_wp2_with (go_at_call 28;refine CB.out.mono ?_;rintro e w1 ⟨A1,m1,c1,rfl,hf1,_⟩;have HF1:=Lib.hid hf1;clear hf1)
  go_ret2
  refine ⟨HF1.out,.inl ⟨20,?_,rfl⟩⟩
  unfold readF
  rw [← HQ.out]
  rfl
 | true =>
  obtain ⟨b,hbb⟩:∃ b,b = (l.take (l.length - 4)).drop 4:=⟨_,rfl⟩
  have HLB:=Lib.hid (show b.length ≤ 100000000000 by rw [hbb,List.length_drop,List.length_take];have:=HB.out;omega)
  have HRF:=Lib.hid (show readF l = (let r:=rdNum 65535 (b,false);if r.2.2 = true then .error 20 else match rdsF r.1 r.2 [] with
   | .error e=>.error e
   | .ok (es,s)=>if s.2 = true ∨ s.1 ≠ [] then .error 20 else .ok es) by unfold readF;rw [← HQ.out,if_pos rfl,hbb];rfl)
  rw [← hbb] at CB
  clear hbb HQ HS HC HB
  go_upto_region 5 with (go_at_call 28;refine CB.out.mono ?_;rintro e w1 ⟨A1,m1,c1,rfl,hf1,hh1⟩;have HF1:=Lib.hid hf1;have HH1:=Lib.hid (hh1 rfl);clear hf1 hh1)
  obtain ⟨MO,hMO⟩:∃ x,x = w1.heap.size:=⟨_,rfl⟩
  obtain ⟨MU,hMU⟩:∃ x,x = w1.heap.size + 1:=⟨_,rfl⟩
  obtain ⟨P,hP⟩:∃ x,x = w1.heap.size + 1 + 1:=⟨_,rfl⟩
  obtain ⟨W2,hW2⟩:∃ W2,W2 = (((w1.alloc (.map #[] 0)).alloc (.map #[] 0)).alloc (.cells #[.map (some w1.heap.size),.map (some (w1.heap.size + 1))] 61)):=⟨_,rfl⟩
  have g1:Fr noB w1 (w1.alloc (.map #[] 0)):=(Fr.refl noB w1).alloc _
  have g2:Fr noB w1 ((w1.alloc (.map #[] 0)).alloc (.map #[] 0)):=g1.alloc _
  have k1:((w1.alloc (.map #[] 0)).alloc (.map #[] 0)).heap.size = P:=by rw [hP];simp
  have HF2:=Lib.hid (show Fr noB w W2 by rw [hW2];exact HF1.out.step0 (g2.alloc _))
  have HPB:=Lib.hid (show Blk W2 P 61 [.map (some MO),.map (some MU)] by rw [hW2,← k1,hMO,hMU];exact Blk.new _ 61 [.map (some w1.heap.size),.map (some (w1.heap.size + 1))])
  have HMO:=Lib.hid (show mpI W2 MO = some [] by rw [hW2,hMO,mpI_old _ _ _ (by simp;omega),mpI_old _ _ _ (by simp)];exact mpI_new w1)
  have HMU:=Lib.hid (show mpI W2 MU = some [] by
   have:=mpI_new (w1.alloc (.map #[] 0))
   rw [show (w1.alloc (.map #[] 0)).heap.size = MU by rw [hMU];simp] at this
   rw [hW2,mpI_old _ _ _ (by rw [hMU];simp)];exact this)
  have HH2:=Lib.hid (show m1 = b.length ∧ Sl W2 A1 (bv b) from ⟨HH1.out.1,by rw [hW2];exact HH1.out.2.fr0 (g2.alloc _)⟩)
  have HMM:=Lib.hid (show w.heap.size ≤ MO ∧ MO < MU ∧ MU < P ∧ P < W2.heap.size from by have:=HF1.out.size;have:=Blk.lt HPB.out;omega)
  rw [← hW2,← hP,← hMU,← hMO]
  clear hW2 hMO hMU hP g1 g2 k1 HF1 HH1
  obtain ⟨nn,s0,hn0⟩:∃ nn s',rdNum 65535 (b,false) = (nn,s'):=⟨_,_,rfl⟩
  have HN0:=Lib.hid hn0
  have HNB:=Lib.hid (show nn ≤ 65535 ∧ s0.1.length ≤ b.length by have:=rdNum_bd 65535 (b,false);rw [hn0] at this;exact this)
  have HRG:=Lib.hid (show readF l = if s0.2 = true then .error 20 else match rdsF nn s0 [] with
   | .error e=>.error e
   | .ok (es,s)=>if s.2 = true ∨ s.1 ≠ [] then .error 20 else .ok es by rw [HRF.out];simp only [hn0])
  clear hn0 HRF CB
  go_upto_region 7 with first
   | (go_at_call 29;refine (read_n W2 A1 c1 b m1 HH2.out.1.symm HH2.out.2 (by have:=HLB.out;omega)).mono ?_;rintro e w3 ⟨p,rfl,hp,hr,hf⟩;have HR:=Lib.hid hr;have HPW:=Lib.hid hp;have HF3:=Lib.hid hf;clear hr hp hf)
   | (go_at_call 30;refine (num_eq w3 p (b,false) _ 65535 (by decide) HR.out (by have:=HLB.out;simp only;omega) nn s0 HN0.out).mono ?_;rintro e w4 ⟨rfl,hr2,hf2⟩;have HR4:=Lib.hid hr2;have HF4:=Lib.hid (show Fr noB W2 w4 from HF3.out.step1 hf2 HPW.out);clear hr2 hf2)
  have HFW:=Lib.hid (HF2.out.step0 HF4.out)
  have HPB4:=Lib.hid (HPB.out.fr HF4.out (by simp [noB]))
  have HMO4:=Lib.hid (mpI_fr HMO.out HF4.out (by simp [noB]))
  have HMU4:=Lib.hid (mpI_fr HMU.out HF4.out (by simp [noB]))
  obtain ⟨Q,hQ⟩:∃ Q:Nat → Prop,Q = fun x=>W2.heap.size ≤ x ∧ x < p:=⟨_,rfl⟩
  have HQL:=Lib.hid (show ∀ x,Q x → P < x by rw [hQ];exact fun x h=>by have:=HMM.out;omega)
  have HPW4:=Lib.hid (show p < w4.heap.size from HR4.out.lt)
  have HQP:=Lib.hid (show ¬ Q p by rw [hQ];simp)
  have HQW:=Lib.hid (show ∀ x,Q x → x < p by rw [hQ];exact fun x h=>h.2)
  have HPP:=Lib.hid (show P < p ∧ w.heap.size ≤ p from by have:=HPW.out;have:=HMM.out;omega)
  rw [← hQ] at HR4
  clear HR HF3 HF4 HPB HMO HMU hQ HPW HF2 HH2
  cases hrb:s0.2 with
  | true =>
   have HE:=Lib.hid (show readF l = .error 20 by rw [HRG.out,if_pos hrb])
   go_wp2_with (go_at_call 31;refine (good_any _ p s0 Q HR4.out).mono ?_;rintro e w8 ⟨rfl,h8⟩;subst h8;rw [hrb])
   go_ret2
   exact ⟨HFW.out,.inl ⟨20,HE.out,rfl⟩⟩
  | false =>
   have HE:=Lib.hid (show readF l = match rdsF nn s0 [] with
    | .error e=>.error e
    | .ok (es,s)=>if s.2 = true ∨ s.1 ≠ [] then .error 20 else .ok es by rw [HRG.out,if_neg (by rw [hrb];exact Bool.false_ne_true)])
   go_upto_region 10 with (go_at_call 31;refine (good_any _ p s0 Q HR4.out).mono ?_;rintro e w8 ⟨rfl,h8⟩;subst h8;rw [hrb])
   have H0:=Lib.hid (show ∃ (i:Nat) (A9:Option Addr) (c9:Nat) (rs:List PeW) (es:List PeP) (s:RS) (kv:List (ID × Value)),(Value.slice none 0 0) = .slice A9 rs.length c9 ∧ (Value.int .i64 0) = .int .i64 (i:Int) ∧ nn - 0 = nn - i ∧ i ≤ nn ∧ rs.length = i ∧ OwnC codPe w4 w4 A9 c9 rs ∧ w4.heap.size ≤ w4.heap.size ∧ EsIn w4 rs es ∧ Rdr w4 p s Q ∧ Blk w4 P 61 [.map (some MO),.map (some MU)] ∧ mpI w4 MO = some kv ∧ KvIn w4 kv es ∧ mpI w4 MU = some [] ∧ Fr noB w w4 ∧ rdsF nn s0 [] = rdsF (nn - i) s es ∧ s.1.length ≤ 100000000000 from
    ⟨0,none,0,[],[],s0,[],rfl,rfl,rfl,Nat.zero_le _,rfl,World.ownsRow_nil _ _ _ _,Nat.le_refl _,EsIn.nil _,HR4.out,HPB4.out,HMO4.out,KvIn.nil _,HMU4.out,HFW.out,rfl,by have:=HNB.out;have:=HLB.out;omega⟩)
   clear HR4 HPB4 HMO4 HMU4 HFW HRG HN0 hrb
   go_wp2_with fail
   go_loopg [11,34] (nn - 0) (fun gk av iv wr=>∃ (i:Nat) (A9:Option Addr) (c9:Nat) (rs:List PeW) (es:List PeP) (s:RS) (kv:List (ID × Value)),av = .slice A9 rs.length c9 ∧ iv = .int .i64 (i:Int) ∧ gk = nn - i ∧ i ≤ nn ∧ rs.length = i ∧ OwnC codPe w4 wr A9 c9 rs ∧ w4.heap.size ≤ wr.heap.size ∧ EsIn wr rs es ∧ Rdr wr p s Q ∧ Blk wr P 61 [.map (some MO),.map (some MU)] ∧ mpI wr MO = some kv ∧ KvIn wr kv es ∧ mpI wr MU = some [] ∧ Fr noB w wr ∧ rdsF nn s0 [] = rdsF (nn - i) s es ∧ s.1.length ≤ 100000000000)
   case atStart=>exact H0.out
   case round =>
    clear H0
    obtain ⟨i,A9,c9,rs,es,s,kv,rfl,rfl,rfl,hi,hri,ho,hz4,hes,hr,hpb,hmo,hkv,hmu,hf,hex,hsl⟩:=hrel
    have HRI:=Lib.hid hri
    have HO:=Lib.hid ho
    have HZ4:=Lib.hid hz4
    have HES:=Lib.hid hes
    have HR:=Lib.hid hr
    have HPB:=Lib.hid hpb
    have HMO:=Lib.hid hmo
    have HKV:=Lib.hid hkv
    have HMU:=Lib.hid hmu
    have HF:=Lib.hid hf
    have HEX:=Lib.hid hex
    have HSL:=Lib.hid hsl
    clear hri ho hz4 hes hr hpb hmo hkv hmu hf hex hsl
    by_cases hlt:i < nn
    ·have i1:(i:Int) < (nn:Int):=by omega
     have HLT:=Lib.hid hlt
     obtain ⟨ee,s',hent⟩:∃ ee s',entF s es = (ee,s'):=⟨_,_,rfl⟩
     have HEN:=Lib.hid hent
     have HSL':=Lib.hid (show s'.1.length ≤ 100000000000 from by have:=entF_len s es;rw [hent] at this;have:=HSL.out;simp only at *;omega)
     clear hlt hi hent
     go_upto_region 13 with (go_at_call 32;refine (pkread_any _ p s Q HR.out HQP.out (fun x hx=>by have:=HQW.out x hx;have:=HR.out.lt;omega) HSL.out (.pointer (some ⟨P,0,none⟩)) A9 _ c9 rs es rfl (Sl.own HO.out) HES.out (HR.out.offE HO.out) (by have:=HRI.out;have:=HLT.out;have:=HNB.out;omega)).mono ?_;rw [HEN.out];rintro e w5 ⟨x,rfl,hr5,hf5,hx5⟩;obtain ⟨xA,xn,xc,xh⟩:=x;rw [show (codPe.cs ⟨xA,xn,xc,xh⟩).toArray = #[.slice xA xn xc,.int .i64 (xh:Int)] from rfl];have HR5:=Lib.hid hr5;have HF5:=Lib.hid hf5;have HX5:=Lib.hid hx5;clear hr5 hf5 hx5)
     obtain ⟨E,hE⟩:∃ E,E = w5.heap.size:=⟨_,rfl⟩
     have fE:Fr noB w5 (w5.alloc (.cells #[.slice xA xn xc,.int .i64 (xh:Int)] 53)):=(Fr.refl noB w5).alloc _
     have bE:Blk (w5.alloc (.cells #[.slice xA xn xc,.int .i64 (xh:Int)] 53)) E 53 (codPe.cs ⟨xA,xn,xc,xh⟩):=by rw [hE];exact Blk.new w5 53 (codPe.cs ⟨xA,xn,xc,xh⟩)
     have fp:Fr (oneB p) wr (w5.alloc (.cells #[.slice xA xn xc,.int .i64 (xh:Int)] 53)):=HF5.out.step0 fE
     have HE6:=Lib.hid bE
     have HR6:=Lib.hid (HR5.out.fr fE (by simp [noB]) (fun _ _=>by simp [noB]))
     have HO6:=Lib.hid (own_fr HO.out fp (HR.out.neE HO.out))
     have HES6:=Lib.hid (HES.out.frp HR.out fp)
     have HPB6:=Lib.hid (HPB.out.fr fp (fun e=>by have e:P = p:=e;have:=HPP.out;omega))
     have HMO6:=Lib.hid (mpI_fr HMO.out fp (fun e=>by have e:MO = p:=e;have:=HPP.out;have:=HMM.out;omega))
     have HMU6:=Lib.hid (mpI_fr HMU.out fp (fun e=>by have e:MU = p:=e;have:=HPP.out;have:=HMM.out;omega))
     have HKV6:=Lib.hid (HKV.out.frT fp HR.out.no8)
     have HX6:=Lib.hid (show ∀ on,ee = .ok on → PeIn _ ⟨xA,xn,xc,xh⟩ on from fun on h=>(HX5.out on h).fr0 fE)
     have HF6:=Lib.hid (HF.out.step1 fp HPP.out.2)
     have HZ6:=Lib.hid (show w4.heap.size ≤ _ from Nat.le_trans HZ4.out fp.size)
     rw [← hE]
     clear hE fE bE fp HR5 HF5 HX5 HR HO HES HPB HMO HMU HKV HF
     generalize w5.alloc (.cells #[.slice xA xn xc,.int .i64 (xh:Int)] 53) = w6 at HE6 HR6 HO6 HES6 HPB6 HMO6 HMU6 HKV6 HX6 HF6 HZ6 ⊢
     obtain ⟨q,hq⟩:∃ q,q = errPk ee:=⟨_,rfl⟩
     rw [← hq]
     have HNI:=Lib.hid (show nn - i = (nn - (i + 1)) + 1 from by have:=HLT.out;omega)
     cases ee with
     | error er =>
      have hqe:q = er:=hq
      subst hqe
      have her:=entF_err HEN.out
      have n0:((q:Int) == 0) = false:=by rw [beq_eq_false_iff_ne];omega
      have HER:=Lib.hid (show readF l = .error q by rw [HE.out,HEX.out,HNI.out];simp only [rdsF,HEN.out])
      clear her hq
      go_wp2_with fail
      go_ret2
      exact ⟨HF6.out,.inl ⟨q,HER.out,rfl⟩⟩
     | ok on =>
      have hqe:q = 0:=hq
      subst hqe
      have HX:=Lib.hid (HX6.out on rfl)
      have e0:w6.cell? ⟨E,0,none⟩ = some (.slice xA xn xc):=HE6.out.cell 0
      have e1:w6.cell? ⟨E,1,none⟩ = some (.int .i64 (xh:Int)):=HE6.out.cell 1
      clear hq HX6
      go_upto_region 16 with (go_at_call 11;refine (sum_sh w6 xA xn xc on.b HX.out.len (by have:=HX.out.len;have:=HX.out.cap;simp only at *;omega) (by have:=HX.out.bd;omega) HX.out.sl.sl).mono ?_;rintro e w7 ⟨rfl,hf7⟩;have HF7:=Lib.hid hf7;clear hf7)
      obtain ⟨y,hy⟩:∃ y,y = nameH on.b:=⟨_,rfl⟩
      obtain ⟨I,hI⟩:∃ I,I = w7.heap.size:=⟨_,rfl⟩
      obtain ⟨g1,_,g3⟩:=putB_fr (bxI_new w7 zID) y
      have f8:Fr noB w6 (putB (w7.alloc (ido zID)) w7.heap.size y).drew:=(HF7.out.step0 (((Fr.refl noB w7).alloc _).trans g1 (fun b hb e=>by have e:b = w7.heap.size:=e;omega))).drew
      rw [← hI] at g3
      rw [← bxI_drew] at g3
      have HI8:=Lib.hid g3
      have HE8:=Lib.hid (HE6.out.fr f8 (by simp [noB]))
      have HR8:=Lib.hid (HR6.out.fr f8 (by simp [noB]) (fun _ _=>by simp [noB]))
      have HO8:=Lib.hid (own_fr HO6.out f8 (fun _ _=>by simp [noB]))
      have HES8:=Lib.hid (HES6.out.fr0 f8)
      have HPB8:=Lib.hid (HPB6.out.fr f8 (by simp [noB]))
      have HMO8:=Lib.hid (mpI_fr HMO6.out f8 (by simp [noB]))
      have HMU8:=Lib.hid (mpI_fr HMU6.out f8 (by simp [noB]))
      have HKV8:=Lib.hid (HKV6.out.fr0 f8)
      have HX8:=Lib.hid (HX.out.fr0 f8)
      have HF8:=Lib.hid (HF6.out.step0 f8)
      have HZ8:=Lib.hid (show w4.heap.size ≤ _ from Nat.le_trans HZ6.out f8.size)
      have HIW:=Lib.hid (show w.heap.size ≤ I from by have:=HF6.out.size;have:=HF7.out.size;omega)
      rw [← hI,← hy]
      have HY:=Lib.hid hy
      simp only [← hI] at HI8 HE8 HR8 HO8 HES8 HPB8 HMO8 HMU8 HKV8 HX8 HF8 HZ8
      clear hI hy g1 g3 f8 e0 e1 HE6 HR6 HO6 HES6 HPB6 HMO6 HMU6 HKV6 HF6 HX HF7
      generalize putB (w7.alloc (ido zID)) I y = w8 at HI8 HE8 HR8 HO8 HES8 HPB8 HMO8 HMU8 HKV8 HX8 HF8 HZ8 ⊢
      obtain ⟨F,hFd⟩:∃ F:World → Prop,F = fun w'=>Fr noB w8.drew w':=⟨_,rfl⟩
      have hF0:F w8.drew:=by rw [hFd];exact Fr.refl _ _
      have fr:∀ j:Wd F,Fr noB w8.drew j.w:=fun j=>cast (congrFun hFd j.w) j.h
      have q0:∀ j:Wd F,j.w.cell? ⟨P,0,none⟩ = some (.map (some MO)):=fun j=>(HPB8.out.fr (fr j) (by simp [noB])).cell 0
      have q1:∀ j:Wd F,rdI j.w I 0 = some y:=fun j=>bxI_rd (bxI_fr HI8.out (fr j) (by simp [noB]))
      rcases HKV8.out.look (mpI_nd HMO8.out) y with ⟨hl,hno⟩ | ⟨x2,ad,c2,hx2,hy2,hl,_⟩
      ·have q2:∀ j:Wd F,(Instr.lookup 43 (.map (some MO)) (encI y) false).run Try.prog j.w = .ok (.slice none 0 0) j.w:=fun j=>by
        rw [(mpI_mp (mpI_fr HMO8.out (fr j) (by simp [noB]))).look keyI Try.underlying43 (zeroBy j.w) y,hl];rfl
       have HNO:=Lib.hid hno
       have HLK:=Lib.hid hl
       clear hFd fr hl hno
       refine wp_region_M 6 7 [⟨1125899906842624,256,0⟩,⟨2251799813685248,1125899906842624,1⟩,⟨4503599627370496,2251799813685248,2⟩,⟨9007199254740992,4503599627370496,4⟩,⟨18014398509481984,16384,0⟩,⟨36028797018963968,27021597764222976,24⟩,⟨72057594037927936,36028797018963968,32⟩] [(true,0),(true,1),(true,2),(true,3),(true,4),(true,5)] F (by kernel_rfl) rfl (by kernel_rfl) (by kernel_rfl) (by kernel_rfl) hF0 (fun hA hF=>?_)
       clear hF0
       generalize w8.drew = wd at hF q0 q1 q2 HI8 HE8 HR8 HO8 HES8 HPB8 HMO8 HMU8 HKV8 HX8 HF8 HZ8 ⊢
       have NE:=Wd.ne hF
       refine wpAnyS_takes (s2:=[]) (fuel:=1) (fun d v c a w h=>by cases d <;> exact h) hF [0,1,2,3,4,5] hA ?_
       repeat (refine wpTakes_at (by rfl) (by rfl) ?_;go_big_quiet_step (fail);refine wpQuiet_nil ?_)
       refine wpTakes_nil ?_
       clear NE
       intro hA
       refine wpAnyS_end hA rfl ?_
       simp only [List.drop_succ_cons,List.drop_zero]
       clear hF q0 q1 q2
       go_upto_region 18 with fail
       obtain ⟨G,hGd⟩:∃ G:World → Prop,G = fun w'=>Fr noB wd.drew w':=⟨_,rfl⟩
       have hG0:G wd.drew:=by rw [hGd];exact Fr.refl _ _
       have fr:∀ j:Wd G,Fr noB wd.drew j.w:=fun j=>cast (congrFun hGd j.w) j.h
       have fd:Fr noB wd wd.drew:=(Fr.refl noB wd).drew
       have HI9:=Lib.hid (bxI_fr HI8.out fd (by simp [noB]))
       have HE9:=Lib.hid (HE8.out.fr fd (by simp [noB]))
       have HR9:=Lib.hid (HR8.out.fr fd (by simp [noB]) (fun _ _=>by simp [noB]))
       have HO9:=Lib.hid (own_fr HO8.out fd (fun _ _=>by simp [noB]))
       have HES9:=Lib.hid (HES8.out.fr0 fd)
       have HPB9:=Lib.hid (HPB8.out.fr fd (by simp [noB]))
       have HMO9:=Lib.hid (mpI_fr HMO8.out fd (by simp [noB]))
       have HMU9:=Lib.hid (mpI_fr HMU8.out fd (by simp [noB]))
       have HKV9:=Lib.hid (HKV8.out.fr0 fd)
       have HX9:=Lib.hid (HX8.out.fr0 fd)
       have HF9:=Lib.hid (HF8.out.step0 fd)
       have HZ9:=Lib.hid (show w4.heap.size ≤ wd.drew.heap.size from HZ8.out)
       have q0:∀ j:Wd G,j.w.cell? ⟨P,0,none⟩ = some (.map (some MO)):=fun j=>(HPB9.out.fr (fr j) (by simp [noB])).cell 0
       have q1:∀ j:Wd G,rdI j.w I 0 = some y:=fun j=>bxI_rd (bxI_fr HI9.out (fr j) (by simp [noB]))
       have q2:∀ j:Wd G,j.w.cell? ⟨E,0,none⟩ = some (.slice xA xn xc):=fun j=>(HE9.out.fr (fr j) (by simp [noB])).cell 0
       have HGD:=Lib.hid hGd
       clear hGd fr fd HI8 HE8 HR8 HO8 HES8 HPB8 HMO8 HMU8 HKV8 HX8 HF8
       refine wp_region_M 9 10 [⟨144115188075855872,256,0⟩,⟨288230376151711744,144115188075855872,1⟩,⟨576460752303423488,288230376151711744,2⟩,⟨1152921504606846976,576460752303423488,4⟩,⟨2305843009213693952,16384,0⟩,⟨4611686018427387904,0,0⟩,⟨9223372036854775808,4096,0⟩,⟨18446744073709551616,9223372036854775808,64⟩,⟨36893488147419103232,23058430092136939520,160⟩,⟨0,40352252661239644160,511⟩] [(true,0),(true,1),(true,2),(true,3),(true,4),(true,6),(true,7),(false,5),(false,8)] G (by kernel_rfl) rfl (by kernel_rfl) (by kernel_rfl) (by kernel_rfl) hG0 (fun hA hF=>?_)
       clear hG0
       generalize wd.drew = we at hF q0 q1 q2 HI9 HE9 HR9 HO9 HES9 HPB9 HMO9 HMU9 HKV9 HX9 HF9 HZ9 HGD ⊢
       have NE:=Wd.ne hF
       refine wpAnyS_takes (s2:=[(false,5),(false,8)]) (fuel:=3) (fun d v c a w h=>by cases d <;> exact h) hF [0,1,2,3,4,6,7] hA ?_
       repeat (refine wpTakes_at (by rfl) (by rfl) ?_;go_big_quiet_step (fail);refine wpQuiet_nil ?_)
       refine wpTakes_nil ?_
       clear NE
       intro hA
       refine wpAnyS_one hA rfl (fun K' hK=>?_)
       go_simp
       have fb:Fr noB we (we.alloc (.cells #[] 5)):=(Fr.refl noB we).alloc _
       have keep:∀ w' w'',Fr noB w' w'' → G w' → G w'':=fun w' w'' f h=>by rw [HGD.out] at h ⊢;exact h.step0 f
       have own0:OwnB we (we.alloc (.cells #[] 5)) (some ⟨we.heap.size,0,none⟩) 0 []:=World.ownsRow_lit (base:=we.heap.size) (e:=5) (size:=1) we #[] 0 (Nat.le_refl _) (by unfold maxLen;omega) (by simp)
       replace hF:=keep _ _ fb hF
       refine hK.out _ _ hF (fun hA=>?_)
       clear hK K'
       refine wpAnyS_one hA rfl (fun K' hK=>?_)
       refine step_appC we _ rfl _ _ rfl (some ⟨we.heap.size,0,none⟩) _ 0 [] rfl rfl own0 xA _ xc on.b rfl (HX9.out.sl.sl.fr0 fb) HX9.out.len (by have:=HX9.out.bd;simp;omega) fb.size ?_
       intro A6 c6 w6 hc6 hm6 ho6 hg6 hA6
       have f6:Fr noB we w6:=fb.step (Fr.ofGrown (M:=fun b=>some we.heap.size = some b) hg6 (fun _ h=>h)) (fun b hb=>.inl (by injection hb with hb;omega))
       replace hF:G w6:=by rw [HGD.out];exact f6
       obtain ⟨ad,rfl⟩:∃ ad,A6 = some ad:=by
        cases A6 with
        | none=>rcases hA6 with h | h <;> cases h
        | some ad=>exact ⟨ad,rfl⟩
       rw [List.nil_append] at ho6 hc6 ⊢
       have HL6:=Lib.hid (SlT.own ho6)
       have HC6:=Lib.hid hc6
       obtain ⟨hput,hm7,fm7,hz7⟩:=mput_all Try.underlying43 (mpI_fr HMO9.out f6 (by simp [noB])) y (.slice (some ad) on.b.length c6)
       have HF6:=Lib.hid f6
       have HM7:=Lib.hid hm7
       have HFM:=Lib.hid fm7
       refine hK.out _ _ hF (fun hA=>?_)
       clear hK K' own0 fb ho6 hc6 hm6 hg6 hA6 f6 hm7 fm7 hz7 keep hF q0 q1 q2
       refine wpAnyS_end hA rfl ?_
       simp only [List.drop_succ_cons,List.drop_zero]
       go_upto_region 19 with fail
       have hm6:=mpI_fr HMO9.out HF6.out (by simp [noB])
       have m8:=mp_no8 hm6
       have f7:=HFM.out
       have HE7:=Lib.hid ((HE9.out.fr HF6.out (by simp [noB])).fr f7 (fun e=>mp_ne hm6 (HE9.out.fr HF6.out (by simp [noB])) e))
       have HR7:=Lib.hid ((HR9.out.fr HF6.out (by simp [noB]) (fun _ _=>by simp [noB])).fr f7 (fun e=>by have e:p = MO:=e;have:=HPP.out;have:=HMM.out;omega) (fun x hx e=>by have e:x = MO:=e;have:=HQL.out x hx;have:=HMM.out;omega))
       have HO7:=Lib.hid (own_fr (own_fr HO9.out HF6.out (fun _ _=>by simp [noB])) f7 (fun g hg e=>by have e:g = MO:=e;have:=HO9.out.lt g hg;have:=HPW4.out;have:=HPP.out;have:=HMM.out;omega))
       have HES7:=Lib.hid ((HES9.out.fr0 HF6.out).frT f7 m8)
       have HPB7:=Lib.hid ((HPB9.out.fr HF6.out (by simp [noB])).fr f7 (fun e=>by have e:P = MO:=e;have:=HMM.out;omega))
       have HMU7:=Lib.hid (mpI_fr (mpI_fr HMU9.out HF6.out (by simp [noB])) f7 (fun e=>by have e:MU = MO:=e;have:=HMM.out;omega))
       have HKV7:=Lib.hid (((HKV9.out.fr0 HF6.out).frT f7 m8).snoc on ad c6 (HL6.out.frT f7 m8) HC6.out HX9.out.bd)
       have HX7:=Lib.hid ((HX9.out.fr0 HF6.out).frT f7 m8)
       have HM8:=Lib.hid (show mpI (mput 43 w6 MO y (.slice (some ad) on.b.length c6)) MO = some (kv ++ [(nameH on.b,.slice (some ad) on.b.length c6)]) by rw [HM7.out];unfold putL;rw [HLK.out,← HY.out];rfl)
       have HF7:=Lib.hid ((HF9.out.step0 HF6.out).step1 f7 (by have:=HMM.out;omega))
       have HZ7:=Lib.hid (show w4.heap.size ≤ (mput 43 w6 MO y (.slice (some ad) on.b.length c6)).heap.size from by have:=f7.size;have:=HF6.out.size;have:=HZ9.out;omega)
       clear hm6 m8 f7 HI9 HE9 HR9 HO9 HES9 HPB9 HMO9 HMU9 HKV9 HX9 HF9 HM7 HFM HF6 hput HL6
       generalize mput 43 w6 MO y (.slice (some ad) on.b.length c6) = w7' at HE7 HR7 HO7 HES7 HPB7 HMU7 HKV7 HX7 HM8 HF7 HZ7 ⊢
       have e0:w7'.cell? ⟨E,0,none⟩ = some (.slice xA xn xc):=HE7.out.cell 0
       have e1:w7'.cell? ⟨E,1,none⟩ = some (.int .i64 (xh:Int)):=HE7.out.cell 1
       have fn:Fr noB w7' (w7'.alloc (.cells #[.slice xA xn xc,.int .i64 (xh:Int)] 53)):=(Fr.refl noB w7').alloc _
       have sl:Sl (w7'.alloc (.cells #[.slice xA xn xc,.int .i64 (xh:Int)] 53)) (some ⟨w7'.heap.size,0,none⟩) (codPe.row [⟨xA,xn,xc,xh⟩]):=Sl.new w7' 53 [.slice xA xn xc,.int .i64 (xh:Int)]
       have ho2:OwnC codPe w4 (w7'.alloc (.cells #[.slice xA xn xc,.int .i64 (xh:Int)] 53)) A9 c9 rs:=own_fr HO7.out fn (fun _ _=>by simp [noB])
       have sz:w4.heap.size ≤ (w7'.alloc (.cells #[.slice xA xn xc,.int .i64 (xh:Int)] 53)).heap.size:=by have:=HZ7.out;have:=fn.size;omega
       have HFN:=Lib.hid fn
       clear fn
       go_wp2_with (at_builtin;refine wpList_appC' etPe w4 _ rfl _ _ rfl A9 rs.length c9 rs rfl rfl ho2 (some ⟨w7'.heap.size,0,none⟩) 1 1 [⟨xA,xn,xc,xh⟩] rfl sl rfl (by have:=HRI.out;have:=HLT.out;have:=HNB.out;simp;omega) sz ?_;intro A8 c8 w9' hc8 hmx8 ho8 hg8 hA8;obtain ⟨l8,hl8⟩:∃ t,t = rs ++ [(⟨xA,xn,xc,xh⟩:PeW)]:=⟨_,rfl⟩;rw [← hl8] at ho8 ⊢;have HL8:=Lib.hid hl8;have HG8:=Lib.hid (Fr.ofGrown (M:=fun b=>A9.map (·.block) = some b) hg8 (fun _ h=>h));have HO8:=Lib.hid ho8;have HO2:=Lib.hid ho2;clear hl8 hc8 hmx8 hg8 hA8 ho8 sl)
       have wk:wrap64 ((i:Int) + 1) = (i:Int) + 1:=IntWalk.wrap64_in _ (by have:=HLT.out;have:=HNB.out;omega)
       have hlo:∀ g,A9.map (·.block) = some g → w4.heap.size ≤ g:=fun g hg=>(HO2.out.lt g (by rw [ownBlock_sl'];exact hg)).1
       have fg:=HG8.out
       have n8:=own_no8 HO2.out
       go_roundg (nn - (i + 1))
       case measure=>have:=HLT.out;omega
       case rel =>
        have hp4:=HPW4.out
        have hpp:=HPP.out
        have hmm:=HMM.out
        refine ⟨i + 1,A8,c8,l8,es ++ [on],s',kv ++ [(nameH on.b,.slice (some ad) on.b.length c6)],rfl,by first | exact congrArg (Value.int .i64) wk | simp,rfl,HLT.out,by rw [HL8.out,List.length_append,HRI.out];rfl,HO8.out,Nat.le_trans sz fg.size,?_,?_,?_,?_,?_,?_,?_,?_,HSL'.out⟩
        ·rw [HL8.out];exact ((HES7.out.fr0 HFN.out).frT fg n8).snoc ((HX7.out.fr0 HFN.out).frT fg n8)
        ·exact (HR7.out.fr HFN.out (by simp [noB]) (fun _ _=>by simp [noB])).fr fg (fun e=>by have:=hlo p e;omega) (fun x hx e=>by have:=hlo x e;have:=HQW.out x hx;omega)
        ·exact (HPB7.out.fr HFN.out (by simp [noB])).fr fg (fun e=>by have:=hlo P e;omega)
        ·exact mpI_fr (mpI_fr HM8.out HFN.out (by simp [noB])) fg (fun e=>by have:=hlo MO e;omega)
        ·exact (HKV7.out.fr0 HFN.out).frT fg n8
        ·exact mpI_fr (mpI_fr HMU7.out HFN.out (by simp [noB])) fg (fun e=>by have:=hlo MU e;omega)
        ·exact (HF7.out.step0 HFN.out).step fg (fun b hb=>.inl (by have:=hlo b hb;omega))
        ·rw [HEX.out,HNI.out]
         simp only [rdsF,HEN.out]
         rw [if_neg (by rw [← HY.out];exact HNO.out)]
      ·have q2:∀ j:Wd F,(Instr.lookup 43 (.map (some MO)) (encI y) false).run Try.prog j.w = .ok (.slice (some ad) x2.b.length c2) j.w:=fun j=>by
        rw [(mpI_mp (mpI_fr HMO8.out (fr j) (by simp [noB]))).look keyI Try.underlying43 (zeroBy j.w) y,hl];rfl
       have HER:=Lib.hid (show readF l = .error 5 by
        rw [HE.out,HEX.out,HNI.out]
        simp only [rdsF,HEN.out]
        rw [if_pos (by rw [← HY.out];exact List.mem_map.2 ⟨x2,hx2,hy2⟩)])
       clear hFd fr hl hx2 hy2
       refine wp_region_M 6 7 [⟨1125899906842624,256,0⟩,⟨2251799813685248,1125899906842624,1⟩,⟨4503599627370496,2251799813685248,2⟩,⟨9007199254740992,4503599627370496,4⟩,⟨18014398509481984,16384,0⟩,⟨36028797018963968,27021597764222976,24⟩,⟨72057594037927936,36028797018963968,32⟩] [(true,0),(true,1),(true,2),(true,3),(true,4),(true,5)] F (by kernel_rfl) rfl (by kernel_rfl) (by kernel_rfl) (by kernel_rfl) hF0 (fun hA hF=>?_)
       clear hF0
       generalize w8.drew = wd at hF q0 q1 q2 HI8 HE8 HR8 HO8 HES8 HPB8 HMO8 HMU8 HKV8 HX8 HF8 HZ8 ⊢
       have NE:=Wd.ne hF
       refine wpAnyS_takes (s2:=[]) (fuel:=1) (fun d v c a w h=>by cases d <;> exact h) hF [0,1,2,3,4,5] hA ?_
       repeat (refine wpTakes_at (by rfl) (by rfl) ?_;go_big_quiet_step (fail);refine wpQuiet_nil ?_)
       refine wpTakes_nil ?_
       clear NE
       intro hA
       refine wpAnyS_end hA rfl ?_
       simp only [List.drop_succ_cons,List.drop_zero]
       clear hF q0 q1 q2
       go_wp2_with fail
       go_ret2
       exact ⟨HF8.out,.inl ⟨5,HER.out,rfl⟩⟩
    ·have i1:¬ (i:Int) < (nn:Int):=by omega
     have HNI:=Lib.hid (show nn - i = 0 by omega)
     clear hlt hi
     have HE2:=Lib.hid (show readF l = if s.2 = true ∨ s.1 ≠ [] then .error 20 else .ok es by rw [HE.out,HEX.out,HNI.out];rfl)
     obtain ⟨d,hd⟩:∃ d,d = decide (s = ([],false)):=⟨_,rfl⟩
     have HD:=Lib.hid hd
     clear hd
     cases d with
     | true =>
      go_wp2_with (go_at_call 33;refine (done_any _ p s Q HR.out).mono ?_;rintro e w8 ⟨rfl,h8⟩;subst h8;rw [← HD.out])
      go_ret2
      refine ⟨HF.out,.inr ⟨es,P,?_,rfl,MO,MU,kv,HPB.out,HMO.out,HKV.out,HMU.out⟩⟩
      have:=of_decide_eq_true HD.out.symm
      rw [HE2.out,this]
      rfl
     | false =>
      go_wp2_with (go_at_call 33;refine (done_any _ p s Q HR.out).mono ?_;rintro e w8 ⟨rfl,h8⟩;subst h8;rw [← HD.out])
      go_ret2
      refine ⟨HF.out,.inl ⟨20,?_,rfl⟩⟩
      have:=of_decide_eq_false HD.out.symm
      rw [HE2.out,if_pos]
      obtain ⟨x,y⟩:=s
      cases y with
      | true=>exact .inl rfl
      | false=>exact .inr fun e=>this (by rw [show x = [] from e])
end Go.Proofs.Ytahllkifmmjbdaa
