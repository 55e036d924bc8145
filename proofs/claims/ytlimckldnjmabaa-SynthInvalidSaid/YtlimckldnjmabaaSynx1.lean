/- The beginning of the specification's search, in plain Lean. -/
import Derived.Test.YtlimckldnjmabaaSynx0
import Derived.Test.YtlimckldnjmabaaAWx2
import Derived.Test.YtlimckldnjmabaaProg
import Derived.KernelRfl
set_option linter.unusedSimpArgs false
set_option linter.unusedVariables false
set_option linter.unusedSectionVars false
set_option maxRecDepth 4000
set_option maxHeartbeats 8000000
namespace Go.Proofs.Ytlimckldnjmabaa
open Go Go.AW
def rC(n:ae):List Int:=(((([n.freeze,n.done]:List Int) ++ n.cH) ++ n.bD) ++ n.data)
structure Mh(n:ae)(k:Nat)(eu:List Bool)(O:List Int):Prop where
 len:eu.length = n.cells.length
 nd:∀ i,i < n.cells.length -> (eu.getD i false = true ↔ i < k /\ ¬ cU (n.cells.getD i default).kind)
 op:∀ w,w ∈ O ↔ (w ∈ rC n \/ ∃ i,i < k /\ ¬ cU (n.cells.getD i default).kind /\ w ∈ (n.cells.getD i default).args)
 sz:O.length <= 13 + 4 * k
theorem Mh.init{n:ae}(hM:VP n):Mh n 0 (List.replicate n.cells.length false) (rC n) where
 len:=by simp
 nd:=fun i _=>by rw [rp]; simp
 op:=fun w=>by simp
 sz:=by
  have h1:=hM.vR; have h2:=hM.bZ; have h3:=hM.formed.dy; have h4:=hM.formed.gm
  simp only [rC,List.length_append,List.length_cons,List.length_nil]; omega
theorem Mh.no{n:ae}{k:Nat}{eu:List Bool}{O:List Int}(h:Mh n k eu O)(hc:cU (n.cells.getD k default).kind):Mh n (k + 1) eu O where
 len:=h.len
 nd:=fun i hi=>by
  rw [h.nd i hi]
  constructor
  ·exact fun h1=>⟨om,h1.2⟩
  ·rintro ⟨h1,h2⟩
   refine ⟨?_,h2⟩
   rcases Nat.lt_or_ge i k with h4 | h4
   ·exact h4
   ·obtain rfl:i = k:=by omega
    exact absurd hc h2
 op:=fun w=>by
  rw [h.op w]
  constructor
  ·rintro (h1 | ⟨i,h1,h2,h3⟩)
   ·exact .inl h1
   ·exact .inr ⟨i,om,h2,h3⟩
  ·rintro (h1 | ⟨i,h1,h2,h3⟩)
   ·exact .inl h1
   ·rcases Nat.lt_or_ge i k with h4 | h4
    ·exact .inr ⟨i,h4,h2,h3⟩
    ·obtain rfl:i = k:=by omega
     exact absurd hc h2
 sz:=by have:=h.sz; omega
theorem Sn.init{n:ae}{dO rs O:List Int}{eu:List Bool}(hf:bx n)(QB:rB n rs)(h:Mh n n.cells.length eu O):Sn n dO rs O eu:=by
 have root:∀ w ∈ O,0 <= w -> HO n w:=by
  intro w hw h0
  rcases (h.op w).1 hw with h1 | ⟨i,h1,h2,h3⟩
  ·simp only [rC,List.mem_append,List.mem_cons,List.not_mem_nil,or_false] at h1
   rcases h1 with (((h1 | h1) | h1) | h1) | h1
   ·exact ⟨.inr (.inr (.inl h1))⟩
   ·exact ⟨.inr (.inr (.inr (.inl h1)))⟩
   ·exact ⟨.inr (.inl h1)⟩
   ·exact ⟨.inl h1⟩
   ·exact ⟨.inr (.inr (.inr (.inr (.inl ⟨h1,h0⟩))))⟩
  ·exact ⟨.inr (.inr (.inr (.inr (.inr ⟨i,h1,h2,h3⟩))))⟩
 exact {
  len:=h.len
  vL:=fun w hw=>by
   rcases Int.lt_or_le w 0 with h1 | h1
   ·exact .inl h1
   ·exact .inr ((root w hw h1).vL hf)
  snd:=fun w hw i hd=>.root ((QB w).2 (root w hw (by have:=hf.iQ hd; unfold In at this; omega))) hd
  seq:=fun i hi hc=>(h.nd i hi).2 ⟨hi,hc⟩
  HM:=fun i hi hm hc=>absurd hc ((h.nd i hi).1 hm).2
  root:=fun w hw=>by
   right
   refine (h.op w).2 ?_
   rcases ((QB w).1 hw).is with h1 | h1 | h1 | h1 | ⟨h1,_⟩ | ⟨i,h1,h2,h3⟩
   ·left; simp [rC,h1]
   ·left; simp [rC,h1]
   ·left; simp [rC,h1]
   ·left; simp [rC,h1]
   ·left; simp [rC,h1]
   ·exact .inr ⟨i,h1,h2,h3⟩
  jQ:=fun i hi hm hc=>absurd hc ((h.nd i hi).1 hm).2 }
open Go Go.AW
structure GJ(p:Nat -> Bool)(l m:List Int)(i:Nat):Prop where
 len:m.length = l.length
 lo:∀ j,j < i -> m.getD j 0 = Mg p (l.getD j 0)
 hi:∀ j,i <= j -> m.getD j 0 = l.getD j 0
theorem GJ.init(p:Nat -> Bool)(l:List Int):GJ p l l 0:=⟨rfl,fun j hj=>by omega,fun _ _=>rfl⟩
theorem GJ.set{p:Nat -> Bool}{l m:List Int}{i:Nat}{v:Int}(h:GJ p l m i)(hi:i < m.length)(hv:v = Mg p (l.getD i 0)):GJ p l (m.set i v) (i + 1) where
 len:=by rw [List.length_set]; exact h.len
 lo:=fun j hj=>by
  rw [bP]
  by_cases e:i = j /\ i < m.length
  ·rw [if_pos e,hv,e.1]
  ·rw [if_neg e]; exact h.lo j om
 hi:=fun j hj=>by rw [bP,if_neg om]; exact h.hi j om
theorem GJ.skip{p:Nat -> Bool}{l m:List Int}{i:Nat}(h:GJ p l m i)(hn:¬ l.getD i 0 ≥ 0):GJ p l m (i + 1) where
 len:=h.len
 lo:=fun j hj=>by
  rcases Nat.lt_or_ge j i with h1 | h1
  ·exact h.lo j h1
  ·obtain rfl:j = i:=by omega
   rw [h.hi j (Nat.le_refl _)]
   unfold Mg; rw [if_neg om]
 hi:=fun j hj=>h.hi j om
theorem GJ.done{p:Nat -> Bool}{l m:List Int}(h:GJ p l m l.length):m = l.map (Mg p):=by
 refine List.ext_getElem (by rw [h.len]; simp) fun i h1 h2=>?_
 have h3:i < l.length:=by rw [<- h.len]; exact h1
 have:=h.lo i h3
 rw [List.getD_eq_getElem?_getD,List.getElem?_eq_getElem h1,List.getD_eq_getElem?_getD,List.getElem?_eq_getElem h3] at this
 simpa using this
def HP(p:Nat -> Bool)(k:Nat)(nb:List Int):Prop:=nb.length = k /\ ∀ w,w < k -> nb.getD w 0 = HN p w
open Go Go.AW Go.Proofs
structure Rt(n:ae)(k i:Nat)(O:List Int):Prop where
 op:∀ w,w ∈ O ↔ (w ∈ n.bD \/ w ∈ n.cH \/ w = n.freeze \/ w = n.done) \/ (∃ j,j < k /\ 0 <= n.data.getD j 0 /\ w = n.data.getD j 0) \/ ∃ j,j < i /\ ¬ cU (n.cells.getD j default).kind /\ w ∈ (n.cells.getD j default).args
 sz:O.length <= 9 + k + 4 * i
theorem Rt.init{n:ae}(hM:VP n):Rt n 0 0 ([n.bD,n.cH,[n.freeze,n.done]]:List (List Int)).flatten where
 op:=fun w=>by simp
 sz:=by
  have h1:=hM.vR; have h2:=hM.bZ; have h3:=hM.formed.dy
  simp; omega
theorem Rt.no{n:ae}{d k:Nat}{O:List Int}(h:Rt n d k O)(hc:cU (n.cells.getD k default).kind):Rt n d (k + 1) O where
 op:=fun w=>by
  rw [h.op w]
  constructor
  ·rintro (h1 | h1 | ⟨i,h1,h2,h3⟩)
   ·exact .inl h1
   ·exact .inr (.inl h1)
   ·exact .inr (.inr ⟨i,om,h2,h3⟩)
  ·rintro (h1 | h1 | ⟨i,h1,h2,h3⟩)
   ·exact .inl h1
   ·exact .inr (.inl h1)
   ·rcases Nat.lt_or_ge i k with h4 | h4
    ·exact .inr (.inr ⟨i,h4,h2,h3⟩)
    ·obtain rfl:i = k:=by omega
     exact absurd hc h2
 sz:=by have:=h.sz; omega
theorem Rt.at{n:ae}{O:List Int}{k:Nat}(e:k = n.data.length)(h:Rt n k 0 O):Rt n n.data.length 0 O:=by subst e; exact h
theorem Rt.done{n:ae}{O:List Int}(h:Rt n n.data.length n.cells.length O):rB n O:=by
 intro w
 rw [h.op w]
 constructor
 ·rintro ((h1 | h1 | h1 | h1) | ⟨j,h1,h2,rfl⟩ | h1)
  ·exact ⟨.inl h1⟩
  ·exact ⟨.inr (.inl h1)⟩
  ·exact ⟨.inr (.inr (.inl h1))⟩
  ·exact ⟨.inr (.inr (.inr (.inl h1)))⟩
  ·exact ⟨.inr (.inr (.inr (.inr (.inl ⟨cg h1,h2⟩))))⟩
  ·exact ⟨.inr (.inr (.inr (.inr (.inr h1))))⟩
 ·rintro ⟨h1 | h1 | h1 | h1 | ⟨h1,h2⟩ | h1⟩
  ·exact .inl (.inl h1)
  ·exact .inl (.inr (.inl h1))
  ·exact .inl (.inr (.inr (.inl h1)))
  ·exact .inl (.inr (.inr (.inr h1)))
  ·obtain ⟨j,hj,rfl⟩:=List.mem_iff_getElem.1 h1
   have e:n.data.getD j 0 = n.data[j]:=by rw [List.getD_eq_getElem?_getD,List.getElem?_eq_getElem hj]; rfl
   exact .inr (.inl ⟨j,hj,by rw [e]; exact h2,e.symm⟩)
  ·exact .inr (.inr h1)
theorem rB.at{n:ae}{O:List Int}{k:Nat}(e:k = n.cells.length)(h:Rt n n.data.length k O):rB n O:=by subst e; exact h.done
structure Wn(p:Nat -> Bool)(ws:List Int)(k:Nat)(nb wl:List Int):Prop where
 len:nb.length = ws.length
 num:∀ w,w < k -> nb.getD w 0 = HN p w
 ws:wl = (GI p k).map (fun i=>ws.getD i 0)
theorem Wn.init{p:Nat -> Bool}{ws:List Int}:Wn p ws 0 (List.replicate ws.length 0) []:=⟨by simp,fun w h=>by omega,rfl⟩
theorem Wn.no{p:Nat -> Bool}{ws nb wl:List Int}{k:Nat}(h:Wn p ws k nb wl)(hk:k < ws.length)(hp:p k = false):Wn p ws (k + 1) (nb.set k (-1)) wl where
 len:=by rw [List.length_set]; exact h.len
 num:=fun w hw=>by
  have:=h.len
  rcases Nat.lt_or_ge w k with h1 | h1
  ·rw [bP,if_neg om]; exact h.num w h1
  ·obtain rfl:w = k:=by omega
   rw [bP,if_pos ⟨rfl,om⟩]
   unfold HN; rw [if_neg (by simp [hp])]
 ws:=by rw [wK hp]; exact h.ws
theorem Wn.OL{p:Nat -> Bool}{ws nb wl:List Int}(h:Wn p ws ws.length nb wl):HP p ws.length nb:=⟨h.len,h.num⟩
theorem Wn.ai{p:Nat -> Bool}{ws nb wl:List Int}(h:Wn p ws ws.length nb wl):wl = Jq p ws 0:=h.ws
theorem HP.at{p:Nat -> Bool}{ws nb wl:List Int}{k:Nat}(e:k = ws.length)(h:Wn p ws k nb wl):HP p ws.length nb:=by subst e; exact h.OL
theorem Wn.at{p:Nat -> Bool}{ws nb wl:List Int}{k:Nat}(e:k = ws.length)(h:Wn p ws k nb wl):wl = Jq p ws 0:=by subst e; exact h.ai
def Cn(n:ae)(dO:List Int)(s:List Bool)(i:Nat):List Cell:=((GI (kc n s) i).map (fun i=>n.cells.getD i default)).map (S4 (kw n dO s))
theorem Wn.le{p:Nat -> Bool}{ws nb wl:List Int}{k:Nat}(h:Wn p ws k nb wl):wl.length <= k:=by rw [h.ws,List.length_map]; exact Ff _ _
theorem Cn.no{n:ae}{dO:List Int}{s:List Bool}{i:Nat}(h:kc n s i = false):Cn n dO s (i + 1) = Cn n dO s i:=by unfold Cn; rw [wK h]
open Go Go.AW Go.Proofs
def eQ.tf(a:eQ):List Value:=[.string a.name,.int .i64 a.width,.int .i64 a.len,.int .i64 a.kind,.int .i64 a.ui]
def bI.tf(a:bI):List Value:=[.string a.name,.int .i64 a.width,.bool a.out]
def eQ.S5(a b:eQ):Bool:=a.name.toList == b.name.toList && (a.width == b.width && (a.len == b.len && (a.kind == b.kind && a.ui == b.ui)))
def bI.S5(a b:bI):Bool:=a.name.toList == b.name.toList && (a.width == b.width && a.out == b.out)
open Go Go.AW
def GK{α:Type}(e:α -> α -> Bool)(d:α)(l m:List α):Prop:=l.length = m.length /\ ∀ j,j < l.length -> e (l.getD j d) (m.getD j d) = true
noncomputable instance {α:Type} (e:α -> α -> Bool) (d:α) (l m:List α):Decidable (GK e d l m):=Classical.propDecidable _
def CR(a b:Int):Bool:=decide (a = b)
noncomputable def OM(x y:Cell):Bool:=decide (x.kind = y.kind /\ x.op = y.op /\ x.out = y.out /\ x.num = y.num /\ x.mem = y.mem /\ GK CR 0 x.args y.args)
structure ON(a b:ae):Prop where
 name:a.name.toList = b.name.toList
 aa:GK CR 0 a.aa b.aa
 ins:GK CR 0 a.ins b.ins
 aD:GK eQ.S5 default a.aD b.aD
 streams:GK bI.S5 default a.streams b.streams
 bD:GK CR 0 a.bD b.bD
 data:GK CR 0 a.data b.data
 freeze:a.freeze = b.freeze
 done:a.done = b.done
 cH:GK CR 0 a.cH b.cH
 cells:GK OM default a.cells b.cells
noncomputable instance (a b:ae):Decidable (ON a b):=Classical.propDecidable _
structure X7(n:ae):Prop where
 aa:n.aa.length <= 35184372088832
 cells:n.cells.length <= 35184372088832
 args:∀ c ∈ n.cells,c.args.length <= 35184372088832
 ins:n.ins.length <= 35184372088832
 aD:n.aD.length <= 35184372088832
 streams:n.streams.length <= 35184372088832
 bD:n.bD.length <= 35184372088832
 data:n.data.length <= 35184372088832
 cH:n.cH.length <= 35184372088832
open Go Go.AW Go.Proofs
theorem pW.eq{n:ae}{a b:List Int}(hf:bx n)(ha:pW n a)(hb:pW n b):a = b:=by
 refine List.ext_getElem (by rw [ha.len,hb.len]) fun i h1 h2=>?_
 have hi:In (i:Int) n.aa.length:=⟨om,by have:=ha.len; omega⟩
 have h:=hf.unique (ha.K0 _ hi) (hb.K0 _ hi)
 rw [Int.toNat_natCast,List.getD_eq_getElem?_getD,List.getElem?_eq_getElem h1,List.getD_eq_getElem?_getD,List.getElem?_eq_getElem h2] at h
 exact h
structure Wg(p:Nat -> Bool)(ws:List Int)(k:Nat)(nb:List Int)(v:Nat):Prop where
 w:Wn p ws k nb ((GI p k).map (fun i=>ws.getD i 0))
 v:v = (GI p k).length
theorem Wg.init{p:Nat -> Bool}{ws:List Int}:Wg p ws 0 (List.replicate ws.length 0) 0:=⟨Wn.init,rfl⟩
theorem Wg.no{p:Nat -> Bool}{ws nb:List Int}{k v:Nat}(h:Wg p ws k nb v)(hk:k < ws.length)(hp:p k = false):Wg p ws (k + 1) (nb.set k (-1)) v:=by
 refine ⟨?_,by rw [wK hp]; exact h.v⟩
 rw [wK hp]; exact h.w.no hk hp
theorem Wg.le{p:Nat -> Bool}{ws nb:List Int}{k v:Nat}(h:Wg p ws k nb v):v <= k:=by rw [h.v]; exact Ff _ _
theorem Wg.num{p:Nat -> Bool}{ws nb:List Int}{k v:Nat}(e:k = ws.length)(h:Wg p ws k nb v):HP p ws.length nb:=by subst e; exact h.w.OL
section
variable {n:ae} {dO:List Int} {s:List Bool}
end
open Go Go.AW Go.Proofs
def dI(n:Nat):Nat:=if n <= 1 then 0 else Nat.log2 (n - 1) + 1
theorem K4{n k:Nat}(h1:n <= 2 ^ k)(h2:k = 0 \/ 2 ^ (k - 1) < n):dI n = k:=by
 unfold dI
 by_cases e:n <= 1
 ·rw [if_pos e]
  rcases h2 with h2 | h2
  ·exact h2.symm
  ·have:=Nat.one_le_two_pow (n:=k - 1); omega
 ·rw [if_neg e]
  rcases h2 with h2 | h2
  ·subst h2; simp at h1; omega
  ·have hk:0 < k:=by
    rcases Nat.eq_zero_or_pos k with h | h
    ·subst h; simp at h1; omega
    ·exact h
   have:Nat.log2 (n - 1) = k - 1:=by
    rw [Nat.log2_eq_iff om]
    rw [show k - 1 + 1 = k by omega]
    omega
   omega
theorem nJ{n k:Nat}(h:n <= 2 ^ k):dI n <= k:=by
 unfold dI
 by_cases e:n <= 1
 ·rw [if_pos e]; omega
 ·rw [if_neg e]
  have:=(Nat.log2_lt (n:=n - 1) (k:=k) om).2 om
  omega
def bo(op:Int)(w:Nat):Int :=
 if op = 9 \/ op = 10 \/ op = 11 then 20 else if op = 2 then 40 + 40 * (dI w:Int) else if op = 3 then 50 + 40 * (dI w:Int) else if op = 15 \/ op = 16 then 30 + 20 * (dI w:Int)
 else if op = 17 \/ op = 18 then 40 + 40 * (dI (w + 1):Int) else if op = 19 \/ op = 20 then 50 + 40 * (dI (w + 1):Int) else if op = 21 then 50 else if op = 12 \/ op = 13 then 30 + 40 * (dI w:Int)
 else if op = 14 then 50 + 40 * (dI w:Int) else 0
theorem CS{op:Int}{w:Nat}(h:w <= 64):0 <= bo op w /\ bo op w <= 400:=by
 have h1:dI w <= 6:=nJ om
 have h2:dI (w + 1) <= 7:=nJ om
 unfold bo
 repeat' split
 all_goals omega
def sV(n:ae)(c:Cell):Int :=
 if c.kind = 1 then 0 else if c.kind = 2 then bo c.op (if eY c.op then n.av c 0 else n.wd c.out).toNat else if c.kind = 3 then 20 + 20 * (dI (c.args.length / 2):Int) else 30
theorem K5{n:ae}{c:Cell}(hw:∀ w ∈ n.aa,dk w)(ha:c.args.length <= 200):0 <= sV n c /\ sV n c <= 400:=by
 have vk:∀ w,(n.wd w).toNat <= 64:=fun w=>by
  unfold ae.wd
  rw [List.getD_eq_getElem?_getD]
  cases h:n.aa[w.toNat]? with
  | none=>simp
  | some v =>
   have:=hw v (List.mem_of_getElem? h)
   unfold dk at this
   simp only [Option.getD_some]; omega
 have hl:dI (c.args.length / 2) <= 7:=nJ om
 unfold sV
 split
 ·omega
 split
 ·refine CS ?_
  split
  ·exact vk _
  ·exact vk _
 split
 ·omega
 ·omega
open Go Go.AW
theorem sx:∀ n:Nat,n <= 2 ^ dI n:=fun n=>by
 unfold dI
 by_cases h:n <= 1
 ·rw [if_pos h]; simpa using h
 ·rw [if_neg h]
  have:=@Nat.lt_log2_self (n - 1)
  omega
theorem K6{n:Nat}(h:2 <= n):2 ^ (dI n - 1) < n /\ 1 <= dI n:=by
 unfold dI
 rw [if_neg om]
 have:=Nat.log2_self_le (n:=n - 1) om
 rw [Nat.add_sub_cancel]; omega
theorem rD{m:Nat}(h:2 <= m):dI ((m + 1) / 2) + 1 = dI m:=by
 have h1:=sx m
 obtain ⟨h2,h3⟩:=K6 h
 obtain ⟨k,hk⟩:∃ k,dI m = k + 1:=⟨dI m - 1,om⟩
 rw [hk] at h1 h2 ⊢
 rw [Nat.add_sub_cancel] at h2
 rw [Nat.pow_succ] at h1
 have:dI ((m + 1) / 2) = k:=by
  refine K4 om ?_
  rcases Nat.eq_zero_or_pos k with h4 | h4
  ·exact .inl h4
  ·refine .inr ?_
   obtain ⟨j,rfl⟩:∃ j,k = j + 1:=⟨k - 1,om⟩
   rw [Nat.add_sub_cancel]
   rw [Nat.pow_succ] at h2
   omega
 omega
theorem oM{a b:Nat}(h:a <= b):dI a <= dI b:=nJ (Nat.le_trans h (sx b))
theorem BL{n:Nat}(h:n <= 1):dI n = 0:=by unfold dI; rw [if_pos h]
def kh(f : Nat → Bool) : Nat → Bool
 | 0=>false
 | n + 1=>f n || kh f n
theorem lM{f : Nat → Bool} : ∀ {n}, kh f n = true ↔ ∃ k, k < n ∧ f k = true
 | 0=>by simp [kh]
 | n + 1=>by
  simp only [kh,Bool.or_eq_true,lM (n:=n)]
  constructor
  ·rintro (h | ⟨k,hk,h⟩)
   ·exact ⟨n,om,h⟩
   ·exact ⟨k,om,h⟩
  ·rintro ⟨k,hk,h⟩
   rcases Nat.lt_or_ge k n with h1 | h1
   ·exact .inr ⟨k,h1,h⟩
   ·obtain rfl:k = n:=by omega
    exact .inl h
def u7(f:Nat -> Bool)(m k:Nat):Bool:=if 2 * k + 1 < m then f (2 * k) || f (2 * k + 1) else f (2 * k)
theorem vY{f:Nat -> Bool}{m:Nat}:kh (u7 f m) ((m + 1) / 2) = kh f m:=by
 apply Bool.eq_iff_iff.2
 rw [lM,lM]
 constructor
 ·rintro ⟨k,hk,h⟩
  unfold u7 at h
  by_cases h1:2 * k + 1 < m
  ·rw [if_pos h1,Bool.or_eq_true] at h
   rcases h with h | h
   ·exact ⟨_,om,h⟩
   ·exact ⟨_,h1,h⟩
  ·rw [if_neg h1] at h; exact ⟨_,om,h⟩
 ·rintro ⟨k,hk,h⟩
  refine ⟨k / 2,om,?_⟩
  unfold u7
  by_cases h1:2 * (k / 2) + 1 < m
  ·rw [if_pos h1,Bool.or_eq_true]
   rcases (show 2 * (k / 2) = k \/ 2 * (k / 2) + 1 = k by omega) with h2 | h2
   ·rw [h2]; exact .inl h
   ·rw [h2]; exact .inr h
  ·rw [if_neg h1,show 2 * (k / 2) = k by omega]; exact h
def u9(G P:Nat -> Bool)(m k:Nat):Bool:=if 2 * k + 1 < m then G (2 * k + 1) || (P (2 * k + 1) && G (2 * k)) else G (2 * k)
def uA(P:Nat -> Bool)(m k:Nat):Bool:=if 2 * k + 1 < m then P (2 * k + 1) && P (2 * k) else P (2 * k)
theorem sy{G P : Nat → Bool}{m : Nat}{z : Bool} : ∀ k, 2 * k ≤ m → ca (u9 G P m) (uA P m) 0 k z = ca G P 0 (2 * k) z
 | 0,_=>rfl
 | k + 1,h=>by
  rw [ca,sy k om,show 2 * (k + 1) = 2 * k + 1 + 1 by omega,ca,ca]
  simp only [Nat.zero_add,u9,uA]
  rw [if_pos om,if_pos om]
  cases G (2 * k + 1) <;> cases P (2 * k + 1) <;> cases G (2 * k) <;> cases P (2 * k) <;> cases ca G P 0 (2 * k) z <;> rfl
theorem BM{G P:Nat -> Bool}{m:Nat}{z:Bool}:ca (u9 G P m) (uA P m) 0 ((m + 1) / 2) z = ca G P 0 m z:=by
 rcases (show 2 * ((m + 1) / 2) = m \/ 2 * ((m + 1) / 2) = m + 1 by omega) with h | h
 ·rw [sy _ om,h]
 ·obtain ⟨k,hk⟩:∃ k,(m + 1) / 2 = k + 1:=⟨(m + 1) / 2 - 1,om⟩
  rw [hk,ca,sy k om]
  have h1:m = 2 * k + 1:=by omega
  subst h1
  rw [ca]
  simp only [Nat.zero_add,u9,uA]
  rw [if_neg om,if_neg om]
def Jr{w:Nat}(x y:BitVec w)(i:Nat):Bool:=!x.getLsbD i && y.getLsbD i
def K7{w:Nat}(x y:BitVec w)(i:Nat):Bool:=!(x.getLsbD i ^^ y.getLsbD i)
theorem Js{w : Nat}{x y : BitVec w} : ∀ n, ca (Jr x y) (K7 x y) 0 n false = decide (x.toNat % 2 ^ n < y.toNat % 2 ^ n)
 | 0=>by simp [ca,Nat.mod_one]
 | n + 1=>by
  rw [ca,Js n,Nat.mod_pow_succ,Nat.mod_pow_succ]
  have h1:=Nat.mod_lt x.toNat (Nat.two_pow_pos n)
  have h2:=Nat.mod_lt y.toNat (Nat.two_pow_pos n)
  simp only [Nat.zero_add,Jr,K7,BitVec.getLsbD,Nat.testBit_eq_decide_div_mod_eq]
  rcases Nat.mod_two_eq_zero_or_one (x.toNat / 2 ^ n) with h3 | h3 <;> rcases Nat.mod_two_eq_zero_or_one (y.toNat / 2 ^ n) with h4 | h4 <;> rw [h3,h4] <;> simp <;> omega
theorem Fg{w:Nat}{x y:BitVec w}:ca (Jr x y) (K7 x y) 0 w false = x.ult y:=by
 rw [Js,Nat.mod_eq_of_lt x.isLt,Nat.mod_eq_of_lt y.isLt]; rfl
def Fh{w:Nat}(x y:BitVec w)(i:Nat):Bool:=if i + 1 = w then !y.getLsbD i && x.getLsbD i else Jr x y i
theorem K8{w:Nat}{x y:BitVec w}(h:0 < w):ca (Fh x y) (K7 x y) 0 w false = x.slt y:=by
 obtain ⟨n,rfl⟩:∃ n,w = n + 1:=⟨w - 1,om⟩
 have h1:ca (Fh x y) (K7 x y) 0 n false = ca (Jr x y) (K7 x y) 0 n false:=rA (fun i hi=>by unfold Fh; rw [if_neg om]) (fun _ _=>rfl)
 have h2:=Fg (x:=x) (y:=y)
 rw [ca] at h2 ⊢
 rw [h1,BitVec.slt_eq_ult,<- h2,BitVec.msb_eq_getLsbD_last,BitVec.msb_eq_getLsbD_last]
 simp only [Nat.zero_add,Fh,if_true,Jr,K7,Nat.add_sub_cancel]
 cases x.getLsbD n <;> cases y.getLsbD n <;> simp
theorem K9{w:Nat}{x y:BitVec w}:kh (fun i=>x.getLsbD i ^^ y.getLsbD i) w = decide (x ≠ y):=by
 apply Bool.eq_iff_iff.2
 rw [lM,decide_eq_true_iff]
 constructor
 ·rintro ⟨k,_,h⟩ rfl
  simp at h
 ·intro h
  apply Classical.byContradiction
  intro hn
  refine h (BitVec.eq_of_getLsbD_eq fun i hi=>?_)
  apply Classical.byContradiction
  intro h1
  refine hn ⟨i,hi,?_⟩
  cases h2:x.getLsbD i <;> cases h3:y.getLsbD i <;> simp_all
open Go Go.AW
def tF(left:Bool)(w:Nat)(a:Nat -> Bool)(fill:Bool)(s i:Nat):Bool :=
 if left then (if s <= i then a (i - s) else fill) else (if i + s < w then a (i + s) else fill)
def OO(left:Bool)(k i:Nat):Int:=if left then (i:Int) - 2 ^ k else (i:Int) + 2 ^ k
theorem Fi{left:Bool}{w:Nat}{a:Nat -> Bool}{fill:Bool}{i:Nat}(h:i < w):tF left w a fill 0 i = a i:=by
 unfold tF
 cases left
 ·simp only [Bool.false_eq_true,if_false]; rw [if_pos om]; rfl
 ·simp only [if_true]; rw [if_pos om]; rfl
theorem Fj{left : Bool}{w : Nat}{a : Nat → Bool}{fill : Bool}{s i p : Nat}(h : i < w) :
  tF left w a fill (s + p) i = (if left then (if p <= i then tF left w a fill s (i - p) else fill) else (if i + p < w then tF left w a fill s (i + p) else fill)):=by
 unfold tF
 cases left
 ·simp only [Bool.false_eq_true,if_false]
  by_cases h1:i + p < w
  ·rw [if_pos h1]
   by_cases h2:i + p + s < w
   ·rw [if_pos om,if_pos h2,show i + (s + p) = i + p + s by omega]
   ·rw [if_neg om,if_neg h2]
  ·rw [if_neg h1,if_neg om]
 ·simp only [if_true]
  by_cases h1:p <= i
  ·rw [if_pos h1]
   by_cases h2:s <= i - p
   ·rw [if_pos om,if_pos h2,show i - (s + p) = i - p - s by omega]
   ·rw [if_neg om,if_neg h2]
  ·rw [if_neg h1,if_neg om]
theorem Fk{w:Nat}{b:BitVec w}{k:Nat}:b.toNat % 2 ^ (k + 1) = b.toNat % 2 ^ k + (if b.getLsbD k then 2 ^ k else 0):=by
 rw [Nat.mod_pow_succ,BitVec.getLsbD,Nat.testBit_eq_decide_div_mod_eq]
 rcases Nat.mod_two_eq_zero_or_one (b.toNat / 2 ^ k) with h | h <;> rw [h] <;> simp
theorem Ah{w st:Nat}{b:BitVec w}(h:kh (fun j=>b.getLsbD (st + j)) (w - st) = false):b.toNat % 2 ^ st = b.toNat:=by
 refine Nat.mod_eq_of_lt (Nat.lt_pow_two_of_testBit _ fun i hi=>?_)
 rcases Nat.lt_or_ge i w with h1 | h1
 ·apply Classical.byContradiction
  intro hn
  have h2:kh (fun j=>b.getLsbD (st + j)) (w - st) = true:=lM.2 ⟨i - st,om,by
   show b.getLsbD (st + (i - st)) = true
   rw [show st + (i - st) = i by omega]
   simpa [BitVec.getLsbD] using hn⟩
  rw [h] at h2; cases h2
 ·exact Nat.testBit_lt_two_pow (Nat.lt_of_lt_of_le b.isLt (Nat.pow_le_pow_right om h1))
theorem wM{w st:Nat}{b:BitVec w}(h:kh (fun j=>b.getLsbD (st + j)) (w - st) = true)(hw:w <= 2 ^ st):w <= b.toNat:=by
 obtain ⟨k,_,hk⟩:=lM.1 h
 have h1:2 ^ (st + k) <= b.toNat:=Nat.ge_two_pow_of_testBit hk
 have h2:2 ^ st <= 2 ^ (st + k):=Nat.pow_le_pow_right om om
 omega
theorem HQ{w st i : Nat}{a b : BitVec w}(hw : w ≤ 2 ^ st)(h : i < w) :
  (a <<< b.toNat).getLsbD i = ((!kh (fun j=>b.getLsbD (st + j)) (w - st)) && tF true w a.getLsbD false (b.toNat % 2 ^ st) i):=by
 cases hf:kh (fun j=>b.getLsbD (st + j)) (w - st) with
 | true =>
  have:=wM hf hw
  rw [BitVec.getLsbD_shiftLeft]
  simp; omega
 | false =>
  rw [Ah hf,BitVec.getLsbD_shiftLeft]
  unfold tF
  rw [if_pos rfl]
  by_cases h1:b.toNat <= i
  ·rw [if_pos h1]; simp [h]; omega
  ·rw [if_neg h1]; simp; omega
theorem HR{w st i : Nat}{a b : BitVec w}(hw : w ≤ 2 ^ st)(_ : i < w) :
  (a >>> b.toNat).getLsbD i = ((!kh (fun j=>b.getLsbD (st + j)) (w - st)) && tF false w a.getLsbD false (b.toNat % 2 ^ st) i):=by
 rw [BitVec.getLsbD_ushiftRight]
 cases hf:kh (fun j=>b.getLsbD (st + j)) (w - st) with
 | true =>
  have:=wM hf hw
  rw [BitVec.getLsbD_of_ge _ _ om]; rfl
 | false =>
  rw [Ah hf]
  unfold tF
  simp only [Bool.false_eq_true,if_false]
  by_cases h1:i + b.toNat < w
  ·rw [if_pos h1,Nat.add_comm]; rfl
  ·rw [if_neg h1,BitVec.getLsbD_of_ge _ _ om]; rfl
theorem HS{w st i : Nat}{a b : BitVec w}(hw : w ≤ 2 ^ st)(h : i < w) :
  (a.sshiftRight b.toNat).getLsbD i = (if kh (fun j=>b.getLsbD (st + j)) (w - st) then a.msb else tF false w a.getLsbD a.msb (b.toNat % 2 ^ st) i):=by
 rw [BitVec.getLsbD_sshiftRight]
 cases hf:kh (fun j=>b.getLsbD (st + j)) (w - st) with
 | true =>
  have:=wM hf hw
  rw [if_pos rfl,if_neg om]
  simp; omega
 | false =>
  rw [Ah hf]
  unfold tF
  simp only [Bool.false_eq_true,if_false]
  by_cases h1:i + b.toNat < w
  ·rw [if_pos h1,if_pos om,Nat.add_comm]; simp; omega
  ·rw [if_neg h1,if_neg om]; simp; omega
open Go Go.AW
section
variable {c:Int} {g0 gl:List Gate} {a out:List Int} {f:Nat -> List Bool -> Bool} {t:Int} {i n:Nat}
structure yc(c:Int)(g0 gl:List Gate)(out:List Int)(h:Nat -> List Bool -> Bool)(u:Int)(i:Nat):Prop where
 ext:Ext g0 gl
 len:gl.length = g0.length + i
 ol:out.length = i
 ws:Ws c gl out h u
theorem yc.init{h:Nat -> List Bool -> Bool}{u:Int}(hg:Good g0):yc c g0 g0 [] h u 0:=⟨.refl hg,rfl,rfl,.nil⟩
theorem yc.put{h:Nat -> List Bool -> Bool}{u:Int}{q:Gate}(k:yc c g0 gl out h u i)(he:Ext gl (gl ++ [q]))(hw:Wr c (gl ++ [q]) (gl.length:Int) (h i) u):yc c g0 (gl ++ [q]) (out ++ [(gl.length:Int)]) h u (i + 1) :=
 ⟨k.ext.trans he,by rw [List.length_append,k.len]; rfl,by rw [List.length_append,k.ol]; rfl,(k.ws.ext he).snoc (by rw [k.ol]; exact hw)⟩
theorem yc.not(k : yc c g0 gl out (fun k ins => !f k ins) (t + 10) i)(ha : Ws c g0 a f t)(hi : i < a.length) :
  yc c g0 (gl ++ [⟨4,a.getD i 0,0⟩]) (out ++ [(gl.length:Int)]) (fun k ins=>!f k ins) (t + 10) (i + 1):=by
 have h1:=(ha.bit i hi).ext k.ext
 exact k.put (Ext.not k.ext.dZ h1) (h1.not (Int.le_refl _))
theorem yc.two{k : Int}{b : List Int}{h : Nat → List Bool → Bool}{e : Nat → List Bool → Bool}{u : Int}(m : yc c g0 gl out e u i)(hk : 5 ≤ k ∧ k ≤ 7)(ha : Wr c g0 (a.getD i 0) (f i) t)(hb : Wr c g0 (b.getD i 0) (h i) t)(hu : t + 20 ≤ u)
  (he:∀ ins,e i ins = if k = 5 then (f i ins && h i ins) else if k = 6 then (f i ins || h i ins) else (f i ins ^^ h i ins)) :
  yc c g0 (gl ++ [⟨k,a.getD i 0,b.getD i 0⟩]) (out ++ [(gl.length:Int)]) e u (i + 1):=by
 have h1:=ha.ext m.ext
 have h2:=hb.ext m.ext
 refine m.put (Ext.two m.ext.dZ hk h1 h2) ?_
 rcases (show k = 5 \/ k = 6 \/ k = 7 by omega) with rfl | rfl | rfl
 ·exact (h1.and h2 hu hu).as fun ins=>by rw [he]; rfl
 ·exact (h1.or h2 hu hu).as fun ins=>by rw [he]; rfl
 ·exact (h1.xor h2 hu hu).as fun ins=>by rw [he]; rfl
structure s0(c:Int)(g0:List Gate)(f:Nat -> List Bool -> Bool)(n:Nat)(t:Int)(gl:List Gate)(l:List Int):Prop where
 ext:Ext g0 gl
 len:gl.length + l.length <= g0.length + n
 lo:1 <= l.length
 ex:∃ (f':Nat -> List Bool -> Bool) (t':Int),Ws c gl l f' t' /\ (∀ ins,kh (fun k=>f' k ins) l.length = kh (fun k=>f k ins) n) /\ t' + 20 * (dI l.length:Int) <= t + 20 * (dI n:Int)
theorem s0.init(hg:Good g0)(ha:Ws c g0 a f t)(h:1 <= a.length):s0 c g0 f a.length t g0 a:=⟨.refl hg,Nat.le_refl _,h,f,t,ha,fun _=>rfl,Int.le_refl _⟩
theorem s0.done{l:List Int}(h:s0 c g0 f n t gl l)(h1:l.length <= 1):Wr c gl (l.getD 0 0) (fun ins=>kh (fun k=>f k ins) n) (t + 20 * (dI n:Int)):=by
 obtain ⟨f',t',hw,he,ht⟩:=h.ex
 have hl:l.length = 1:=by have:=h.lo; omega
 rw [BL h1] at ht
 refine ((hw.bit 0 om).late om).as fun ins=>?_
 rw [<- he ins,hl]; simp [kh]
structure uB(c:Int)(g1:List Gate)(l:List Int)(gl:List Gate)(next:List Int)(i:Nat):Prop where
 ext:Ext g1 gl
 even:i % 2 = 0
 hi:i <= l.length
 nl:next.length = i / 2
 len:gl.length = g1.length + i / 2
 ws:∀ f t,Ws c g1 l f t -> Ws c gl next (fun k ins=>u7 (fun k=>f k ins) l.length k) (t + 20)
theorem uB.init{g1:List Gate}{l:List Int}(hg:Good g1):uB c g1 l g1 [] 0:=⟨.refl hg,rfl,om,rfl,rfl,fun _ _ _=>.nil⟩
theorem uB.step{g1 : List Gate}{l next : List Int}(h : uB c g1 l gl next i)(hl : i + 1 < l.length)(hw : ∃ f t, Ws c g1 l f t) :
  uB c g1 l (gl ++ [⟨6,l.getD i 0,l.getD (i + 1) 0⟩]) (next ++ [(gl.length:Int)]) (i + 2):=by
 have he:=h.even
 obtain ⟨f0,t0,h0⟩:=hw
 have hx:Ext gl (gl ++ [⟨6,l.getD i 0,l.getD (i + 1) 0⟩]):=Ext.two h.ext.dZ ab ((h0.bit i om).ext h.ext) ((h0.bit (i + 1) hl).ext h.ext)
 refine ⟨h.ext.trans hx,om,om,by rw [List.length_append,h.nl,List.length_singleton]; omega,by rw [List.length_append,h.len,List.length_singleton]; omega,fun f t hf=>?_⟩
 refine ((h.ws f t hf).ext hx).snoc ?_
 refine (((hf.bit i om).ext h.ext).or ((hf.bit (i + 1) hl).ext h.ext) (Int.le_refl _) (Int.le_refl _)).as fun ins=>?_
 rw [h.nl]; unfold u7
 rw [show 2 * (i / 2) = i by omega,if_pos hl]
theorem uB.X8{g1 : List Gate}{l next : List Int}(h : uB c g1 l gl next i)(hl : ¬ i + 1 < l.length)(ho : l.length % 2 = 1)(f : Nat → List Bool → Bool)(t : Int)(hf : Ws c g1 l f t) :
  Ws c gl (next ++ [l.getD (l.length - 1) 0]) (fun k ins=>u7 (fun k=>f k ins) l.length k) (t + 20):=by
 have he:=h.even; have hh:=h.hi
 refine (h.ws f t hf).snoc ?_
 refine (((hf.bit (l.length - 1) om).ext h.ext).late om).as fun ins=>?_
 rw [h.nl]; unfold u7
 rw [show 2 * (i / 2) = l.length - 1 by omega,if_neg om]
theorem s0.next{l next:List Int}{g1:List Gate}(h:s0 c g0 f n t g1 l)(hj:uB c g1 l gl next i)(hl:¬ i + 1 < l.length)(h2:1 < l.length)(ho:¬ l.length % 2 = 1):s0 c g0 f n t gl next:=by
 have he:=hj.even; have hh:=hj.hi; have hn:=hj.nl; have hg:=hj.len; have S6:=h.len
 obtain ⟨f',t',hw,hv,ht⟩:=h.ex
 have Ai:next.length = (l.length + 1) / 2:=by omega
 have zA:=rD (m:=l.length) om
 refine ⟨h.ext.trans hj.ext,om,om,_,_,hj.ws f' t' hw,fun ins=>?_,?_⟩
 ·rw [Ai,vY]; exact hv ins
 ·rw [Ai]; omega
theorem s0.OP{l next:List Int}{g1:List Gate}(h:s0 c g0 f n t g1 l)(hj:uB c g1 l gl next i)(hl:¬ i + 1 < l.length)(h2:1 < l.length)(ho:l.length % 2 = 1):s0 c g0 f n t gl (next ++ [l.getD (l.length - 1) 0]):=by
 have he:=hj.even; have hh:=hj.hi; have hn:=hj.nl; have hg:=hj.len; have S6:=h.len
 obtain ⟨f',t',hw,hv,ht⟩:=h.ex
 have Ai:(next ++ [l.getD (l.length - 1) 0]).length = (l.length + 1) / 2:=by rw [List.length_append,hn]; simp; omega
 have zA:=rD (m:=l.length) om
 refine ⟨h.ext.trans hj.ext,by rw [Ai]; omega,by rw [Ai]; omega,_,_,hj.X8 hl ho f' t' hw,fun ins=>?_,?_⟩
 ·rw [Ai,vY]; exact hv ins
 ·rw [Ai]; omega
end
def yd(l:List Gate)(s v y n:Int):List Gate:=l ++ [⟨5,s,y⟩,⟨5,v,n⟩,⟨6,(l.length:Int),(l.length:Int) + 1⟩]
theorem KA{l:List Gate}{s v y n:Int}:yd l s v y n = ((l ++ [⟨5,s,y⟩]) ++ [⟨5,v,n⟩]) ++ [⟨6,(l.length:Int),(l.length:Int) + 1⟩]:=by simp [yd]
theorem HT{l:List Gate}{s v y n:Int}:((l ++ [⟨5,s,y⟩]) ++ [⟨5,v,n⟩]) ++ [⟨6,(l.length:Int),(((l ++ [(⟨5,s,y⟩:Gate)]).length:Nat):Int)⟩] = yd l s v y n:=by simp [yd]
theorem BN{l:List Gate}{s v y n:Int}:(yd l s v y n).length = l.length + 3:=by simp [yd]
section
variable {c:Int} {l:List Gate} {s v y n:Int} {fs fy fn:List Bool -> Bool} {ts tv ty tn u:Int}
theorem Fl(hg : Good l)(hs : Wr c l s fs ts)(hv : Wr c l v (fun ins => !fs ins) tv)(hy : Wr c l y fy ty)(hn : Wr c l n fn tn)(h1 : ts + 40 ≤ u)(h2 : tv + 40 ≤ u)(h3 : ty + 40 ≤ u)(h4 : tn + 40 ≤ u) :
  Ext l (yd l s v y n) /\ Wr c (yd l s v y n) ((l.length:Int) + 2) (fun ins=>if fs ins then fy ins else fn ins) u:=by
 have e1:Ext l (l ++ [⟨5,s,y⟩]):=Ext.two hg ab hs hy
 have w1:Wr c (l ++ [⟨5,s,y⟩]) (l.length:Int) (fun ins=>fs ins && fy ins) (u - 20):=hs.and hy om om
 have e2:Ext (l ++ [⟨5,s,y⟩]) ((l ++ [⟨5,s,y⟩]) ++ [⟨5,v,n⟩]):=Ext.two e1.dZ ab (hv.ext e1) (hn.ext e1)
 have w2:Wr c ((l ++ [⟨5,s,y⟩]) ++ [⟨5,v,n⟩]) (((l ++ [(⟨5,s,y⟩:Gate)]).length:Nat):Int) (fun ins=>!fs ins && fn ins) (u - 20):=(hv.ext e1).and (hn.ext e1) om om
 have V6:=w1.ext e2
 rw [List.length_append,List.length_singleton,Int.natCast_add,Int.natCast_one] at w2
 have e3:Ext ((l ++ [⟨5,s,y⟩]) ++ [⟨5,v,n⟩]) (((l ++ [⟨5,s,y⟩]) ++ [⟨5,v,n⟩]) ++ [⟨6,(l.length:Int),(l.length:Int) + 1⟩]):=Ext.two e2.dZ ab V6 w2
 have w3:=V6.or (u:=u) w2 om om
 rw [<- KA] at e3 w3
 refine ⟨(e1.trans e2).trans e3,?_⟩
 have hl:((((l ++ [(⟨5,s,y⟩:Gate)]) ++ [(⟨5,v,n⟩:Gate)]).length:Nat):Int) = (l.length:Int) + 2:=by simp [Int.add_assoc]
 rw [hl] at w3
 exact w3.as fun ins=>by cases fs ins <;> simp
end
open Go Go.AW
structure bm where
 g:Int
 p:Int
instance:Inhabited bm:=⟨⟨0,0⟩⟩
def bm.row(x:bm):List X:=[.v (.int .i64 x.g),.v (.int .i64 x.p)]
theorem bm.bE(x:bm):X.b6 x.row = true:=rfl
theorem bm.lG(x:bm):X.fm x.row:=by simp [bm.row,X.fm,X.plain]
structure Wp(c:Int)(l:List Gate)(ps:List bm)(G P:Nat -> List Bool -> Bool)(t:Int):Prop where
 bit:∀ k,k < ps.length -> Wr c l (ps.getD k default).g (G k) t /\ Wr c l (ps.getD k default).p (P k) t
section
variable {c:Int} {g0 g1 gl:List Gate} {ps out next:List bm} {G P:Nat -> List Bool -> Bool} {t:Int} {i j n d:Nat}
theorem Wp.nil:Wp c gl [] G P t:=⟨fun k hk=>by simp at hk⟩
theorem Wp.ext{l':List Gate}(h:Wp c gl ps G P t)(he:Ext gl l'):Wp c l' ps G P t:=⟨fun k hk=>⟨(h.bit k hk).1.ext he,(h.bit k hk).2.ext he⟩⟩
theorem Wp.snoc{x y:Int}(h:Wp c gl ps G P t)(hx:Wr c gl x (G ps.length) t)(hy:Wr c gl y (P ps.length) t):Wp c gl (ps ++ [⟨x,y⟩]) G P t:=⟨fun k hk=>by
 rcases Nat.lt_or_ge k ps.length with h1 | h1
 ·rw [List.getD_eq_getElem?_getD,List.getElem?_append_left h1,<- List.getD_eq_getElem?_getD]; exact h.bit k h1
 ·have:k = ps.length:=by simp at hk; omega
  subst this; rw [lx rfl]; exact ⟨hx,hy⟩⟩
theorem Wp.take{k:Nat}(h:Wp c gl ps G P t):Wp c gl (ps.take k) G P t:=⟨fun i hi=>by
 rw [List.length_take] at hi
 rw [List.getD_eq_getElem?_getD,List.getElem?_take_of_lt om,<- List.getD_eq_getElem?_getD]; exact h.bit i om⟩
structure rE(c:Int)(g0:List Gate)(G P:Nat -> List Bool -> Bool)(t:Int)(n:Nat)(gl:List Gate)(out:List bm)(d j:Nat):Prop where
 ext:Ext g0 gl
 len:gl.length <= g0.length + 3 * n * j
 ol:out.length = n
 dj:d = 2 ^ j
 jl:j <= dI n
 gn:∀ i,i < n -> Wr c gl (out.getD i default).g (fun ins=>gen (fun k=>G k ins) (fun k=>P k ins) d i) (t + 40 * (j:Int))
 pr:∀ i,i < n -> d <= i -> Wr c gl (out.getD i default).p (fun ins=>pp (fun k=>P k ins) (i + 1 - d) d) (t + 40 * (j:Int))
theorem rE.init(hg:Good g0)(h:Wp c g0 ps G P t):rE c g0 G P t ps.length g0 ps 1 0 :=
 ⟨.refl hg,om,rfl,rfl,om,fun i hi=>((h.bit i hi).1.late om).as fun ins=>(HH (G:=fun k=>G k ins) (P:=fun k=>P k ins)).symm,fun i hi _=>((h.bit i hi).2.late om).as fun ins=>by simp [pp]⟩
theorem rE.done(h:rE c g0 G P t n gl out d j)(hd:¬ d < n){i:Nat}(hi:i < n):Wr c gl (out.getD i default).g (fun ins=>ca (fun k=>G k ins) (fun k=>P k ins) 0 (i + 1) false) (t + 40 * (dI n:Int)):=by
 have:=h.jl
 exact ((h.gn i hi).late om).as fun ins=>wI om
theorem rE.KB(h:rE c g0 G P t n gl out d j):1 <= d:=by rw [h.dj]; exact Nat.one_le_two_pow
structure rF(c:Int)(g1:List Gate)(G P:Nat -> List Bool -> Bool)(t:Int)(n:Nat)(out:List bm)(d j:Nat)(gl:List Gate)(next:List bm)(i:Nat):Prop where
 ext:Ext g1 gl
 lo:d <= i
 hi:i <= n \/ i = d
 len:gl.length <= g1.length + 3 * (i - d)
 nl:next.length = n
 gn:∀ k,k < n -> k < i -> Wr c gl (next.getD k default).g (fun ins=>gen (fun k=>G k ins) (fun k=>P k ins) (2 * d) k) (t + 40 * ((j:Int) + 1))
 pr:∀ k,k < n -> k < i -> 2 * d <= k -> Wr c gl (next.getD k default).p (fun ins=>pp (fun k=>P k ins) (k + 1 - 2 * d) (2 * d)) (t + 40 * ((j:Int) + 1))
 rest:∀ k,k < n -> i <= k -> next.getD k default = out.getD k default
theorem rF.init(h:rE c g0 G P t n g1 out d j):rF c g1 G P t n out d j g1 out d :=
 ⟨.refl h.ext.dZ,Nat.le_refl _,.inr rfl,om,h.ol,fun k hk hd=>((h.gn k hk).late om).as fun ins=>(Fa hd).symm,fun k _ h1 h2=>by omega,fun _ _ _=>rfl⟩
theorem getD_set_ne{α:Type}{l:List α}{i k:Nat}{x e:α}(h:i ≠ k):(l.set i x).getD k e = l.getD k e:=by
 rw [List.getD_eq_getElem?_getD,List.getElem?_set_ne h,<- List.getD_eq_getElem?_getD]
theorem kI{α:Type}{l:List α}{i:Nat}{x e:α}(h:i < l.length):(l.set i x).getD i e = x:=by
 rw [List.getD_eq_getElem?_getD,List.getElem?_set_self h]; rfl
theorem rF.S7(hI : rE c g0 G P t n g1 out d j)(h : rF c g1 G P t n out d j gl next i)(hi : i < n)(hn : ¬ d ≤ i - d){q : Int} :
  rF c g1 G P t n out d j ((gl ++ [⟨5,(out.getD i default).p,(out.getD (i - d) default).g⟩]) ++ [⟨6,(out.getD i default).g,(gl.length:Int)⟩]) (next.set i ⟨((gl ++ [(⟨5,(out.getD i default).p,(out.getD (i - d) default).g⟩:Gate)]).length:Int),q⟩) (i + 1):=by
 have z3:=h.lo; have q7:=h.len; have Dv:=h.nl; have hd:=hI.KB
 have wp:=(hI.pr i hi z3).ext h.ext
 have wg:=(hI.gn i hi).ext h.ext
 have wd:=(hI.gn (i - d) om).ext h.ext
 have e1:Ext gl (gl ++ [⟨5,(out.getD i default).p,(out.getD (i - d) default).g⟩]):=Ext.two h.ext.dZ ab wp wd
 have w1:=wp.and (u:=t + 40 * (j:Int) + 20) wd om om
 have e2:=Ext.two (k:=6) e1.dZ ab (wg.ext e1) w1
 have w2:=(wg.ext e1).or (u:=t + 40 * ((j:Int) + 1)) w1 om om
 have ex:=e1.trans e2
 refine ⟨h.ext.trans ex,om,om,by simp only [List.length_append,List.length_singleton]; omega,by rw [List.length_set]; exact Dv,fun k hk vj=>?_,fun k hk vj h2=>?_,fun k hk vj=>?_⟩
 ·rcases Nat.lt_or_ge k i with h1 | h1
  ·rw [getD_set_ne om]; exact (h.gn k hk h1).ext ex
  ·obtain rfl:k = i:=by omega
   rw [kI om]
   exact w2.as fun ins=>(BK z3).symm
 ·rcases Nat.lt_or_ge k i with h1 | h1
  ·rw [getD_set_ne om]; exact (h.pr k hk h1 h2).ext ex
  ·omega
 ·rw [getD_set_ne om]; exact h.rest k hk om
theorem rF.X9(hI : rE c g0 G P t n g1 out d j)(h : rF c g1 G P t n out d j gl next i)(hi : i < n)(hn : d ≤ i - d){g2 : List Gate}
  (V7:g2 = (gl ++ [⟨5,(out.getD i default).p,(out.getD (i - d) default).g⟩]) ++ [⟨6,(out.getD i default).g,(gl.length:Int)⟩]) :
  rF c g1 G P t n out d j (g2 ++ [⟨5,(out.getD i default).p,(out.getD (i - d) default).p⟩]) (next.set i ⟨((gl ++ [(⟨5,(out.getD i default).p,(out.getD (i - d) default).g⟩:Gate)]).length:Int),(g2.length:Int)⟩) (i + 1):=by
 have z3:=h.lo; have q7:=h.len; have Dv:=h.nl; have hd:=hI.KB
 have wp:=(hI.pr i hi z3).ext h.ext
 have wg:=(hI.gn i hi).ext h.ext
 have wd:=(hI.gn (i - d) om).ext h.ext
 have wq:=(hI.pr (i - d) om hn).ext h.ext
 have e1:Ext gl (gl ++ [⟨5,(out.getD i default).p,(out.getD (i - d) default).g⟩]):=Ext.two h.ext.dZ ab wp wd
 have w1:=wp.and (u:=t + 40 * (j:Int) + 20) wd om om
 have e2:=Ext.two (k:=6) e1.dZ ab (wg.ext e1) w1
 have w2:=(wg.ext e1).or (u:=t + 40 * ((j:Int) + 1)) w1 om om
 have ex:=e1.trans e2
 rw [<- V7] at e2 w2 ex
 have e3:=Ext.two (k:=5) ex.dZ ab (wp.ext ex) (wq.ext ex)
 have w3:=(wp.ext ex).and (u:=t + 40 * ((j:Int) + 1)) (wq.ext ex) om om
 have ey:=ex.trans e3
 refine ⟨h.ext.trans ey,om,om,by rw [V7]; simp only [List.length_append,List.length_singleton]; omega,by rw [List.length_set]; exact Dv,fun k hk vj=>?_,fun k hk vj h2=>?_,fun k hk vj=>?_⟩
 ·rcases Nat.lt_or_ge k i with h1 | h1
  ·rw [getD_set_ne om]; exact (h.gn k hk h1).ext ey
  ·obtain rfl:k = i:=by omega
   rw [kI om]
   exact (w2.ext e3).as fun ins=>(BK z3).symm
 ·rcases Nat.lt_or_ge k i with h1 | h1
  ·rw [getD_set_ne om]; exact (h.pr k hk h1 h2).ext ey
  ·obtain rfl:k = i:=by omega
   rw [kI om]
   exact w3.as fun ins=>(Kz om).symm
 ·rw [getD_set_ne om]; exact h.rest k hk om
theorem rE.pass(hI:rE c g0 G P t n g1 out d j)(hd:d < n)(h:rF c g1 G P t n out d j gl next i)(hi:¬ i < n):rE c g0 G P t n gl next (d * 2) (j + 1):=by
 have z3:=h.lo; have q7:=h.len; have hg:=hI.len; have hh:=h.hi
 have hj:j + 1 <= dI n:=by
  have h1:=sx n
  have h2:=hI.dj
  apply Classical.byContradiction
  intro h3
  have h4:2 ^ dI n <= 2 ^ j:=Nat.pow_le_pow_right om om
  omega
 refine ⟨hI.ext.trans h.ext,?_,h.nl,by rw [hI.dj,Nat.pow_succ],hj,fun k hk=>?_,fun k hk h2=>?_⟩
 ·rw [Nat.mul_add]; omega
 ·have:=h.gn k hk om
  rw [Nat.mul_comm,Int.natCast_add,Int.natCast_one]; exact this
 ·have:=h.pr k hk om om
  rw [Nat.mul_comm,Int.natCast_add,Int.natCast_one]; exact this
end
open Go Go.AW
section
variable {c:Int} {g0 g1 gl:List Gate} {ps out next:List bm} {G P:Nat -> List Bool -> Bool} {a b r:List Int} {A B:Nat -> List Bool -> Bool} {t u:Int} {i j n d:Nat}
def Aj(F0:List Bool -> Bool)(G P:Nat -> List Bool -> Bool)(k:Nat)(ins:List Bool):Bool:=if k = 0 then F0 ins else (P k ins ^^ ca (fun k=>G k ins) (fun k=>P k ins) 0 k false)
structure Ak(c:Int)(g0 gl:List Gate)(F0:List Bool -> Bool)(G P:Nat -> List Bool -> Bool)(u:Int)(r:List Int)(i:Nat):Prop where
 ext:Ext g0 gl
 lo:1 <= i
 len:gl.length + 1 = g0.length + i
 ol:r.length = i
 ws:Ws c gl r (Aj F0 G P) u
theorem Ak.init{x:Int}{F0:List Bool -> Bool}(hg:Good g0)(h:Wr c g0 x F0 u):Ak c g0 g0 F0 G P u [x] 1 :=
 ⟨.refl hg,om,rfl,rfl,Ws.snoc (a:=[]) .nil (by exact h.as fun ins=>rfl)⟩
theorem Ak.step{x y : Int}{F0 : List Bool → Bool}(h : Ak c g0 gl F0 G P u r i)(hx : Wr c g0 x (P i) t)(hy : Wr c g0 y (fun ins => ca (fun k => G k ins) (fun k => P k ins) 0 i false) t)(hu : t + 20 ≤ u) :
  Ak c g0 (gl ++ [⟨7,x,y⟩]) F0 G P u (r ++ [(gl.length:Int)]) (i + 1):=by
 have h1:=hx.ext h.ext
 have h2:=hy.ext h.ext
 have e:=Ext.two (k:=7) h.ext.dZ ab h1 h2
 have hl:=h.len; have z3:=h.lo
 refine ⟨h.ext.trans e,om,by simp only [List.length_append,List.length_singleton]; omega,by rw [List.length_append,h.ol]; rfl,(h.ws.ext e).snoc ?_⟩
 refine (h1.xor h2 hu hu).as fun ins=>?_
 rw [h.ol]; unfold Aj; rw [if_neg om]
structure wN(c:Int)(g0 gl:List Gate)(A B:Nat -> List Bool -> Bool)(u:Int)(ps:List bm)(i:Nat):Prop where
 ext:Ext g0 gl
 len:gl.length = g0.length + 2 * i
 pl:ps.length = i
 wp:Wp c gl ps (fun k ins=>A k ins && B k ins) (fun k ins=>A k ins ^^ B k ins) u
theorem wN.init(hg:Good g0):wN c g0 g0 A B u [] 0:=⟨.refl hg,rfl,rfl,.nil⟩
theorem wN.step{x y : Int}{s : Int}(h : wN c g0 gl A B u ps i)(hx : Wr c g0 x (A i) s)(hy : Wr c g0 y (B i) t)(h1 : s + 20 ≤ u)(h2 : t + 20 ≤ u) :
  wN c g0 ((gl ++ [⟨5,x,y⟩]) ++ [⟨7,x,y⟩]) A B u (ps ++ [⟨(gl.length:Int),((gl ++ [(⟨5,x,y⟩:Gate)]).length:Int)⟩]) (i + 1):=by
 have w1:=hx.ext h.ext
 have w2:=hy.ext h.ext
 have e1:=Ext.two (k:=5) h.ext.dZ ab w1 w2
 have e2:=Ext.two (k:=7) e1.dZ ab (w1.ext e1) (w2.ext e1)
 have hl:=h.len
 refine ⟨h.ext.trans (e1.trans e2),by simp only [List.length_append,List.length_singleton]; omega,by rw [List.length_append,h.pl]; rfl,(h.wp.ext (e1.trans e2)).snoc ?_ ?_⟩
 ·rw [h.pl]; exact (w1.and w2 h1 h2).ext e2
 ·rw [h.pl]; exact (w1.ext e1).xor (w2.ext e1) h1 h2
theorem Wp.S8{y : Int}(h : Wp c gl ps (fun k ins => A k ins && B k ins) P u)(hn : 0 < ps.length)(hy : Wr c gl y (fun ins => A 0 ins || B 0 ins) u) :
  Wp c gl (ps.set 0 ⟨y,(ps.getD 0 default).p⟩) (fun k ins=>if k = 0 then A 0 ins || B 0 ins else A k ins && B k ins) P u:=⟨fun k hk=>by
 rw [List.length_set] at hk
 rcases Nat.eq_zero_or_pos k with h1 | h1
 ·subst h1; rw [kI hn]; exact ⟨hy.as fun ins=>by simp,(h.bit 0 hn).2⟩
 ·rw [getD_set_ne om]; exact ⟨(h.bit k hk).1.as fun ins=>by rw [if_neg om],(h.bit k hk).2⟩⟩
structure vx(c:Int)(g0 gl:List Gate)(A B:Nat -> List Bool -> Bool)(s:Bool)(n:Nat)(u:Int)(ps:List bm)(i:Nat):Prop where
 ext:Ext g0 gl
 len:gl.length = g0.length + 4 * i
 pl:ps.length = i
 wp:Wp c gl ps (fun k ins=>if s = true /\ k + 1 = n then !B k ins && A k ins else !A k ins && B k ins) (fun k ins=>!(A k ins ^^ B k ins)) u
theorem vx.init{s:Bool}(hg:Good g0):vx c g0 g0 A B s n u [] 0:=⟨.refl hg,rfl,rfl,.nil⟩
def S9(gl:List Gate)(x:Int):List Gate:=gl ++ [⟨4,x,0⟩]
def SA(gl:List Gate)(x y:Int):List Gate:=S9 gl x ++ [⟨5,(gl.length:Int),y⟩]
def SB(gl:List Gate)(x y:Int):List Gate:=SA gl x y ++ [⟨7,x,y⟩]
def OQ(gl:List Gate)(x y:Int):List Gate:=SB gl x y ++ [⟨4,((SA gl x y).length:Int),0⟩]
theorem vx.step{x y : Int}{s : Bool}{f h : List Bool → Bool}(k : vx c g0 gl A B s n u ps i)(hx : Wr c g0 x f t)(hy : Wr c g0 y h t)(hu : t + 30 ≤ u)
  (hf:∀ ins,(f ins = if s = true /\ i + 1 = n then B i ins else A i ins) /\ (h ins = if s = true /\ i + 1 = n then A i ins else B i ins)) :
  vx c g0 (OQ gl x y) A B s n u (ps ++ [⟨((S9 gl x).length:Int),((SB gl x y).length:Int)⟩]) (i + 1):=by
 have w1:=hx.ext k.ext
 have w2:=hy.ext k.ext
 have e1:=Ext.not k.ext.dZ w1
 have n1:=w1.not (u:=t + 10) (Int.le_refl _)
 have e2:=Ext.two (k:=5) e1.dZ ab n1 (w2.ext e1)
 have n2:=n1.and (u:=u) (w2.ext e1) om om
 have Fm:=e1.trans e2
 have e3:=Ext.two (k:=7) e2.dZ ab (w1.ext Fm) (w2.ext Fm)
 have n3:=(w1.ext Fm).xor (u:=t + 20) (w2.ext Fm) om om
 have e4:=Ext.not e3.dZ n3
 have n4:=n3.not (u:=u) om
 have hl:=k.len
 have ex:=Fm.trans (e3.trans e4)
 refine ⟨k.ext.trans ex,by unfold OQ SB SA S9; simp only [List.length_append,List.length_singleton]; omega,by rw [List.length_append,k.pl]; rfl,(k.wp.ext ex).snoc ?_ ?_⟩
 ·rw [k.pl]
  refine (n2.ext (e3.trans e4)).as fun ins=>?_
  rw [(hf ins).1,(hf ins).2]
  by_cases q:s = true /\ i + 1 = n
  ·rw [if_pos q,if_pos q,if_pos q]
  ·rw [if_neg q,if_neg q,if_neg q]
 ·rw [k.pl]
  refine n4.as fun ins=>?_
  rw [(hf ins).1,(hf ins).2]
  by_cases q:s = true /\ i + 1 = n
  ·rw [if_pos q,if_pos q,Bool.xor_comm]
  ·rw [if_neg q,if_neg q]
structure BO(c:Int)(g0:List Gate)(F:List Bool -> Bool)(n:Nat)(t:Int)(gl:List Gate)(ps:List bm):Prop where
 ext:Ext g0 gl
 len:gl.length + 3 * ps.length <= g0.length + 3 * n
 lo:1 <= ps.length
 ex:∃ (G P:Nat -> List Bool -> Bool) (t':Int),Wp c gl ps G P t' /\ (∀ ins,ca (fun k=>G k ins) (fun k=>P k ins) 0 ps.length false = F ins) /\ t' + 40 * (dI ps.length:Int) <= t + 40 * (dI n:Int)
theorem BO.init(hg:Good g0)(h:Wp c g0 ps G P t)(h1:1 <= ps.length):BO c g0 (fun ins=>ca (fun k=>G k ins) (fun k=>P k ins) 0 ps.length false) ps.length t g0 ps :=
 ⟨.refl hg,Nat.le_refl _,h1,G,P,t,h,fun _=>rfl,Int.le_refl _⟩
theorem BO.done{F:List Bool -> Bool}(h:BO c g0 F n t gl ps)(h1:ps.length <= 1):Wr c gl (ps.getD 0 default).g F (t + 40 * (dI n:Int)):=by
 obtain ⟨G,P,t',hw,he,ht⟩:=h.ex
 have hl:ps.length = 1:=by have:=h.lo; omega
 rw [BL h1] at ht
 refine ((hw.bit 0 om).1.late om).as fun ins=>?_
 rw [<- he ins,hl]; simp [ca]
structure HU(c:Int)(g1:List Gate)(ps:List bm)(gl:List Gate)(next:List bm)(i:Nat):Prop where
 ext:Ext g1 gl
 even:i % 2 = 0
 hi:i <= ps.length
 nl:next.length = i / 2
 len:gl.length = g1.length + 3 * (i / 2)
 wp:∀ G P t,Wp c g1 ps G P t -> Wp c gl next (fun k ins=>u9 (fun k=>G k ins) (fun k=>P k ins) ps.length k) (fun k ins=>uA (fun k=>P k ins) ps.length k) (t + 40)
theorem HU.init(hg:Good g1):HU c g1 ps g1 [] 0:=⟨.refl hg,rfl,om,rfl,rfl,fun _ _ _ _=>.nil⟩
def QC(gl:List Gate)(l h:bm):List Gate:=gl ++ [⟨5,h.p,l.g⟩]
def QD(gl:List Gate)(l h:bm):List Gate:=QC gl l h ++ [⟨6,h.g,(gl.length:Int)⟩]
def OR(gl:List Gate)(l h:bm):List Gate:=QD gl l h ++ [⟨5,h.p,l.p⟩]
theorem HU.step(h : HU c g1 ps gl next i)(hl : i + 1 < ps.length)(hw : ∃ G P t, Wp c g1 ps G P t) :
  HU c g1 ps (OR gl (ps.getD i default) (ps.getD (i + 1) default)) (next ++ [⟨((QC gl (ps.getD i default) (ps.getD (i + 1) default)).length:Int),((QD gl (ps.getD i default) (ps.getD (i + 1) default)).length:Int)⟩]) (i + 2):=by
 have he:=h.even; have q7:=h.len
 have key : ∀ G P t, Wp c g1 ps G P t → Ext gl (OR gl (ps.getD i default) (ps.getD (i + 1) default)) ∧
   Wr c (OR gl (ps.getD i default) (ps.getD (i + 1) default)) ((QC gl (ps.getD i default) (ps.getD (i + 1) default)).length:Int) (fun ins=>G (i + 1) ins || (P (i + 1) ins && G i ins)) (t + 40) /\
   Wr c (OR gl (ps.getD i default) (ps.getD (i + 1) default)) ((QD gl (ps.getD i default) (ps.getD (i + 1) default)).length:Int) (fun ins=>P (i + 1) ins && P i ins) (t + 40):=by
  intro G P t hf
  have l1:=(hf.bit i om).1.ext h.ext
  have l2:=(hf.bit i om).2.ext h.ext
  have h1:=(hf.bit (i + 1) hl).1.ext h.ext
  have h2:=(hf.bit (i + 1) hl).2.ext h.ext
  have e1:=Ext.two (k:=5) h.ext.dZ ab h2 l1
  have n1:=h2.and (u:=t + 20) l1 om om
  have e2:=Ext.two (k:=6) e1.dZ ab (h1.ext e1) n1
  have n2:=(h1.ext e1).or (u:=t + 40) n1 om om
  have Fm:=e1.trans e2
  have e3:=Ext.two (k:=5) e2.dZ ab (h2.ext Fm) (l2.ext Fm)
  have n3:=(h2.ext Fm).and (u:=t + 40) (l2.ext Fm) om om
  exact ⟨Fm.trans e3,n2.ext e3,n3⟩
 obtain ⟨G0,P0,t0,h0⟩:=hw
 have hx:=(key G0 P0 t0 h0).1
 refine ⟨h.ext.trans hx,om,om,by rw [List.length_append,h.nl,List.length_singleton]; omega,by unfold OR QD QC; simp only [List.length_append,List.length_singleton]; omega,fun G P t hf=>?_⟩
 obtain ⟨_,k1,k2⟩:=key G P t hf
 refine ((h.wp G P t hf).ext hx).snoc (k1.as fun ins=>?_) (k2.as fun ins=>?_)
 ·rw [h.nl]; unfold u9
  rw [show 2 * (i / 2) = i by omega,if_pos hl]
 ·rw [h.nl]; unfold uA
  rw [show 2 * (i / 2) = i by omega,if_pos hl]
theorem BO.pass{F:List Bool -> Bool}(h:BO c g0 F n t g1 ps)(hj:HU c g1 ps gl next i)(hl:¬ i + 1 < ps.length)(h2:1 < ps.length)(ho:¬ ps.length % 2 = 1):BO c g0 F n t gl next:=by
 have he:=hj.even; have hh:=hj.hi; have hn:=hj.nl; have hg:=hj.len; have S6:=h.len
 obtain ⟨G,P,t',hw,hv,ht⟩:=h.ex
 have Ai:next.length = (ps.length + 1) / 2:=by omega
 have zA:=rD (m:=ps.length) om
 refine ⟨h.ext.trans hj.ext,om,om,_,_,_,hj.wp G P t' hw,fun ins=>?_,?_⟩
 ·rw [Ai,BM]; exact hv ins
 ·rw [Ai]; omega
theorem BO.OS{F:List Bool -> Bool}(h:BO c g0 F n t g1 ps)(hj:HU c g1 ps gl next i)(hl:¬ i + 1 < ps.length)(h2:1 < ps.length)(ho:ps.length % 2 = 1):BO c g0 F n t gl (next ++ [ps.getD (ps.length - 1) default]):=by
 have he:=hj.even; have hh:=hj.hi; have hn:=hj.nl; have hg:=hj.len; have S6:=h.len
 obtain ⟨G,P,t',hw,hv,ht⟩:=h.ex
 have Ai:(next ++ [ps.getD (ps.length - 1) default]).length = (ps.length + 1) / 2:=by rw [List.length_append,hn]; simp; omega
 have zA:=rD (m:=ps.length) om
 have hb:=hw.bit (ps.length - 1) om
 refine ⟨h.ext.trans hj.ext,by rw [Ai]; omega,by rw [Ai]; omega,_,_,_,(hj.wp G P t' hw).snoc (((hb.1.ext hj.ext).late om).as fun ins=>?_) (((hb.2.ext hj.ext).late om).as fun ins=>?_),fun ins=>?_,?_⟩
 ·rw [hn]; unfold u9
  rw [show 2 * (i / 2) = ps.length - 1 by omega,if_neg om]
 ·rw [hn]; unfold uA
  rw [show 2 * (i / 2) = ps.length - 1 by omega,if_neg om]
 ·rw [Ai,BM]; exact hv ins
 ·rw [Ai]; omega
end
open Go Go.AW
section
variable {c:Int} {g0 g1 gl:List Gate} {a b r x next:List Int} {A B:Nat -> List Bool -> Bool} {t u:Int} {i k w:Nat}
structure GL(c:Int)(g0 gl:List Gate)(out:List Int)(h:Nat -> List Bool -> Bool)(u:Int)(i:Nat):Prop where
 ext:Ext g0 gl
 len:gl.length = g0.length + 3 * i
 ol:out.length = i
 ws:Ws c gl out h u
theorem GL.init{h:Nat -> List Bool -> Bool}{u:Int}(hg:Good g0):GL c g0 g0 [] h u 0:=⟨.refl hg,rfl,rfl,.nil⟩
theorem GL.step{h : Nat → List Bool → Bool}{s v y n : Int}{fs fy fn : List Bool → Bool}{ts tv ty tn : Int}(k : GL c g0 gl r h u i)(hs : Wr c g0 s fs ts)(hv : Wr c g0 v (fun ins => !fs ins) tv)(hy : Wr c g0 y fy ty)(hn : Wr c g0 n fn tn)
  (h1:ts + 40 <= u) (h2:tv + 40 <= u) (h3:ty + 40 <= u) (h4:tn + 40 <= u) (hh:∀ ins,h i ins = if fs ins then fy ins else fn ins):GL c g0 (yd gl s v y n) (r ++ [(gl.length:Int) + 2]) h u (i + 1):=by
 obtain ⟨e,wv⟩:=Fl k.ext.dZ (hs.ext k.ext) (hv.ext k.ext) (hy.ext k.ext) (hn.ext k.ext) h1 h2 h3 h4
 have hl:=k.len
 exact ⟨k.ext.trans e,by rw [BN]; omega,by rw [List.length_append,k.ol]; rfl,(k.ws.ext e).snoc (by rw [k.ol]; exact wv.as fun ins=>(hh ins).symm)⟩
structure HV(c:Int)(g0:List Gate)(left:Bool)(w:Nat)(A:List Bool -> BitVec w)(B:List Bool -> BitVec w)(fl:List Bool -> Bool)(t:Int)(gl:List Gate)(x:List Int)(k:Nat):Prop where
 ext:Ext g0 gl
 len:gl.length = g0.length + (3 * w + 1) * k
 xl:x.length = w
 ws:Ws c gl x (fun i ins=>tF left w (A ins).getLsbD (fl ins) ((B ins).toNat % 2 ^ k) i) (t + 10 + 40 * (k:Int))
theorem HV.init{left:Bool}{A B:List Bool -> BitVec w}{fl:List Bool -> Bool}(hg:Good g0)(ha:Wd c g0 a w A t):HV c g0 left w A B fl t g0 a 0 :=
 ⟨.refl hg,rfl,ha.len,⟨fun k hk=>((ha.bit k (by rw [<- ha.len]; exact hk)).late om).as fun ins=>by rw [Nat.pow_zero,Nat.mod_one,Fi (by rw [<- ha.len]; exact hk)]⟩⟩
theorem HV.pick{left : Bool}{A B : List Bool → BitVec w}{fl : List Bool → Bool}{f y : Int}{k : Nat}(h : HV c g0 left w A B fl t g1 x k)(hf : Wr c g0 f fl t){i : Nat}(_ : i < w)(fr : Int)(tp : fr = OO left k i)
  (hy:y = if 0 <= fr /\ fr < (w:Int) then x.getD fr.toNat 0 else f) :
  Wr c g1 y (fun ins=>if left then (if 2 ^ k <= i then tF left w (A ins).getLsbD (fl ins) ((B ins).toNat % 2 ^ k) (i - 2 ^ k) else fl ins) else (if i + 2 ^ k < w then tF left w (A ins).getLsbD (fl ins) ((B ins).toNat % 2 ^ k) (i + 2 ^ k) else fl ins)) (t + 10 + 40 * (k:Int)):=by
 subst hy tp
 have yL:=h.xl
 have hp:((2 ^ k:Nat):Int) = (2:Int) ^ k:=by simp
 have Hf:=Nat.two_pow_pos k
 unfold OO
 cases left
 ·simp only [Bool.false_eq_true,if_false]
  by_cases h1:i + 2 ^ k < w
  ·rw [if_pos om]
   have:=h.ws.bit (i + 2 ^ k) om
   rw [show ((i:Int) + 2 ^ k).toNat = i + 2 ^ k by omega]
   exact this.as fun ins=>by rw [if_pos h1]
  ·rw [if_neg om]
   exact ((hf.ext h.ext).late om).as fun ins=>by rw [if_neg h1]
 ·simp only [if_true]
  by_cases h1:2 ^ k <= i
  ·rw [if_pos om]
   have:=h.ws.bit (i - 2 ^ k) om
   rw [show ((i:Int) - 2 ^ k).toNat = i - 2 ^ k by omega]
   exact this.as fun ins=>by rw [if_pos h1]
  ·rw [if_neg om]
   exact ((hf.ext h.ext).late om).as fun ins=>by rw [if_neg h1]
def QE(left:Bool)(w:Nat)(A B:List Bool -> BitVec w)(fl:List Bool -> Bool)(k i:Nat)(ins:List Bool):Bool:=tF left w (A ins).getLsbD (fl ins) ((B ins).toNat % 2 ^ (k + 1)) i
theorem KC{left : Bool}{A B : List Bool → BitVec w}{fl : List Bool → Bool}{k i : Nat}(hi : i < w)(ins : List Bool) :
  QE left w A B fl k i ins = if (B ins).getLsbD k then (if left then (if 2 ^ k <= i then tF left w (A ins).getLsbD (fl ins) ((B ins).toNat % 2 ^ k) (i - 2 ^ k) else fl ins) else (if i + 2 ^ k < w then tF left w (A ins).getLsbD (fl ins) ((B ins).toNat % 2 ^ k) (i + 2 ^ k) else fl ins)) else tF left w (A ins).getLsbD (fl ins) ((B ins).toNat % 2 ^ k) i:=by
 unfold QE
 rw [Fk]
 cases (B ins).getLsbD k
 ·simp
 ·simp only [if_true]
  exact Fj hi
theorem HV.pass{left:Bool}{A B:List Bool -> BitVec w}{fl:List Bool -> Bool}{q:Gate}(h:HV c g0 left w A B fl t g1 x k)(he:Ext g1 (g1 ++ [q]))(hj:GL c (g1 ++ [q]) gl next (QE left w A B fl k) (t + 10 + 40 * ((k:Int) + 1)) i)(hi:i = w):HV c g0 left w A B fl t gl next (k + 1):=by
 subst hi
 have h1:=h.len; have h2:=hj.len
 rw [List.length_append,List.length_singleton] at h2
 refine ⟨h.ext.trans (he.trans hj.ext),by rw [h2,h1,Nat.mul_add]; omega,hj.ol,?_⟩
 have:=hj.ws
 rw [Int.natCast_add,Int.natCast_one]
 exact this
theorem KD{B:List Bool -> BitVec w}(hb:Wd c gl b w B t)(st:Nat)(hs:st <= w):Ws c gl (b.drop st) (fun k ins=>(B ins).getLsbD (st + k)) t:=⟨fun k hk=>by
 have hl:=hb.len
 rw [List.length_drop] at hk
 rw [List.getD_eq_getElem?_getD,List.getElem?_drop,<- List.getD_eq_getElem?_getD]
 exact hb.bit (st + k) om⟩
end
open Go Go.AW
section
variable {c:Int} {g0 g1 gl:List Gate} {a b r:List Int} {w:Nat} {A B:List Bool -> BitVec w} {t u:Int}
theorem sum_add(hl : r.length = w)(h : Ws c gl r (Aj (fun ins => (A ins).getLsbD 0 ^^ (B ins).getLsbD 0) (fun k ins => (A ins).getLsbD k && (B ins).getLsbD k) (fun k ins => (A ins).getLsbD k ^^ (B ins).getLsbD k)) u) :
  Wd c gl r w (fun ins=>A ins + B ins) u:=h.wd hl fun k hk ins=>by
 unfold Aj
 rw [HJ hk]
 by_cases h0:k = 0
 ·subst h0; simp [ca]
 ·rw [if_neg h0]
theorem HW(hl : r.length = w)(h : Ws c gl r (Aj (fun ins => (A ins).getLsbD 0 ^^ (B ins).getLsbD 0) (fun k ins => if k = 0 then (A ins).getLsbD 0 || !(B ins).getLsbD 0 else (A ins).getLsbD k && !(B ins).getLsbD k) (fun k ins => (A ins).getLsbD k ^^ !(B ins).getLsbD k)) u) :
  Wd c gl r w (fun ins=>A ins - B ins) u:=h.wd hl fun k hk ins=>by
 unfold Aj
 by_cases h0:k = 0
 ·subst h0; rw [if_pos rfl,Fc hk]
 ·rw [if_neg h0,HL hk om]; rfl
theorem HX{s : Bool}(hw : 0 < w)(ins : List Bool) :
  ca (fun k=>if s = true /\ k + 1 = w then !(B ins).getLsbD k && (A ins).getLsbD k else !(A ins).getLsbD k && (B ins).getLsbD k) (fun k=>!((A ins).getLsbD k ^^ (B ins).getLsbD k)) 0 w false = if s then (A ins).slt (B ins) else (A ins).ult (B ins):=by
 cases s
 ·rw [if_neg ab,<- Fg]
  exact rA (fun i _=>by simp [Jr]) (fun _ _=>rfl)
 ·rw [if_pos rfl,<- K8 hw]
  exact rA (fun i _=>by unfold Fh Jr; simp) (fun _ _=>rfl)
theorem Fo{s : Bool}{i : Nat}(ha : Wd c gl a w A t)(hb : Wd c gl b w B t)(hi : i < w){x y : Int}(hx : x = if s = true ∧ i + 1 = w then b.getD i 0 else a.getD i 0)(hy : y = if s = true ∧ i + 1 = w then a.getD i 0 else b.getD i 0) :
  Wr c gl x (fun ins=>if s = true /\ i + 1 = w then (B ins).getLsbD i else (A ins).getLsbD i) t /\ Wr c gl y (fun ins=>if s = true /\ i + 1 = w then (A ins).getLsbD i else (B ins).getLsbD i) t:=by
 subst hx hy
 by_cases q:s = true /\ i + 1 = w
 ·simp only [if_pos q]; exact ⟨hb.bit i hi,ha.bit i hi⟩
 ·simp only [if_neg q]; exact ⟨ha.bit i hi,hb.bit i hi⟩
theorem vx.tree{s : Bool}{ps : List bm}(hw : 0 < w)(h : vx c g0 gl (fun k ins => (A ins).getLsbD k) (fun k ins => (B ins).getLsbD k) s w u ps w) :
  BO c gl (fun ins=>if s then (A ins).slt (B ins) else (A ins).ult (B ins)) w u gl ps:=by
 have h1:=BO.init h.ext.dZ h.wp (by rw [h.pl]; omega)
 rw [h.pl] at h1
 have h2:(fun ins=>ca (fun k=>if s = true /\ k + 1 = w then !(B ins).getLsbD k && (A ins).getLsbD k else !(A ins).getLsbD k && (B ins).getLsbD k) (fun k=>!((A ins).getLsbD k ^^ (B ins).getLsbD k)) 0 w false) = (fun ins=>if s then (A ins).slt (B ins) else (A ins).ult (B ins)):=funext fun ins=>HX hw ins
 rw [h2] at h1
 exact h1
theorem KE(hr:r.length = w)(h:Ws c gl r (fun i ins=>!kh (fun j=>(B ins).getLsbD (dI w + j)) (w - dI w) && tF true w (A ins).getLsbD false ((B ins).toNat % 2 ^ dI w) i) u):Wd c gl r w (fun ins=>A ins <<< (B ins).toNat) u :=
 h.wd hr fun k hk ins=>(HQ (sx w) hk).symm
theorem KF(hr:r.length = w)(h:Ws c gl r (fun i ins=>!kh (fun j=>(B ins).getLsbD (dI w + j)) (w - dI w) && tF false w (A ins).getLsbD false ((B ins).toNat % 2 ^ dI w) i) u):Wd c gl r w (fun ins=>A ins >>> (B ins).toNat) u :=
 h.wd hr fun k hk ins=>(HR (sx w) hk).symm
theorem KG(hr:r.length = w)(h:Ws c gl r (fun i ins=>if kh (fun j=>(B ins).getLsbD (dI w + j)) (w - dI w) then (A ins).msb else tF false w (A ins).getLsbD (A ins).msb ((B ins).toNat % 2 ^ dI w) i) u):Wd c gl r w (fun ins=>(A ins).sshiftRight (B ins).toNat) u :=
 h.wd hr fun k hk ins=>(HS (sx w) hk).symm
theorem Wd.msb(h:Wd c gl a w A t)(hw:0 < w):Wr c gl (a.getD (w - 1) 0) (fun ins=>(A ins).msb) t:=(h.bit (w - 1) om).as fun ins=>by rw [BitVec.msb_eq_getLsbD_last]
end
structure Wk(c:Int)(l:List Gate)(a:List Int)(w:Nat)(N:List Bool -> Nat)(t:Int):Prop where
 len:a.length = w
 lt:∀ ins,N ins < 2 ^ w
 bit:∀ k,k < w -> Wr c l (a.getD k 0) (fun ins=>(N ins).testBit k) t
theorem Wd.wk{c:Int}{l:List Gate}{a:List Int}{w:Nat}{A:List Bool -> BitVec w}{t:Int}(h:Wd c l a w A t):Wk c l a w (fun ins=>(A ins).toNat) t:=⟨h.len,fun ins=>(A ins).isLt,h.bit⟩
theorem Wk.wd{c:Int}{l:List Gate}{a:List Int}{w:Nat}{N:List Bool -> Nat}{t:Int}(h:Wk c l a w N t):Wd c l a w (fun ins=>BitVec.ofNat w (N ins)) t :=
 ⟨h.len,fun k hk=>(h.bit k hk).as fun ins=>by rw [BitVec.getLsbD_ofNat]; simp [hk]⟩
theorem Wk.as{c:Int}{l:List Gate}{a:List Int}{w:Nat}{N M:List Bool -> Nat}{t:Int}(h:Wk c l a w N t)(he:∀ ins,N ins = M ins):Wk c l a w M t:=by
 obtain rfl:N = M:=funext he
 exact h
theorem Wk.ext{c:Int}{l l':List Gate}{a:List Int}{w:Nat}{N:List Bool -> Nat}{t:Int}(h:Wk c l a w N t)(he:Ext l l'):Wk c l' a w N t:=⟨h.len,h.lt,fun k hk=>(h.bit k hk).ext he⟩
theorem Wk.late{c:Int}{l:List Gate}{a:List Int}{w:Nat}{N:List Bool -> Nat}{t t':Int}(h:Wk c l a w N t)(ht:t <= t'):Wk c l a w N t':=⟨h.len,h.lt,fun k hk=>(h.bit k hk).late ht⟩
theorem Wr.Mi{c:Int}{l:List Gate}{x:Int}{f:List Bool -> Bool}{t:Int}(h:Wr c l x f t):Wk c l [x] 1 (fun ins=>(f ins).toNat) t :=
 ⟨rfl,fun ins=>by cases f ins <;> decide,fun k hk=>by
  obtain rfl:k = 0:=by omega
  exact h.as fun ins=>by cases f ins <;> rfl⟩
def rU(op:Int)(w width x y z:Nat):Nat :=
 if op = 2 then (BitVec.ofNat w x + BitVec.ofNat w y).toNat else if op = 3 then (BitVec.ofNat w x - BitVec.ofNat w y).toNat
 else if op = 9 then x &&& y else if op = 10 then x ||| y else if op = 11 then x ^^^ y
 else if op = 12 then (BitVec.ofNat w x <<< y).toNat else if op = 13 then (BitVec.ofNat w x >>> y).toNat else if op = 14 then ((BitVec.ofNat w x).sshiftRight y).toNat
 else if op = 15 then (decide (x = y)).toNat else if op = 16 then (decide (x ≠ y)).toNat
 else if op = 17 then (decide (x < y)).toNat else if op = 18 then (decide (x <= y)).toNat
 else if op = 19 then ((BitVec.ofNat w x).slt (BitVec.ofNat w y)).toNat else if op = 20 then ((BitVec.ofNat w x).sle (BitVec.ofNat w y)).toNat
 else if op = 21 then (if x = 1 then y else z) else if op = 22 then x else if op = 23 then ((BitVec.ofNat w x).signExtend width).toNat else x % 2 ^ width
open Go Go.AW
section
variable {c:Int} {g0 gl:List Gate} {r:List Int} {t u:Int} {i w:Nat} {A B:List Bool -> BitVec w}
structure xi(c:Int)(g0 gl:List Gate)(out:List Int)(h:Nat -> List Bool -> Bool)(u:Int)(i:Nat):Prop where
 ext:Ext g0 gl
 len:gl.length <= g0.length + 3 * i
 ol:out.length = i
 ws:Ws c gl out h u
theorem xi.init{h:Nat -> List Bool -> Bool}{u:Int}(hg:Good g0):xi c g0 g0 [] h u 0:=⟨.refl hg,om,rfl,.nil⟩
theorem xi.choose{h : Nat → List Bool → Bool}{s v y n : Int}{fs fy fn : List Bool → Bool}{ts tv ty tn : Int}(k : xi c g0 gl r h u i)(hs : Wr c g0 s fs ts)(hv : Wr c g0 v (fun ins => !fs ins) tv)(hy : Wr c g0 y fy ty)(hn : Wr c g0 n fn tn)
  (h1:ts + 40 <= u) (h2:tv + 40 <= u) (h3:ty + 40 <= u) (h4:tn + 40 <= u) (hh:∀ ins,h i ins = if fs ins then fy ins else fn ins):xi c g0 (yd gl s v y n) (r ++ [(gl.length:Int) + 2]) h u (i + 1):=by
 obtain ⟨e,wv⟩:=Fl k.ext.dZ (hs.ext k.ext) (hv.ext k.ext) (hy.ext k.ext) (hn.ext k.ext) h1 h2 h3 h4
 have hl:=k.len
 exact ⟨k.ext.trans e,by rw [BN]; omega,by rw [List.length_append,k.ol]; rfl,(k.ws.ext e).snoc (by rw [k.ol]; exact wv.as fun ins=>(hh ins).symm)⟩
theorem xi.and{h : Nat → List Bool → Bool}{x y : Int}{fx fy : List Bool → Bool}{tx ty : Int}(k : xi c g0 gl r h u i)(hx : Wr c g0 x fx tx)(hy : Wr c g0 y fy ty)(h1 : tx + 20 ≤ u)(h2 : ty + 20 ≤ u)(hh : ∀ ins, h i ins = (fx ins && fy ins)) :
  xi c g0 (gl ++ [⟨5,x,y⟩]) (r ++ [(gl.length:Int)]) h u (i + 1):=by
 have e:=Ext.two (k:=5) k.ext.dZ ab (hx.ext k.ext) (hy.ext k.ext)
 have wv:=(hx.ext k.ext).and (u:=u) (hy.ext k.ext) h1 h2
 have hl:=k.len
 exact ⟨k.ext.trans e,by rw [List.length_append,List.length_singleton]; omega,by rw [List.length_append,k.ol]; rfl,(k.ws.ext e).snoc (by rw [k.ol]; exact wv.as fun ins=>(hh ins).symm)⟩
def Al{w:Nat}(B:List Bool -> BitVec w)(ins:List Bool):Bool:=kh (fun j=>(B ins).getLsbD (dI w + j)) (w - dI w)
def ye(left ar:Bool)(w:Nat)(A B:List Bool -> BitVec w)(i:Nat)(ins:List Bool):Bool :=
 if ar then (if Al B ins then (A ins).msb else tF left w (A ins).getLsbD (ar && (A ins).msb) ((B ins).toNat % 2 ^ dI w) i) else (!Al B ins && tF left w (A ins).getLsbD (ar && (A ins).msb) ((B ins).toNat % 2 ^ dI w) i)
def HY(left ar:Bool){w:Nat}(a b:BitVec w):BitVec w:=if left then a <<< b.toNat else if ar then a.sshiftRight b.toNat else a >>> b.toNat
theorem Am{left ar:Bool}(SC:left = true -> ar = false)(hr:r.length = w)(h:Ws c gl r (ye left ar w A B) u):Wd c gl r w (fun ins=>HY left ar (A ins) (B ins)) u:=by
 cases left with
 | true =>
  obtain rfl:=SC rfl
  have h1:=KE (A:=A) (B:=B) hr (h.as fun k _ ins=>by simp [ye,Al])
  exact ⟨h1.len,fun k hk=>(h1.bit k hk).as fun ins=>by simp [HY]⟩
 | false =>
  cases ar with
  | true =>
   have h1:=KG (A:=A) (B:=B) hr (h.as fun k _ ins=>by simp [ye,Al])
   exact ⟨h1.len,fun k hk=>(h1.bit k hk).as fun ins=>by simp [HY]⟩
  | false =>
   have h1:=KF (A:=A) (B:=B) hr (h.as fun k _ ins=>by simp [ye,Al])
   exact ⟨h1.len,fun k hk=>(h1.bit k hk).as fun ins=>by simp [HY]⟩
def p2(k:Nat):Nat:=2 ^ k
theorem BP{k:Nat}(h:k <= 6):IntKind.i64.wrap (1 * 2 ^ (min (k:Int).toNat IntKind.i64.bits)) = ((p2 k:Nat):Int):=by
 have:k = 0 \/ k = 1 \/ k = 2 \/ k = 3 \/ k = 4 \/ k = 5 \/ k = 6:=by omega
 rcases this with rfl | rfl | rfl | rfl | rfl | rfl | rfl <;> decide
theorem KH{k:Nat}(h:k <= 6):p2 k <= 64:=Nat.pow_le_pow_right (n:=2) om h
theorem Fp{w:Nat}:dI w <= w:=by
 refine nJ ?_
 exact Nat.le_of_lt Nat.lt_two_pow_self
end
open Go Go.AW
section
variable {c:Int} {g0 gl:List Gate} {a r:List Int} {t u:Int} {w n:Nat} {A:List Bool -> BitVec w}
def yf(sg:Bool){w:Nat}(A:List Bool -> BitVec w)(k:Nat)(ins:List Bool):Bool:=if k < w then (A ins).getLsbD k else sg && (A ins).msb
def wO(sg:Bool){w:Nat}(n:Nat)(x:BitVec w):BitVec n:=if sg then x.signExtend n else x.setWidth n
theorem Fq{sg:Bool}(ha:Wd c gl a w A t):Ws c gl a (yf sg A) t:=ha.ws.as fun k hk ins=>by
 unfold yf; rw [if_pos (by rw [<- ha.len]; exact hk)]
theorem Fs{sg:Bool}{x:Int}(hr:Ws c gl r (yf sg A) t)(hl:w <= r.length)(hx:Wr c gl x (fun ins=>sg && (A ins).msb) t):Ws c gl (r ++ [x]) (yf sg A) t :=
 hr.snoc (hx.as fun ins=>by unfold yf; rw [if_neg om])
theorem Ft{sg:Bool}(hr:Ws c gl r (yf sg A) t)(hl:r.length = n)(_:w <= n):Wd c gl r n (fun ins=>wO sg n (A ins)) t:=hr.wd hl fun k hk ins=>by
 unfold yf wO
 cases sg
 ·simp only [Bool.false_and,Bool.false_eq_true,if_false,BitVec.getLsbD_setWidth,hk,decide_true,Bool.true_and]
  by_cases h:k < w
  ·rw [if_pos h]
  ·rw [if_neg h,BitVec.getLsbD_of_ge _ _ om]
 ·simp only [Bool.true_and,if_true,BitVec.getLsbD_signExtend,hk,decide_true]
theorem HZ{sg:Bool}(ha:Wd c gl a w A t)(h:n <= w):Wd c gl (a.take n) n (fun ins=>wO sg n (A ins)) t:=⟨by rw [List.length_take,ha.len]; omega,fun k hk=>by
 have h1:=ha.bit k om
 rw [List.getD_eq_getElem?_getD,List.getElem?_take_of_lt hk,<- List.getD_eq_getElem?_getD]
 refine h1.as fun ins=>?_
 unfold wO
 cases sg
 ·simp only [Bool.false_eq_true,if_false,BitVec.getLsbD_setWidth,hk,decide_true,Bool.true_and]
 ·simp only [if_true,BitVec.getLsbD_signExtend,hk,decide_true,Bool.true_and,show k < w by omega]⟩
def p5(s n:Nat):List Int:=(List.range n).map (fun i=>((s + i:Nat):Int))
theorem yg(s n:Nat):p5 s (n + 1) = p5 s n ++ [((s + n:Nat):Int)]:=by simp [p5,List.range_succ]
theorem mq(s n:Nat):(p5 s n).length = n:=by simp [p5]
theorem BQ{s n k:Nat}(h:k < n):(p5 s n).getD k 0 = ((s + k:Nat):Int):=by
 unfold p5
 rw [List.getD_eq_getElem?_getD,List.getElem?_map,List.getElem?_range h]; rfl
def p6(n:Nat):List Gate:=List.replicate n ⟨3,0,0⟩
theorem oN(n:Nat):p6 (n + 1) = p6 n ++ [⟨3,0,0⟩]:=List.replicate_succ'
theorem BR(n m:Nat):p6 n ++ p6 m = p6 (n + m):=by simp [p6,List.replicate_append_replicate]
theorem kB(n:Nat):(p6 n).length = n:=by simp [p6]
theorem rG : ∀ n, Good (p6 n)
 | 0=>Good.nil
 | n + 1=>by rw [oN]; exact (rG n).snoc (EX ab)
theorem p7 : ∀ n, mY (p6 n) = n
 | 0=>rfl
 | n + 1=>by rw [oN,lq,p7 n,p3,if_pos rfl]
theorem BS{ins : List Bool} : ∀ {n k : Nat}, k < n → val (p6 n) ins (k : Int) = ins.getD k false
 | 0,_,h=>by omega
 | n + 1,k,h=>by
  rw [oN]
  rcases Nat.lt_or_ge k n with h1 | h1
  ·rw [BG om (by rw [kB]; omega)]; exact BS h1
  ·obtain rfl:k = n:=by omega
   have h2:=val_last (l:=p6 k) (g:=⟨3,0,0⟩) (ins:=ins)
   rw [kB] at h2
   rw [h2,p7]; rfl
theorem KL{o ins:List Int}{n:Nat}:yT o ins n ⟨3,0,0⟩ = ins.getD n 0:=rfl
theorem BT{c : Int} : ∀ {n k : Nat}, k < n → CO c (p6 n) (k : Int) = c
 | 0,_,h=>by omega
 | n + 1,k,h=>by
  rw [oN]
  rcases Nat.lt_or_ge k n with h1 | h1
  ·rw [BH om (by rw [kB]; omega)]; exact BT h1
  ·obtain rfl:k = n:=by omega
   unfold CO pV
   have h3:(p6 k ++ [(⟨3,0,0⟩:Gate)]).length = (p6 k).length + 1:=by simp
   rw [h3,sw,Int.toNat_natCast,lx (by rw [kH _ (Nat.le_refl _),kB]),KL,p7,lq,p7,p3,if_pos rfl,u4 om]
def sW(f : Nat → Bool) : Nat → Nat
 | 0=>0
 | n + 1=>sW f n + 2 ^ n * (f n).toNat
theorem rH{f : Nat → Bool} : ∀ n, sW f n < 2 ^ n
 | 0=>by simp [sW]
 | n + 1=>by
  have h:=rH (f:=f) n
  rw [sW,Nat.pow_succ]
  cases f n <;> simp <;> omega
theorem s4{f : Nat → Bool} : ∀ {n k : Nat}, k < n → (sW f n).testBit k = f k
 | 0,_,h=>by omega
 | n + 1,k,h=>by
  have h0:=rH (f:=f) n
  rw [sW,Nat.add_comm,Nat.testBit_two_pow_mul_add _ h0]
  rcases Nat.lt_or_ge k n with h1 | h1
  ·rw [if_pos h1]; exact s4 h1
  ·obtain rfl:k = n:=by omega
   rw [if_neg om,Nat.sub_self]; cases f k <;> rfl
def CT(s w:Nat)(ins:List Bool):Nat:=sW (fun k=>ins.getD (s + k) false) w
theorem Jt{c:Int}{s w n:Nat}(h:s + w <= n):Wk c (p6 n) (p5 s w) w (CT s w) c:=⟨mq s w,fun ins=>rH w,fun k hk=>by
 rw [BQ hk]
 exact ⟨om,by rw [kB]; omega,fun ins=>by rw [BS om]; exact (s4 (f:=fun k=>ins.getD (s + k) false) hk).symm,by rw [BT om]; exact Int.le_refl _⟩⟩
end
structure Ia(c:Int)(gl:List Gate)(ws:List (List Int))(op:Int)(w width:Nat)(x y z:List Bool -> Nat)(t:Int):Prop where
 x:Wk c gl (ws.getD 0 []) w x t
 y:2 <= ws.length -> Wk c gl (ws.getD 1 []) (if op = 21 then width else w) y t
 z:3 <= ws.length -> Wk c gl (ws.getD 2 []) width z t
 ok:((op = 2 \/ op = 3 \/ 9 <= op /\ op <= 14) /\ ws.length = 2 /\ width = w) \/ ((15 <= op /\ op <= 20) /\ ws.length = 2 /\ width = 1) \/ (op = 21 /\ ws.length = 3 /\ w = 1) \/ ((op = 22 \/ op = 23) /\ ws.length = 1 /\ w <= width) \/ (op = 24 /\ ws.length = 1 /\ width <= w)
 hw:1 <= w /\ w <= 64
 hd:1 <= width /\ width <= 64
 t0:0 <= t
open Go Go.AW
theorem Wk.ws{c:Int}{l:List Gate}{a:List Int}{w:Nat}{N:List Bool -> Nat}{t:Int}(h:Wk c l a w N t):Ws c l a (fun k ins=>(N ins).testBit k) t:=⟨fun k hk=>h.bit k (by have:=h.len; omega)⟩
theorem Ws.wk{c:Int}{l:List Gate}{a:List Int}{w:Nat}{N:List Bool -> Nat}{t:Int}(h:Ws c l a (fun k ins=>(N ins).testBit k) t)(hl:a.length = w)(hn:∀ ins,N ins < 2 ^ w):Wk c l a w N t:=⟨hl,hn,fun k hk=>h.bit k om⟩
section
variable {c:Int} {l:List Gate} {r:List Int} {t:Int} {op:Int} {w width:Nat} {X Y Z:List Bool -> Nat} {x:Int}
abbrev BU(c:Int)(l:List Gate)(r:List Int)(op:Int)(w width:Nat)(X Y Z:List Bool -> Nat)(t:Int):Prop:=Wk c l r width (fun ins=>rU op w width (X ins) (Y ins) (Z ins)) (t + bo op (if eY op then w else width))
theorem Ib{n:Nat}(h:n < 2 ^ w):(BitVec.ofNat w n).toNat = n:=by rw [BitVec.toNat_ofNat,Nat.mod_eq_of_lt h]
theorem Ic(h:Wd c l r w (fun ins=>BitVec.ofNat w (X ins) + BitVec.ofNat w (Y ins)) (t + 40 + 40 * (dI w:Int)))(ho:op = 2)(hw:width = w):BU c l r op w width X Y Z t:=by
 subst ho hw
 exact (h.wk.as fun ins=>by simp [rU]).late (by simp [bo,eY]; omega)
theorem Ie(h:Wd c l r w (fun ins=>BitVec.ofNat w (X ins) - BitVec.ofNat w (Y ins)) (t + 50 + 40 * (dI w:Int)))(ho:op = 3)(hw:width = w):BU c l r op w width X Y Z t:=by
 subst ho hw
 exact (h.wk.as fun ins=>by simp [rU]).late (by simp [bo,eY]; omega)
theorem wP{k:Int}(h:Ws c l r (fun i ins=>(if k = 5 then X ins &&& Y ins else if k = 6 then X ins ||| Y ins else X ins ^^^ Y ins).testBit i) (t + 20))(hl:r.length = w)(hX:∀ ins,X ins < 2 ^ w)(hY:∀ ins,Y ins < 2 ^ w)(ho:op = 9 /\ k = 5 \/ op = 10 /\ k = 6 \/ op = 11 /\ k = 7)(hw:width = w):BU c l r op w width X Y Z t:=by
 subst hw
 rcases ho with ⟨rfl,rfl⟩ | ⟨rfl,rfl⟩ | ⟨rfl,rfl⟩
 ·exact ((h.wk hl fun ins=>Nat.and_lt_two_pow _ (hY ins)).as fun ins=>by simp [rU]).late (by simp [bo,eY])
 ·exact ((h.wk hl fun ins=>Nat.or_lt_two_pow (hX ins) (hY ins)).as fun ins=>by simp [rU]).late (by simp [bo,eY])
 ·exact ((h.wk hl fun ins=>Nat.xor_lt_two_pow (hX ins) (hY ins)).as fun ins=>by simp [rU]).late (by simp [bo,eY])
theorem An{left ar:Bool}(h:Wd c l r w (fun ins=>HY left ar (BitVec.ofNat w (X ins)) (BitVec.ofNat w (Y ins))) (t + (if ar then 50 else 30) + 40 * (dI w:Int)))(hY:∀ ins,Y ins < 2 ^ w)(ho:op = 12 /\ left = true /\ ar = false \/ op = 13 /\ left = false /\ ar = false \/ op = 14 /\ left = false /\ ar = true)(hw:width = w):BU c l r op w width X Y Z t:=by
 subst hw
 rcases ho with ⟨rfl,rfl,rfl⟩ | ⟨rfl,rfl,rfl⟩ | ⟨rfl,rfl,rfl⟩
 ·exact (h.wk.as fun ins=>by simp only [rU,HY,Ib (hY ins)]; simp).late (by simp [bo,eY]; omega)
 ·exact (h.wk.as fun ins=>by simp only [rU,HY,Ib (hY ins)]; simp).late (by simp [bo,eY]; omega)
 ·exact (h.wk.as fun ins=>by simp only [rU,HY,Ib (hY ins)]; simp).late (by simp [bo,eY]; omega)
theorem Fu{x y:Nat}(hx:x < 2 ^ w)(hy:y < 2 ^ w):BitVec.ofNat w x = BitVec.ofNat w y ↔ x = y:=by
 constructor
 ·intro h
  have:=congrArg BitVec.toNat h
  rwa [Ib hx,Ib hy] at this
 ·rintro rfl; rfl
theorem KM(h:Wr c l x (fun ins=>decide (BitVec.ofNat w (X ins) ≠ BitVec.ofNat w (Y ins))) (t + 20 + 20 * (dI w:Int)))(hX:∀ ins,X ins < 2 ^ w)(hY:∀ ins,Y ins < 2 ^ w)(ho:op = 16)(hw:width = 1):BU c l [x] op w width X Y Z t:=by
 subst ho hw
 exact (h.Mi.as fun ins=>by simp [rU,Fu (hX ins) (hY ins)]).late (by simp [bo,eY]; omega)
theorem KN(h:Wr c l x (fun ins=>!decide (BitVec.ofNat w (X ins) ≠ BitVec.ofNat w (Y ins))) (t + 30 + 20 * (dI w:Int)))(hX:∀ ins,X ins < 2 ^ w)(hY:∀ ins,Y ins < 2 ^ w)(ho:op = 15)(hw:width = 1):BU c l [x] op w width X Y Z t:=by
 subst ho hw
 exact (h.Mi.as fun ins=>by simp [rU,Fu (hX ins) (hY ins)]).late (by simp [bo,eY]; omega)
theorem Fv{s:Bool}(h:Wr c l x (fun ins=>if s then (BitVec.ofNat w (X ins)).slt (BitVec.ofNat w (Y ins)) else (BitVec.ofNat w (X ins)).ult (BitVec.ofNat w (Y ins))) (t + 30 + 40 * (dI w:Int)))(hX:∀ ins,X ins < 2 ^ w)(hY:∀ ins,Y ins < 2 ^ w)(ho:op = 17 /\ s = false \/ op = 19 /\ s = true)(hw:width = 1):BU c l [x] op w width X Y Z t:=by
 subst hw
 have hm:=oM (show w <= w + 1 by omega)
 rcases ho with ⟨rfl,rfl⟩ | ⟨rfl,rfl⟩
 ·exact (h.Mi.as fun ins=>by simp [rU,BitVec.ult,Nat.mod_eq_of_lt (hX ins),Nat.mod_eq_of_lt (hY ins)]).late (by simp [bo,eY]; omega)
 ·exact (h.Mi.as fun ins=>by simp [rU]).late (by simp [bo,eY]; omega)
theorem Fw{s:Bool}(h:Wr c l x (fun ins=>!(if s then (BitVec.ofNat w (Y ins)).slt (BitVec.ofNat w (X ins)) else (BitVec.ofNat w (Y ins)).ult (BitVec.ofNat w (X ins)))) (t + 40 + 40 * (dI w:Int)))(hX:∀ ins,X ins < 2 ^ w)(hY:∀ ins,Y ins < 2 ^ w)(ho:op = 18 /\ s = false \/ op = 20 /\ s = true)(hw:width = 1):BU c l [x] op w width X Y Z t:=by
 subst hw
 have hm:=oM (show w <= w + 1 by omega)
 rcases ho with ⟨rfl,rfl⟩ | ⟨rfl,rfl⟩
 ·refine (h.Mi.as fun ins=>?_).late (by simp [bo,eY]; omega)
  simp only [rU,BitVec.ult,Ib (hX ins),Ib (hY ins)]
  simp
  by_cases h:X ins <= Y ins
  ·rw [decide_eq_true h,decide_eq_false om]; rfl
  ·rw [decide_eq_false h,decide_eq_true om]; rfl
 ·refine (h.Mi.as fun ins=>?_).late (by simp [bo,eY]; omega)
  simp only [rU,if_true,BitVec.sle_eq_not_slt]
  simp
theorem Fx{x:Nat}(h:x < 2 ^ 1):x.testBit 0 = decide (x = 1):=by
 rcases (show x = 0 \/ x = 1 by omega) with rfl | rfl <;> rfl
theorem Ig(h:Ws c l r (fun i ins=>if (X ins).testBit 0 then (Y ins).testBit i else (Z ins).testBit i) (t + 50))(hl:r.length = width)(hX:∀ ins,X ins < 2 ^ 1)(hY:∀ ins,Y ins < 2 ^ width)(hZ:∀ ins,Z ins < 2 ^ width)(ho:op = 21):BU c l r op w width X Y Z t:=by
 subst ho
 have h1:Ws c l r (fun i ins=>(if X ins = 1 then Y ins else Z ins).testBit i) (t + 50):=h.as fun k _ ins=>by
  rw [Fx (hX ins)]
  by_cases hx:X ins = 1
  ·simp [hx]
  ·simp [hx]
 exact ((h1.wk hl fun ins=>by split; exact hY ins; exact hZ ins).as fun ins=>by simp [rU]).late (by simp [bo,eY])
theorem Ih{sg:Bool}(h:Wd c l r width (fun ins=>wO sg width (BitVec.ofNat w (X ins))) t)(hX:∀ ins,X ins < 2 ^ w)(ho:op = 22 /\ sg = false /\ w <= width \/ op = 23 /\ sg = true /\ w <= width \/ op = 24 /\ sg = false /\ width <= w):BU c l r op w width X Y Z t:=by
 rcases ho with ⟨rfl,rfl,hw⟩ | ⟨rfl,rfl,hw⟩ | ⟨rfl,rfl,hw⟩
 ·refine (h.wk.as fun ins=>?_).late (by simp [bo,eY])
  have:=Nat.pow_le_pow_right (n:=2) om hw
  simp only [rU,wO,Bool.false_eq_true,if_false,BitVec.toNat_setWidth,Ib (hX ins)]
  rw [Nat.mod_eq_of_lt (by have:=hX ins; omega)]; simp
 ·exact (h.wk.as fun ins=>by simp [rU,wO]).late (by simp [bo,eY])
 ·refine (h.wk.as fun ins=>?_).late (by simp [bo,eY])
  simp only [rU,wO,Bool.false_eq_true,if_false,BitVec.toNat_setWidth,Ib (hX ins)]
  simp
end
open Go Go.AW
theorem CU{l:List Int}{i:Nat}{v:Int}{f:Nat -> Int}(hl:l.length = i)(h:∀ j,j < i -> l.getD j 0 = f j)(hv:v = f i):∀ j,j < i + 1 -> (l ++ [v]).getD j 0 = f j:=by
 intro j hj
 by_cases e:j < l.length
 ·rw [mA e]; exact h j om
 ·rw [mC om,show j = i by omega,hl,Nat.sub_self]; exact hv
theorem gK(w:Int)(x:Nat):gA w x = x ↔ x <= 2 ^ gh w - 1:=by
 have hp:=jB (gh w) (by have:=ky w; omega)
 have hl:=tu w x
 constructor
 ·intro h; omega
 ·intro h; exact Nat.mod_eq_of_lt om
theorem OT{n:ae}{c:Cell}(h:0 <= c.out):n.ow c = n.aa.getD c.out.toNat 0:=by unfold ae.ow ae.wd; rw [if_pos h]
theorem Ii{n:ae}{c:Cell}{i:Nat}(h:∀ k,k < i -> fo n c k)(h1:fo n c i)(h2:fo n c (i + 1)):∀ k,k < i + 2 -> fo n c k:=uj (uj h h1) h2
theorem rI{op a b d a' b' d' w:Int}(h0:a = a')(h1:op < 22 \/ 24 < op -> b = b')(h2:op = 21 -> d = d'):bR op a b d w ↔ bR op a' b' d' w:=by
 subst h0
 unfold bR eY
 by_cases e:op = 21
 ·rw [h1 om,h2 e]
 ·by_cases e2:op < 22 \/ 24 < op
  ·rw [h1 e2]; omega
  ·omega
open Go Go.AW
def Dz(k:Nat):List Cell:=(List.range k).map (fun (j:Nat)=>(⟨8,0,(j:Int),[],j,0⟩:Cell))
theorem yh(k:Nat):Dz (k + 1) = Dz k ++ [(⟨8,0,(k:Int),[],k,0⟩:Cell)]:=by simp [Dz,List.range_succ]
theorem lr(k:Nat):(Dz k).length = k:=by simp [Dz]
theorem Ij{k j:Nat}(h:j < k):(Dz k).getD j default = ⟨8,0,(j:Int),[],j,0⟩:=by
 unfold Dz
 rw [List.getD_eq_getElem?_getD,List.getElem?_map,List.getElem?_range h]; rfl
def uC(op:Int)(k:Nat):List Cell:=(Dz k ++ [(⟨2,op,(k:Int),p5 0 k,0,0⟩:Cell)]) ++ [(⟨1,0,(k:Int) + 1,[],0,0⟩:Cell)]
def jr(op:Int)(ws:List Int)(width:Int):ae:=⟨ByteArray.empty,(ws ++ [width]) ++ [1],uC op ws.length,ws,[],[],[],[],(ws.length:Int) + 1,(ws.length:Int) + 1,[]⟩
theorem p8(op:Int)(k:Nat):(uC op k).length = k + 2:=by simp [uC,lr]
theorem s5{op:Int}{k j:Nat}(h:j < k):(uC op k).getD j default = ⟨8,0,(j:Int),[],j,0⟩:=by
 unfold uC
 rw [eJ (by simp [lr]; omega),eJ (by rw [lr]; exact h),Ij h]
theorem s6{op:Int}{k:Nat}:(uC op k).getD k default = ⟨2,op,(k:Int),p5 0 k,0,0⟩:=by
 unfold uC
 rw [eJ (by simp [lr]),gX (lr k).symm]
theorem rJ{op:Int}{k:Nat}:(uC op k).getD (k + 1) default = ⟨1,0,(k:Int) + 1,[],0,0⟩:=by
 unfold uC
 rw [gX (by simp [lr])]
theorem tG{op:Int}{k j:Nat}(h:j < k + 2):((uC op k).getD j default).out = (j:Int) /\ ((uC op k).getD j default).kind ≠ 7:=by
 rcases (show j < k \/ j = k \/ j = k + 1 by omega) with h1 | rfl | rfl
 ·rw [s5 h1]; exact ⟨rfl,by simp⟩
 ·rw [s6]; exact ⟨rfl,by simp⟩
 ·rw [rJ]; exact ⟨by simp,by simp⟩
theorem vZ{op : Int}{k w : Nat} : ∀ {i : Nat}, i ≤ k + 2 → dx ((uC op k).take i) w = if w < i then 1 else 0
 | 0,_=>by simp [dx]
 | i + 1,h=>by
  rw [gp (by rw [p8]; omega),vZ om]
  obtain ⟨h1,h2⟩:=tG (op:=op) (k:=k) (j:=i) om
  rw [h1]
  by_cases hw:w = i
  ·subst hw; rw [if_neg om,if_pos ⟨h2,rfl⟩,if_pos om]
  ·rw [if_neg (show ¬ (((uC op k).getD i default).kind ≠ 7 /\ (i:Int) = (w:Int)) from fun h=>hw om)]
   by_cases h3:w < i
   ·rw [if_pos h3,if_pos om]
   ·rw [if_neg h3,if_neg om]
def CV(op:Int)(ws:List Int)(width:Int):Prop :=
 (∀ w ∈ ws,dk w) /\ dk width /\ cy op ≠ 0 /\ (ws.length:Int) = cy op /\ bR op (ws.getD 0 0) (ws.getD 1 0) (ws.getD 2 0) width
section
variable {op width:Int} {ws:List Int}
theorem nK{op:Int}:cy op <= 3 /\ 0 <= cy op:=by unfold cy; (repeat' split) <;> omega
theorem Ju{j:Nat}(h:j < ws.length):(jr op ws width).wd (j:Int) = ws.getD j 0:=by
 unfold ae.wd jr
 rw [Int.toNat_natCast]
 show ((ws ++ [width]) ++ [1]).getD j 0 = _
 rw [eJ (by simp; omega),eJ h]
theorem OU:(jr op ws width).wd (ws.length:Int) = width:=by
 unfold ae.wd jr
 rw [Int.toNat_natCast]
 show ((ws ++ [width]) ++ [1]).getD ws.length 0 = _
 rw [eJ (by simp),gX rfl]
theorem Jv:(jr op ws width).wd ((ws.length:Int) + 1) = 1:=by
 unfold ae.wd jr
 show ((ws ++ [width]) ++ [1]).getD ((ws.length:Int) + 1).toNat 0 = _
 rw [gX (by simp)]
theorem Fy{j:Nat}(h:j < ws.length):(jr op ws width).av ⟨2,op,(ws.length:Int),p5 0 ws.length,0,0⟩ j = ws.getD j 0:=by
 unfold ae.av
 show (jr op ws width).wd ((p5 0 ws.length).getD j 0) = _
 rw [BQ h,Nat.zero_add,Ju h]
theorem Jw:(jr op ws width).ow ⟨2,op,(ws.length:Int),p5 0 ws.length,0,0⟩ = width:=by
 unfold ae.ow
 show (if 0 <= (ws.length:Int) then (jr op ws width).wd (ws.length:Int) else 0) = width
 rw [if_pos om,OU]
theorem BV(hl:(ws.length:Int) = cy op)(h0:cy op ≠ 0):bR op ((jr op ws width).av ⟨2,op,(ws.length:Int),p5 0 ws.length,0,0⟩ 0) ((jr op ws width).av ⟨2,op,(ws.length:Int),p5 0 ws.length,0,0⟩ 1) ((jr op ws width).av ⟨2,op,(ws.length:Int),p5 0 ws.length,0,0⟩ 2) width ↔ bR op (ws.getD 0 0) (ws.getD 1 0) (ws.getD 2 0) width:=by
 have h3:=nK (op:=op)
 refine rI (Fy om) (fun h=>Fy ?_) (fun h=>Fy ?_)
 ·unfold cy at hl h0; (repeat' split at hl) <;> (repeat' split at h0) <;> omega
 ·unfold cy at hl; (repeat' split at hl) <;> omega
theorem OV(hk:ws.length <= 5)(h:CV op ws width):jU (jr op ws width) = 0:=by
 obtain ⟨hw,vk,h0,hl,hf⟩:=h
 have hlen:(jr op ws width).aa.length = ws.length + 2:=by simp [jr]
 have vh:(jr op ws width).cells.length = ws.length + 2:=p8 op ws.length
 have pG:∀ x ∈ p5 0 ws.length,In x (jr op ws width).aa.length:=fun x hx=>by
  obtain ⟨i,hi,rfl⟩:=List.mem_map.1 hx
  have:=List.mem_range.1 hi
  rw [hlen]; unfold In; omega
 refine yb ⟨⟨fun i hi=>by simp [jr] at hi,by simp [jr]⟩,by rw [vh]; omega,by rw [hlen]; omega,by simp [jr],by simp [jr],rfl,rfl,fun j hj=>?_,fun j hj=>by simp [jr] at hj,fun j hj=>by simp [jr] at hj,?_,?_,fun r hr=>by simp [jr] at hr,fun j hj=>?_,fun w hw=>?_⟩ ⟨Jv,Jv,fun j hj=>by simp [jr] at hj,fun j hj=>?_⟩ ⟨fun _=>0,fun i j hi hj hm=>?_⟩
 ·have:∀ x ∈ (jr op ws width).aa ++ (jr op ws width).ins,dk x:=fun x hx=>by
   simp only [jr,List.mem_append,List.mem_singleton] at hx
   rcases hx with ((h | rfl) | rfl) | h
   ·exact hw x h
   ·exact vk
   ·exact ur
   ·exact hw x h
  exact this _ (getD_in hj)
 ·show In ((ws.length:Int) + 1) (jr op ws width).aa.length
  rw [hlen]; unfold In; omega
 ·show In ((ws.length:Int) + 1) (jr op ws width).aa.length
  rw [hlen]; unfold In; omega
 ·rw [vh] at hj
  show jC (jr op ws width) ((uC op ws.length).getD j default)
  refine ⟨?_,?_,fun h=>absurd h (tG hj).2,fun _=>by rw [(tG hj).1,hlen]; unfold In; omega⟩
  ·rcases (show j < ws.length \/ j = ws.length \/ j = ws.length + 1 by omega) with h1 | rfl | rfl
   ·rw [s5 h1]; exact fun x hx=>by cases hx
   ·rw [s6]; exact pG
   ·rw [rJ]; exact fun x hx=>by cases hx
  ·rcases (show j < ws.length \/ j = ws.length \/ j = ws.length + 1 by omega) with h1 | rfl | rfl
   ·rw [s5 h1]; exact .inr (.inr (.inr (.inr (.inr (.inr (.inr (.inl ⟨rfl,rfl,rfl,h1,rfl⟩)))))))
   ·rw [s6]; exact .inr (.inl ⟨rfl,h0,by rw [mq]; exact hl,rfl,rfl⟩)
   ·rw [rJ]; exact .inl ⟨rfl,rfl,rfl,rfl⟩
 ·rw [hlen] at hw
  have:=vZ (op:=op) (k:=ws.length) (w:=w) (Nat.le_refl _)
  rw [<- p8 op ws.length,List.take_length,p8,if_pos hw] at this
  exact this
 ·rw [vh] at hj
  show Fits (jr op ws width) ((uC op ws.length).getD j default)
  rcases (show j < ws.length \/ j = ws.length \/ j = ws.length + 1 by omega) with h1 | rfl | rfl
  ·rw [s5 h1]
   refine .inr (.inr (.inr (.inr (.inr (.inr (.inr (.inl ⟨rfl,?_⟩)))))))
   show ws.getD j 0 = (if 0 <= (j:Int) then (jr op ws width).wd (j:Int) else 0)
   rw [if_pos om,Ju h1]
  ·rw [s6]
   refine .inr (.inl ⟨rfl,?_⟩)
   rw [Jw]; exact (BV hl h0).2 hf
  ·rw [rJ]
   refine .inl ⟨rfl,?_⟩
   show gA _ 0 = 0
   exact Nat.zero_mod _
 ·exfalso
  have Ma:=hi.1.2; have XA:=hj.1.2; have qT:=hi.1.1; have Zu:=hj.1.1
  rw [vh] at Ma XA
  have e1:(jr op ws width).cell i = (uC op ws.length).getD i.toNat default:=rfl
  have e2:(jr op ws width).cell j = (uC op ws.length).getD j.toNat default:=rfl
  have ho:=(tG (op:=op) (k:=ws.length) (j:=j.toNat) om).1
  rw [e1,e2,ho] at hm
  have Kh:=hj.2
  rw [e2] at Kh
  rcases (show i.toNat < ws.length \/ i.toNat = ws.length \/ i.toNat = ws.length + 1 by omega) with h1 | h1 | h1
  ·rw [s5 h1] at hm; cases hm
  ·rw [h1,s6] at hm
   obtain ⟨q,hq,SD⟩:=List.mem_map.1 hm
   have:=List.mem_range.1 hq
   rw [s5 om] at Kh
   unfold cU at Kh; simp only at Kh; omega
  ·rw [h1,rJ] at hm; cases hm
theorem Ik(h:jU (jr op ws width) = 0):CV op ws width:=by
 have hlen:(jr op ws width).aa.length = ws.length + 2:=by simp [jr]
 have vh:(jr op ws width).cells.length = ws.length + 2:=p8 op ws.length
 unfold jU at h
 by_cases h1:bx (jr op ws width)
 ·rw [if_pos h1] at h
  by_cases h2:Fit (jr op ws width)
  ·have hc:=h1.cells ws.length (by rw [vh]; omega)
   have KO:=h2.cells ws.length (by rw [vh]; omega)
   have e1:(jr op ws width).cells.getD ws.length default = ⟨2,op,(ws.length:Int),p5 0 ws.length,0,0⟩:=s6
   rw [e1] at hc KO
   have hs:=hc.2.1
   simp only [Shaped,Int.reduceEq,false_and,true_and,false_or,or_false,mq] at hs
   simp only [Fits,Int.reduceEq,false_and,true_and,false_or,or_false] at KO
   rw [Jw] at KO
   have vk:∀ x ∈ (jr op ws width).aa ++ (jr op ws width).ins,dk x:=fun x hx=>by
    obtain ⟨i,hi,rfl⟩:=List.mem_iff_getElem.1 hx
    have:=h1.wide i hi
    rwa [List.getD_eq_getElem?_getD,List.getElem?_eq_getElem hi] at this
   refine ⟨fun w hw=>vk w (by simp [jr,hw]),vk width (by simp [jr]),hs.1,hs.2.1,(BV hs.2.1 hs.1).1 KO⟩
  ·rw [if_neg h2] at h; omega
 ·rw [if_neg h1] at h; omega
theorem FA(hk:ws.length <= 5):(jr op ws width).Small:=by
 refine ⟨by simp [jr],by simp [jr]; omega,by show (uC op ws.length).length <= _; rw [p8]; omega,fun c hc=>?_,?_,fun c hc=>?_,fun m hm=>by simp [jr] at hm,fun m hm=>by simp [jr] at hm,by show ws.length <= _; omega,by simp [jr],by simp [jr],by simp [jr],by simp [jr],by simp [jr]⟩
 ·simp only [jr,uC,Dz,List.mem_append,List.mem_map,List.mem_range,List.mem_singleton] at hc
  rcases hc with (⟨j,_,rfl⟩ | rfl) | rfl
  ·simp
  ·simp only [mq]; omega
  ·simp
 ·show ((uC op ws.length).map (fun c=>c.args.length)).sum <= _
  have h1:∀ k,((Dz k).map (fun c=>c.args.length)).sum = 0:=fun k=>by
   induction k with
   | zero=>rfl
   | succ k ih=>rw [yh,List.map_append,List.sum_append,ih]; rfl
  simp only [uC,List.map_append,List.sum_append,h1,List.map_cons,List.map_nil,List.sum_cons,List.sum_nil,mq,List.length_nil]; omega
 ·simp only [jr,uC,Dz,List.mem_append,List.mem_map,List.mem_range,List.mem_singleton] at hc
  rcases hc with (⟨j,_,rfl⟩ | rfl) | rfl
  ·simp only; omega
  ·simp
  ·simp
end
open Go Go.AW
def gN(ws : List Int) : Nat → Nat
  | 0=>0
  | i + 1=>gN ws i + (ws.getD i 0).toNat
theorem BW{ws : List Int}(h : ∀ w ∈ ws, dk w) : ∀ i, i ≤ ws.length → gN ws i ≤ 64 * i
  | 0,_=>by simp [gN]
  | i + 1,hi=>by
    have h1:=BW h i om
    have h2:=h (ws.getD i 0) (getD_in om)
    unfold dk at h2
    simp only [gN]; omega
theorem p9{ws : List Int}{i : Nat} : ∀ {j}, i ≤ j → gN ws i ≤ gN ws j
  | 0, h => by have : i = 0 := by omega
               subst this; exact Nat.le_refl _
  | j + 1,h=>by
    rcases Nat.lt_or_ge j i with h1 | h1
    · have:i = j + 1:=by omega
      subst this; exact Nat.le_refl _
    · have:=p9 (ws:=ws) h1
      simp only [gN]; omega
def wL(ws:List Int)(i:Nat):List (List Int):=(List.range i).map (fun j=>p5 (gN ws j) (ws.getD j 0).toNat)
theorem Il(ws:List Int)(i:Nat):wL ws (i + 1) = wL ws i ++ [p5 (gN ws i) (ws.getD i 0).toNat]:=by simp [wL,List.range_succ]
theorem uD(ws:List Int)(i:Nat):(wL ws i).length = i:=by simp [wL]
theorem KP{ws:List Int}{i j:Nat}(h:j < i):(wL ws i).getD j [] = p5 (gN ws j) (ws.getD j 0).toNat:=by
  unfold wL
  rw [List.getD_eq_getElem?_getD,List.getElem?_map,List.getElem?_range h]; rfl
theorem uE{op:Int}{k:Nat}(h0:cy op ≠ 0)(hl:(k:Int) = cy op):(((2 <= op /\ op <= 3) \/ (9 <= op /\ op <= 20)) /\ k = 2) \/ (op = 21 /\ k = 3) \/ ((22 <= op /\ op <= 24) /\ k = 1):=by
  unfold cy at h0 hl
  by_cases h1:(2 <= op /\ op <= 3) \/ (9 <= op /\ op <= 20)
  · rw [if_pos h1] at hl; exact .inl ⟨h1,om⟩
  · rw [if_neg h1] at hl h0
    by_cases h2:op = 21
    · rw [if_pos h2] at hl; exact .inr (.inl ⟨h2,om⟩)
    · rw [if_neg h2] at hl h0
      by_cases h3:22 <= op /\ op <= 24
      · rw [if_pos h3] at hl; exact .inr (.inr ⟨h3,om⟩)
      · rw [if_neg h3] at h0; exact absurd rfl h0
section
variable {op width c:Int} {ws:List Int}
theorem OW(h : CV op ws width)(hc : 0 ≤ c) :
    Ia c (p6 (gN ws ws.length)) (wL ws ws.length) op (ws.getD 0 0).toNat width.toNat (CT 0 (ws.getD 0 0).toNat) (CT (gN ws 1) (ws.getD 1 0).toNat) (CT (gN ws 2) (ws.getD 2 0).toNat) c:=by
  obtain ⟨hw,vk,h0,hl,hf⟩:=h
  have so:=uE h0 hl
  have hg:∀ {j},j < ws.length -> dk (ws.getD j 0):=fun hj=>hw _ (getD_in hj)
  have uF:∀ {j},j < ws.length -> Wk c (p6 (gN ws ws.length)) ((wL ws ws.length).getD j []) (ws.getD j 0).toNat (CT (gN ws j) (ws.getD j 0).toNat) c:=fun {j} hj=>by
    rw [KP hj]
    refine Jt ?_
    have:=p9 (ws:=ws) (i:=j + 1) (j:=ws.length) om
    simpa [gN] using this
  have w0:=hg (j:=0) om
  have hx:=uF (j:=0) om
  unfold dk at w0 vk
  unfold bR eY at hf
  rw [show gN ws 0 = 0 from rfl] at hx
  refine ⟨hx,fun h2=>?_,fun h3=>?_,?_,om,om,hc⟩
  · rw [uD] at h2
    have hy:=uF (j:=1) om
    have e:(ws.getD 1 0).toNat = if op = 21 then width.toNat else (ws.getD 0 0).toNat:=by
      by_cases Mb:op = 21
      · rw [if_pos Mb]; omega
      · rw [if_neg Mb]; omega
    rw [<- e]; exact hy
  · rw [uD] at h3
    have hz:=uF (j:=2) om
    have e:(ws.getD 2 0).toNat = width.toNat:=by omega
    rw [e] at hz ⊢; exact hz
  · rw [uD]; omega
theorem FB(h:CV op ws width):ws.length <= 3 /\ gN ws ws.length <= 192:=by
  have h3:=nK (op:=op)
  have h1:=BW h.1 ws.length (Nat.le_refl _)
  have h2:=h.2.2.2.1
  omega
noncomputable instance:Decidable (CV op ws width):=Classical.propDecidable _
def OX(op:Int)(ws:List Int)(width:Int):Prop:=Plain op /\ CV op ws width
noncomputable instance:Decidable (OX op ws width):=Classical.propDecidable _
def nZ(op:Int)(ws:List Int)(width:Int)(l:List Gate)(out:List Int)(e:Int):Prop :=
  (¬ Plain op /\ e = 1) \/ (Plain op /\ ¬ CV op ws width /\ e = 13) \/
  (Plain op ∧ CV op ws width ∧ e = 0 ∧ Ext (p6 (gN ws ws.length)) l ∧ l.length ≤ 1800 ∧
    BU 0 l out op (ws.getD 0 0).toNat width.toNat (CT 0 (ws.getD 0 0).toNat) (CT (gN ws 1) (ws.getD 1 0).toNat) (CT (gN ws 2) (ws.getD 2 0).toNat) 0)
end
open Go Go.AW
section
variable {op width:Int} {ws:List Int} {l:List Gate} {out:List Int} {e:Int}
theorem nZ.e1(h:nZ op ws width l out e)(hp:¬ Plain op):e = 1:=by
 rcases h with ⟨_,h⟩ | ⟨h,_⟩ | ⟨h,_⟩
 ·exact h
 ·exact absurd h hp
 ·exact absurd h hp
theorem nZ.e0(h:nZ op ws width l out e)(hp:Plain op)(hc:CV op ws width):e = 0:=by
 rcases h with ⟨h,_⟩ | ⟨_,h,_⟩ | ⟨_,_,h,_⟩
 ·exact absurd hp h
 ·exact absurd hc h
 ·exact h
theorem FC(h:nZ 11 [1,1] 1 l out e):e = 0 /\ out.length = 1 /\ (0 <= out.getD 0 0 /\ out.getD 0 0 < l.length) /\ mY l = 2 /\ l.length <= 1800:=by
 have hp:Plain 11:=by unfold Plain Eu Seq Unary; omega
 have hc:CV 11 [1,1] 1:=⟨ab,ab,ab,ab,by unfold bR eY; simp⟩
 rcases h with ⟨h,_⟩ | ⟨_,h,_⟩ | ⟨_,_,h0,hx,hl,hr⟩
 ·exact absurd hp h
 ·exact absurd hc h
 ·have hb:=hr.bit 0 ab
  refine ⟨h0,hr.len,⟨hb.lo,hb.hi⟩,?_,hl⟩
  rw [hx.mY,p7]; rfl
end
theorem yi{l:List Gate}{i:Nat}(h:i < l.length):mY (l.take (i + 1)) = mY (l.take i) + if (l.getD i default).kind = 3 then 1 else 0:=by
 rw [List.take_add_one,List.getElem?_eq_getElem h,lq,List.getD_eq_getElem?_getD,List.getElem?_eq_getElem h]
 exact congrArg _ (p3 _)
open Go Go.AW
def Jx(l:List Gate):Prop:=∀ j,j < l.length -> qJ j (l.getD j default)
noncomputable instance (l:List Gate):Decidable (Jx l):=Classical.propDecidable _
theorem getD_some{α:Type}{l:List α}{i:Nat}{g d:α}(h:l[i]? = some g):i < l.length /\ l.getD i d = g:=by
 obtain ⟨hi,rfl⟩:=List.getElem?_eq_some_iff.1 h
 exact ⟨hi,by rw [List.getD_eq_getElem?_getD,List.getElem?_eq_getElem hi]; rfl⟩
theorem Good.d{l:List Gate}(h:Good l):Jx l:=fun j hj=>h j _ (by rw [List.getD_eq_getElem?_getD,List.getElem?_eq_getElem hj]; rfl)
def BX(a:List Int)(w n:Int):Prop:=(∀ j,j < a.length -> 0 <= a.getD j 0 /\ a.getD j 0 < n) /\ (a.length:Int) = w
noncomputable instance (a:List Int) (w n:Int):Decidable (BX a w n):=Classical.propDecidable _
open Go Go.AW
def yj(op:Int)(ws:List Int)(width:Int):Prop:=Plain op /\ CV op ws width
theorem yj.len{op:Int}{ws:List Int}{width:Int}(h:yj op ws width):1 <= ws.length /\ ws.length <= 3:=by
 have h1:=nK (op:=op)
 have h2:=h.2.2.2.2.1
 have h3:=h.2.2.2.1
 omega
theorem nZ.dZ{op : Int}{ws : List Int}{width : Int}{l : List Gate}{out : List Int}{e : Int}(h : nZ op ws width l out e)(hd : yj op ws width) :
  e = 0 /\ Good l /\ BX out width l.length /\ l.length <= 1800 /\ mY l = gN ws ws.length /\ ∀ j,j < out.length -> CO 0 l (out.getD j 0) <= bo op (if eY op then ws.getD 0 0 else width).toNat:=by
 rcases h with ⟨h,_⟩ | ⟨_,h,_⟩ | ⟨_,hc,h0,hx,hl,hr⟩
 ·exact absurd hd.1 h
 ·exact absurd hd.2 h
 ·have hw:=hc.2.1
  unfold dk at hw
  have sJ:=hr.len
  refine ⟨h0,hx.dZ,⟨fun j hj=>?_,om⟩,hl,by rw [hx.mY,p7],fun j hj=>?_⟩
  ·have hb:=hr.bit j om
   exact ⟨hb.lo,hb.hi⟩
  ·have hb:=(hr.bit j om).t
   rw [Int.zero_add] at hb
   have e1:(if eY op then ws.getD 0 0 else width).toNat = if eY op then (ws.getD 0 0).toNat else width.toNat:=by split <;> rfl
   rw [e1]; exact hb
open Go Go.AW
theorem uG(l:List Int)(b:Int):gj (l ++ [b]) = gj l + 2 ^ l.length * b.toNat:=by
 induction l with
 | nil=>simp [gj]
 | cons a r ih =>
  show 2 * gj (r ++ [b]) + a.toNat = 2 * gj r + a.toNat + 2 ^ (r.length + 1) * b.toNat
  rw [ih,Nat.pow_succ,Nat.mul_add,<- Nat.mul_assoc,Nat.mul_comm 2 (2 ^ r.length)]; omega
theorem FD{f:Nat -> Bool}{w R:Nat}(hR:R < 2 ^ w)(h:∀ k,k < w -> R.testBit k = f k):sW f w = R:=by
 refine Nat.eq_of_testBit_eq fun i=>?_
 rcases Nat.lt_or_ge i w with h1 | h1
 ·rw [s4 h1,h i h1]
 ·rw [Nat.testBit_lt_two_pow (Nat.lt_of_lt_of_le (rH w) (Nat.pow_le_pow_right om h1)),Nat.testBit_lt_two_pow (Nat.lt_of_lt_of_le hR (Nat.pow_le_pow_right om h1))]
theorem uH{l:List Int}{i:Nat}(h:i < l.length):gj (l.take (i + 1)) = gj (l.take i) + 2 ^ i * (l.getD i 0).toNat:=by
 rw [List.take_succ_eq_append_getElem h,uG,List.length_take,Nat.min_eq_left om,List.getD_eq_getElem?_getD,List.getElem?_eq_getElem h]; rfl
structure Ao(a b:List Int)(c0:Int)(i:Nat)(out:List Int)(c:Int):Prop where
 ol:out.length = i
 Zv:∀ x ∈ out,0 <= x /\ x <= 1
 Zw:0 <= c /\ c <= 1
 sum:gj out + 2 ^ i * c.toNat = gj (a.take i) + gj (b.take i) + c0.toNat
theorem Ao.init{a b:List Int}{c0:Int}(h:0 <= c0 /\ c0 <= 1):Ao a b c0 0 [] c0:=⟨rfl,fun _ h=>(by cases h),h,by simp [gj]⟩
theorem Ao.step{a b out : List Int}{c0 c x y : Int}{i : Nat}(h : Ao a b c0 i out c)(ha : i < a.length)(hb : i < b.length)(hx : a.getD i 0 = x)(hy : b.getD i 0 = y)(Vl : 0 ≤ x ∧ x ≤ 1)(Zx : 0 ≤ y ∧ y ≤ 1) :
  Ao a b c0 (i + 1) (out ++ [(x + y + c) % 2]) ((x + y + c) / 2):=by
 obtain ⟨h1,h2,h3,h4⟩:=h
 refine ⟨by simp [h1],fun z hz=>?_,om,?_⟩
 ·rcases List.mem_append.1 hz with h | h
  ·exact h2 z h
  ·rw [List.mem_singleton.1 h]; omega
 ·rw [uG,uH ha,uH hb,h1,hx,hy,Nat.pow_succ]
  have e:((x + y + c) % 2).toNat + 2 * ((x + y + c) / 2).toNat = x.toNat + y.toNat + c.toNat:=by omega
  have e2:2 ^ i * ((x + y + c) % 2).toNat + 2 ^ i * 2 * ((x + y + c) / 2).toNat = 2 ^ i * x.toNat + 2 ^ i * y.toNat + 2 ^ i * c.toNat:=by
   rw [Nat.mul_assoc,<- Nat.mul_add,e,Nat.mul_add,Nat.mul_add]
  omega
theorem Ao.done{a b out:List Int}{c0 c:Int}{n:Nat}(h:Ao a b c0 n out c)(ha:a.length = n)(hb:b.length = n):gj out = (gj a + gj b + c0.toNat) % 2 ^ n:=by
 obtain ⟨h1,h2,h3,h4⟩:=h
 rw [List.take_of_length_le om,List.take_of_length_le om] at h4
 have h5:=xH out (fun b hb=>by have:=h2 b hb; omega)
 rw [<- h4,Nat.add_mul_mod_self_left,Nat.mod_eq_of_lt (by rw [<- h1]; exact h5)]
section
variable {w width x y z:Nat}
end
open Go Go.AW Go.Proofs
end Go.Proofs.Ytlimckldnjmabaa
namespace Go.Proofs.Ytlimckldnjmabaa
open Go Go.AW Go.Proofs
open Go Go.AW Go.Proofs
end Go.Proofs.Ytlimckldnjmabaa
namespace Go.Proofs.Ytlimckldnjmabaa
open Go Go.AW Go.Proofs
open Go Go.AW
section
variable {o ins:List Bool} {n:Nat} {g:Gate}
end
open Go Go.AW Go.Proofs
end Go.Proofs.Ytlimckldnjmabaa
namespace Go.Proofs.Ytlimckldnjmabaa
open Go Go.AW
structure U3 where
 a:Nat
 b:Nat
 c:Nat
instance:Inhabited U3:=⟨⟨0,0,0⟩⟩
def U3.row(u:U3):List X:=[.v (.int .u64 (u.a:Int)),.v (.int .u64 (u.b:Int)),.v (.int .u64 (u.c:Int))]
theorem U3.bE(u:U3):X.b6 u.row = true:=rfl
theorem U3.lG(u:U3):X.fm u.row:=by simp [U3.row,X.fm,X.plain]
def U3.get(u:U3)(i:Nat):Nat:=if i = 0 then u.a else if i = 1 then u.b else u.c
def U3.Ok(u:U3):Prop:=u.a < 18446744073709551616 /\ u.b < 18446744073709551616 /\ u.c < 18446744073709551616
theorem U3.Ok.get{u:U3}(h:u.Ok)(i:Nat):u.get i < 18446744073709551616:=by
 unfold U3.get; obtain ⟨h1,h2,h3⟩:=h
 split
 ·exact h1
 ·split
  ·exact h2
  ·exact h3
def bL(f:Nat -> Bool)(n:Nat):List Bool:=(List.range n).map f
theorem FE(f:Nat -> Bool)(n:Nat):(bL f n).length = n:=by simp [bL]
theorem KQ{f:Nat -> Bool}{n i:Nat}(h:i < n):(bL f n).getD i false = f i:=by
 rw [List.getD_eq_getElem?_getD,List.getElem?_eq_getElem (by rw [FE]; exact h)]; simp [bL]
def KR(tf:List Bool)(iv:List Int)(x:Nat):Prop:=∀ j,j < iv.length -> tf.getD (iv.getD j 0).toNat false = x.testBit j
noncomputable instance (tf:List Bool) (iv:List Int) (x:Nat):Decidable (KR tf iv x):=Classical.propDecidable _
def Jy(ws:List Int)(u:U3)(i:Nat):List Nat:=(List.range i).map fun j=>gA (ws.getD j 0) (u.get j)
theorem Im(ws:List Int)(u:U3)(i:Nat):(Jy ws u i).length = i:=by simp [Jy]
theorem tH{ws:List Int}{u:U3}{i j:Nat}(h:j < i):(Jy ws u i).getD j 0 = gA (ws.getD j 0) (u.get j):=by
 rw [List.getD_eq_getElem?_getD,List.getElem?_eq_getElem (by rw [Im]; exact h)]; simp [Jy]
def DA(ws : List Int)(u : U3) : Nat → List Bool
 | 0=>[]
 | i + 1=>DA ws u i ++ bL (gA (ws.getD i 0) (u.get i)).testBit (gh (ws.getD i 0))
theorem pA{w:Int}(h:dk w):gh w = w.toNat:=by unfold dk at h; unfold gh; rw [if_neg om,if_neg om]
theorem BY{ws : List Int}{u : U3}(h : ∀ w ∈ ws, dk w) : ∀ i, i ≤ ws.length → (DA ws u i).length = gN ws i
 | 0,_=>rfl
 | i + 1,hi=>by
  have h1:=pA (h (ws.getD i 0) (getD_in om))
  rw [DA,List.length_append,BY h i om,FE,gN,h1]
theorem BZ{ws : List Int}{u : U3}(h : ∀ w ∈ ws, dk w){j k : Nat}(hk : k < (ws.getD j 0).toNat) : ∀ i, j < i → i ≤ ws.length → (DA ws u i).getD (gN ws j + k) false = (gA (ws.getD j 0) (u.get j)).testBit k
 | 0,h0,_=>by omega
 | i + 1,hj,hi=>by
  have hl:=BY (u:=u) h i om
  rw [DA]
  rcases Nat.lt_or_ge j i with h1 | h1
  ·have hm:=p9 (ws:=ws) (i:=j + 1) (j:=i) om
   simp only [gN] at hm
   rw [List.getD_eq_getElem?_getD,List.getElem?_append_left om,<- List.getD_eq_getElem?_getD]
   exact BZ h hk i h1 om
  ·obtain rfl:j = i:=by omega
   have QF:=pA (h (ws.getD j 0) (getD_in om))
   rw [List.getD_eq_getElem?_getD,List.getElem?_append_right om,hl,show gN ws j + k - gN ws j = k by omega,<- List.getD_eq_getElem?_getD]
   exact KQ om
theorem Io{ws:List Int}{u:U3}(h:∀ w ∈ ws,dk w){j:Nat}(hj:j < ws.length):CT (gN ws j) (ws.getD j 0).toNat (DA ws u ws.length) = gA (ws.getD j 0) (u.get j):=by
 have QF:=pA (h (ws.getD j 0) (getD_in hj))
 have gP:=tu (ws.getD j 0) (u.get j)
 rw [QF] at gP
 exact FD gP fun k hk=>(BZ h hk ws.length hj (Nat.le_refl _)).symm
def OY(op width:Int)(ws:List Int)(a:List Nat):Nat:=rU op (ws.getD 0 0).toNat width.toNat (a.getD 0 0) (a.getD 1 0) (a.getD 2 0)
theorem Ip{op:Int}{w width x y z z':Nat}(h:(2 <= op /\ op <= 3) \/ (9 <= op /\ op <= 20)):rU op w width x y z = rU op w width x y z':=by
 unfold rU
 simp only [show ¬ op = 21 by omega,if_false]
theorem Iq{op:Int}{w width x y y' z z':Nat}(h:22 <= op /\ op <= 24):rU op w width x y z = rU op w width x y' z':=by
 have:op = 22 \/ op = 23 \/ op = 24:=by omega
 rcases this with rfl | rfl | rfl <;> simp [rU]
theorem nZ.num{op : Int}{ws : List Int}{width : Int}{l : List Gate}{out : List Int}{e : Int}{u : U3}(h : nZ op ws width l out e)(hd : yj op ws width) :
  ∀ j,j < out.length -> (outs l (DA ws u ws.length) l.length).getD (out.getD j 0).toNat false = (OY op width ws (Jy ws u ws.length)).testBit j /\ OY op width ws (Jy ws u ws.length) < 2 ^ width.toNat:=by
 rcases h with ⟨h,_⟩ | ⟨_,h,_⟩ | ⟨_,hc,_,_,_,hr⟩
 ·exact absurd hd.1 h
 ·exact absurd hd.2 h
 ·intro j hj
  have sJ:=hr.len
  have hb:=(hr.bit j om).v (DA ws u ws.length)
  have gP:=hr.lt (DA ws u ws.length)
  unfold val at hb
  rw [hb]
  obtain ⟨hw,vk,h0,hl,hf⟩:=hc
  have so:=uE h0 hl
  have pG:=fun {j:Nat} (hj:j < ws.length)=>Io (u:=u) hw hj
  have e0:=pG (j:=0) om
  rw [show gN ws 0 = 0 from rfl] at e0
  have e1:rU op (ws.getD 0 0).toNat width.toNat (CT 0 (ws.getD 0 0).toNat (DA ws u ws.length)) (CT (gN ws 1) (ws.getD 1 0).toNat (DA ws u ws.length)) (CT (gN ws 2) (ws.getD 2 0).toNat (DA ws u ws.length)) = OY op width ws (Jy ws u ws.length):=by
   unfold OY
   rw [e0,tH om]
   rcases so with ⟨h1,h2⟩ | ⟨h1,h2⟩ | ⟨h1,h2⟩
   ·rw [pG (j:=1) om,tH (j:=1) om]; exact Ip h1
   ·rw [pG (j:=1) om,tH (j:=1) om,pG (j:=2) om,tH (j:=2) om]
   ·exact Iq h1
  rw [e1] at gP ⊢
  exact ⟨rfl,gP⟩
theorem nZ.small{op : Int}{ws : List Int}{width : Int}{l : List Gate}{out : List Int}{e : Int}{u : U3}(h : nZ op ws width l out e)(hd : yj op ws width)(ho : (out.length : Int) = width) :
  OY op width ws (Jy ws u ws.length) < 18446744073709551616:=by
 have hw:=hd.2.2.1
 unfold dk at hw
 have h1:=(h.num (u:=u) hd 0 om).2
 have h2:=jB width.toNat om
 omega
open Go Go.AW Go.Proofs
end Go.Proofs.Ytlimckldnjmabaa
namespace Go.Proofs.Ytlimckldnjmabaa
open Go Go.AW
def xj(n:ae)(k:Nat)(kn:List Bool):Prop:=∀ w:Int,In w n.aa.length -> (kn.getD w.toNat false = true ↔ ∃ j,cX n j w /\ j < k /\ ¬ cU (n.cell j).kind)
theorem xj.init(n:ae):xj n 0 (List.replicate n.aa.length false):=by
 intro w hw
 unfold In at hw
 rw [List.getD_eq_getElem?_getD,List.getElem?_replicate,if_pos om]
 exact ⟨fun h=>(by cases h),fun ⟨j,h1,h2,_⟩=>(by have:=h1.1; omega)⟩
theorem xj.skip{n:ae}{k:Nat}{l:List Bool}(h:xj n k l)(hc:cU (n.cells.getD k default).kind \/ (n.cells.getD k default).kind = 7):xj n (k + 1) l:=by
 intro w hw
 rw [h w hw]
 constructor
 ·rintro ⟨j,h1,h2,h3⟩; exact ⟨j,h1,om,h3⟩
 ·rintro ⟨j,h1,h2,h3⟩
  refine ⟨j,h1,?_,h3⟩
  rcases Int.lt_or_eq_of_le (show j <= k by omega) with h' | h'
  ·exact h'
  ·subst h'
   rcases hc with hc | hc
   ·exact absurd hc h3
   ·exact absurd hc h1.2.1
theorem xj.step{n : ae}{k : Nat}{l : List Bool}(h : xj n k l)(hk : k < n.cells.length)(hl : l.length = n.aa.length)(hc : ¬ cU (n.cells.getD k default).kind)(h7 : (n.cells.getD k default).kind ≠ 7)(ho : In (n.cells.getD k default).out n.aa.length) :
  xj n (k + 1) (l.set (n.cells.getD k default).out.toNat true):=by
 intro w hw
 unfold In at ho
 have qU:=hw
 unfold In at qU
 rw [bP]
 by_cases e:(n.cells.getD k default).out = w
 ·rw [if_pos ⟨om,om⟩]
  exact ⟨fun _=>⟨(k:Int),⟨⟨om,om⟩,h7,e⟩,om,hc⟩,fun _=>rfl⟩
 ·rw [if_neg om,h w hw]
  constructor
  ·rintro ⟨j,h1,h2,h3⟩; exact ⟨j,h1,om,h3⟩
  ·rintro ⟨j,h1,h2,h3⟩
   refine ⟨j,h1,?_,h3⟩
   rcases Int.lt_or_eq_of_le (show j <= k by omega) with h' | h'
   ·exact h'
   ·subst h'; exact absurd h1.2.2 e
structure LD(n:ae)(done:List Int)(kn:List Bool)(left:Int):Prop where
 nd:done.Nodup
 cm:∀ x ∈ done,bC n x
 kn:∀ w,In w n.aa.length -> (kn.getD w.toNat false = true ↔ ¬ Open n done w)
 left:left = (n.cells.length:Int) - ((gC n n.cells.length).length:Int) - (done.length:Int)
 oe:∀ p i s,done = p ++ i :: s -> eu n p i = 0
section
variable {n:ae} (hf:bx n)
include hf
theorem LD.init{kn:List Bool}(h:xj n n.cells.length kn):LD n [] kn ((n.cells.length:Int) - ((gC n n.cells.length).length:Int)) where
 nd:=List.nodup_nil
 cm:=fun _ h=>(by cases h)
 kn:=fun w hw=>by
  rw [h w hw]
  constructor
  ·rintro ⟨j,h1,h2,h3⟩ ⟨⟨i,hi,e⟩,_⟩
   have:=hf.unique h1 (e ▸ hi.jZ)
   subst this; exact h3 hi.2
  ·intro ho
   obtain ⟨j,hj⟩:=hf.sj hw
   refine ⟨j,hj,by have:=hj.1; omega,fun hc=>ho ⟨⟨j,⟨hj.1,hc⟩,hj.2.2⟩,fun _ h=>(by cases h)⟩⟩
 left:=by simp
 oe:=fun p i s h=>by simp at h
theorem LD.step{done : List Int}{kn : List Bool}{left i : Int}(h : LD n done kn left)(hl : kn.length = n.aa.length)(hi : bC n i)(hk : kn.getD (n.cell i).out.toNat false = false)(hz : eu n done i = 0) :
  LD n (done ++ [i]) (kn.set (n.cell i).out.toNat true) (left - 1):=by
 have It:=hf.iQ hi.jZ
 have Kj:Open n done (n.cell i).out:=Classical.byContradiction fun hh=>by
  have:=(h.kn _ It).2 hh
  rw [hk] at this; cases this
 have NJ:i ∉ done:=fun hm=>Kj.2 i hm rfl
 refine ⟨?_,fun x hx=>?_,fun w hw=>?_,?_,fun p j s e=>?_⟩
 ·rw [List.nodup_append]
  exact ⟨h.nd,by simp,fun a ha b hb e=>NJ (by rw [<- List.mem_singleton.1 hb,<- e]; exact ha)⟩
 ·rcases List.mem_append.1 hx with hx | hx
  ·exact h.cm x hx
  ·rw [List.mem_singleton.1 hx]; exact hi
 ·unfold In at It
  have qU:=hw
  unfold In at qU
  have ho:Open n (done ++ [i]) w ↔ Open n done w /\ (n.cell i).out ≠ w:=by
   constructor
   ·rintro ⟨a,b⟩
    exact ⟨⟨a,fun j hj=>b j (by simp [hj])⟩,b i (by simp)⟩
   ·rintro ⟨⟨a,b⟩,c⟩
    refine ⟨a,fun j hj=>?_⟩
    rcases List.mem_append.1 hj with hj | hj
    ·exact b j hj
    ·rw [List.mem_singleton.1 hj]; exact c
  rw [bP,ho]
  by_cases e:(n.cell i).out = w
  ·rw [if_pos ⟨om,om⟩]
   exact ⟨fun _ h=>h.2 e,fun _=>rfl⟩
  ·rw [if_neg om,h.kn w hw]
   exact ⟨fun h1 h2=>h1 h2.1,fun h1 h2=>h1 ⟨h2,e⟩⟩
 ·rw [h.left,List.length_append]; simp; omega
 ·rcases List.eq_nil_or_concat s with rfl | ⟨s',x,rfl⟩
  ·obtain ⟨rfl,e3⟩:=List.append_inj' (t₁:=[i]) (t₂:=[j]) e rfl
   cases e3
   exact hz
  ·have e2:=List.append_inj' (s₁:=done) (s₂:=p ++ j :: s') (t₁:=[i]) (t₂:=[x]) (by rw [e]; simp) rfl
   exact h.oe p j s' e2.1
theorem LD.known{done:List Int}{kn:List Bool}{left:Int}(h:LD n done kn left){i:Int}(hi:0 <= i /\ i < n.cells.length):(∀ x ∈ (n.cell i).args,kn.getD x.toNat false = true) ↔ eu n done i = 0:=by
 unfold eu
 rw [List.countP_eq_zero]
 constructor
 ·intro hh x hx ho
  exact (h.kn x (hf.um hi hx)).1 (hh x hx) (of_decide_eq_true ho)
 ·intro hh x hx
  exact (h.kn x (hf.um hi hx)).2 (fun ho=>hh x hx (decide_eq_true ho))
def Cb(n:ae)(k:Int)(done:List Int):Prop:=∀ i,bC n i -> i < k -> Open n done (n.cell i).out -> eu n done i ≠ 0
theorem LD.ki{done:List Int}{kn:List Bool}{left:Int}(h:LD n done kn left)(hs:Cb n n.cells.length done):KI n done [] ((List.range n.cells.length).map (fun (i:Nat)=>(eu n done (i:Int):Int))) where
 nd:=by simpa using h.nd
 cm:=fun x hx=>h.cm x (by simpa using hx)
 mW:=fun i hi=>by
  have hb:=hi.1
  rw [List.getD_eq_getElem?_getD,List.getElem?_map,List.getElem?_range om]
  simp only [Option.map_some,Option.getD_some]
  rw [show (i.toNat:Int) = i by omega]
 full:=fun i hi=>by
  rw [List.append_nil]
  constructor
  ·intro hm
   obtain ⟨p,s,e⟩:=List.append_of_mem hm
   have:=h.oe p i s e
   rw [pt] at this ⊢
   intro x hx hc
   obtain ⟨j,hj,e2⟩:=this x hx hc
   exact ⟨j,by rw [e]; simp [hj],e2⟩
  ·intro hz
   refine Classical.byContradiction fun hn=>hs i hi hi.1.2 ⟨⟨i,hi,rfl⟩,fun j hj e=>hn ?_⟩ hz
   have:=hf.unique (h.cm j hj).jZ (e ▸ hi.jZ)
   exact this ▸ hj
 oe:=h.oe
theorem LD.res{done:List Int}{kn:List Bool}{left:Int}(h:LD n done kn left)(hs:Cb n n.cells.length done):0 < left ↔ ¬ Acyclic n:=by
 have hk:=h.ki hf hs
 have hl:=h.left
 constructor
 ·intro h0
  exact hk.IZ (by rw [List.length_append]; omega)
 ·intro ha
  refine Classical.byContradiction fun h0=>ha (hk.ok hf (by rw [List.length_append]; omega)).1
end
theorem LD.pos{n:ae}{done:List Int}{kn:List Bool}{left:Int}(h:LD n done kn left):0 <= left /\ left <= n.cells.length:=by
 have jR:(gC n n.cells.length ++ done).Nodup:=by
  rw [List.nodup_append]
  refine ⟨uo _ _,h.nd,fun a ha b hb e=>?_⟩
  subst e
  exact (kG.1 ha).2 (h.cm a hb).2
 have:=length_le_of_subset (m:=(List.range n.cells.length).map (fun (i:Nat)=>(i:Int))) jR (fun x hx=>by
  have j2:0 <= x /\ x < n.cells.length:=by
   rcases List.mem_append.1 hx with hx | hx
   ·exact (kG.1 hx).1
   ·exact (h.cm x hx).1
  exact List.mem_map.2 ⟨x.toNat,List.mem_range.2 om,om⟩)
 rw [List.length_append,List.length_map,List.length_range] at this
 have hl:=h.left
 omega
def pL(n:ae)(k lO:Int)(kn:List Bool)(left:Int)(more:Bool):Prop:=∃ done,LD n done kn left /\ left <= lO /\ (more = true -> left < lO) /\ (more = false -> Cb n k done)
theorem pL.seq{n:ae}{k:Nat}{lO left:Int}{kn:List Bool}{more:Bool}(h:pL n k lO kn left more)(hc:¬ cU (n.cells.getD k default).kind):pL n ((k + 1:Nat):Int) lO kn left more:=by
 obtain ⟨done,h1,h2,h3,h4⟩:=h
 refine ⟨done,h1,h2,h3,fun hm i hi h0=>h4 hm i hi (nE hc hi h0)⟩
section
variable {n:ae} (hf:bx n) {k:Nat} {lO left:Int} {kn:List Bool} {more:Bool}
include hf
theorem pL.skip(h:pL n k lO kn left more)(hk:k < n.cells.length)(hc:kn.getD (n.cells.getD k default).out.toNat false = true \/ ¬ ∀ x ∈ (n.cells.getD k default).args,kn.getD x.toNat false = true)(xK:cU (n.cells.getD k default).kind):pL n ((k + 1:Nat):Int) lO kn left more:=by
 obtain ⟨done,h1,h2,h3,h4⟩:=h
 have hi:bC n (k:Int):=⟨⟨om,om⟩,xK⟩
 refine ⟨done,h1,h2,h3,fun hm i XE h0=>?_⟩
 by_cases e:i = k
 ·subst e
  intro ho hz
  rcases hc with hc | hc
  ·exact (h1.kn _ (hf.iQ hi.jZ)).1 hc ho
  ·exact hc ((h1.known hf hi.1).2 hz)
 ·exact h4 hm i XE om
theorem pL.step(h : pL n k lO kn left more)(hk : k < n.cells.length)(hl : kn.length = n.aa.length)(h1 : kn.getD (n.cells.getD k default).out.toNat false = false)(h2 : ∀ x ∈ (n.cells.getD k default).args, kn.getD x.toNat false = true)(xK : cU (n.cells.getD k default).kind) :
  pL n ((k + 1:Nat):Int) lO (kn.set (n.cells.getD k default).out.toNat true) (left - 1) true:=by
 obtain ⟨done,a1,a2,a3,a4⟩:=h
 have hi:bC n (k:Int):=⟨⟨om,om⟩,xK⟩
 refine ⟨done ++ [(k:Int)],a1.step hf hl hi h1 ((a1.known hf hi.1).1 h2),om,fun _=>by omega,fun h=>(by cases h)⟩
end
theorem xj.next{n : ae}(hf : bx n){k : Nat}{kn : List Bool}(h : xj n k kn)(hk : k < n.cells.length)(hl : kn.length = n.aa.length) :
  (¬ cU (n.cells.getD k default).kind -> 0 <= (n.cells.getD k default).out -> xj n (k + 1) (kn.set (n.cells.getD k default).out.toNat true)) /\ (cU (n.cells.getD k default).kind -> xj n (k + 1) kn /\ 0 <= (n.cells.getD k default).out) /\
  (¬ 0 <= (n.cells.getD k default).out -> xj n (k + 1) kn) /\ (0 <= (n.cells.getD k default).out -> (n.cells.getD k default).out < n.aa.length):=by
 obtain ⟨_,_,a3,a4⟩:=hf.cells k hk
 refine ⟨fun hc ho=>?_,fun hc=>⟨h.skip (.inl hc),?_⟩,fun ho=>?_,fun ho=>?_⟩
 ·have h7:(n.cells.getD k default).kind ≠ 7:=fun h7=>by have:=a3 h7; omega
  exact h.step hk hl hc h7 (a4 h7)
 ·have h7:(n.cells.getD k default).kind ≠ 7:=fun h7=>by rw [h7] at hc; revert hc; unfold cU; omega
  exact (a4 h7).1
 ·have h7:(n.cells.getD k default).kind = 7:=Classical.byContradiction fun h7=>ho (a4 h7).1
  exact h.skip (.inr h7)
 ·have h7:(n.cells.getD k default).kind ≠ 7:=fun h7=>by have:=a3 h7; omega
  exact (a4 h7).2
theorem CW(n:ae)(k:Nat):(cU (n.cells.getD k default).kind -> (gC n (k + 1)).length = (gC n k).length) /\ (¬ cU (n.cells.getD k default).kind -> (gC n (k + 1)).length = (gC n k).length + 1):=by
 rw [sm]
 exact ⟨fun h=>by rw [if_pos h,List.append_nil],fun h=>by rw [if_neg h,List.length_append]; rfl⟩
theorem pL.mu{n:ae}(hf:bx n){k lO left:Int}{kn:List Bool}{more J4:Bool}(h:pL n k lO kn left more)(hm:J4 = true):2 * left.toNat + more.toNat < 2 * lO.toNat + J4.toNat:=by
 obtain ⟨done,b1,b2,b3,b4⟩:=h
 have hp:=b1.pos
 subst hm
 cases more
 ·simp only [Bool.toNat_false,Bool.toNat_true]; omega
 ·have:=b3 rfl
  simp only [Bool.toNat_true]; omega
theorem pL.bd{n:ae}(hf:bx n){k lO left:Int}{kn:List Bool}{more:Bool}(h:pL n k lO kn left more):0 <= left /\ left <= n.cells.length:=by
 obtain ⟨done,b1,b2,b3,b4⟩:=h
 exact b1.pos
open Go Go.AW
end Go.Proofs.Ytlimckldnjmabaa
namespace Go.Proofs.Ytlimckldnjmabaa
open Go Go.AW Go.Proofs
theorem mZ{op w:Int}{a:List Int}(h1:1 <= a.length)(h2:op < 22 \/ 24 < op -> 2 <= a.length)(h3:op = 21 -> 3 <= a.length)(ha:a.length <= 17592186043904):aw Try.prog 91 [vi op,.fz 1 (a.map ah),vi w] [] [] (fun r o=>r = .v (.bool (decide (bR op (a.getD 0 0) (a.getD 1 0) (a.getD 2 0) w))) /\ o = []):=by
 refine aw.of Try.func91 U U U (n:=70) ab (aH U) (.sr (.an ?_))
 refine .nil (.seq (.block (.sr (.mv ?_))))
 refine .vl (Y.ql U U) (.an (.nil ?_))
 refine .aB U (fun c7=>?_) (fun c7=>?_)
 refine .sr (.mv ?_)
 refine .vl (Y.qr (m:=0) a7 U U aY (ao (d:=0) (by first | omega | (unfold Unary eY at *; omega)))) (.ld bg ?_)
 refine .vl (Y.ql U U) (.mv ?_)
 refine .a8 (d:=14) U (fun Ag=>?_) (fun Ag=>?_)
 refine .gw 14 (Y.zf U U) (.gw 14 (Y.qr (m:=1) a7 U U aY (ao (d:=0) (by first | omega | (unfold Unary eY at *; omega)))) (.gw 14 (Y.qz bg U U U U) (.gw 14 (Y.zf U U) (.gw 14 (Y.ql U U) (.pk ?_)))))
 refine .mv ?_
 refine .a8 (d:=21) U (fun Af=>?_) (fun Af=>?_)
 refine .gw 21 (Y.zf U U) (.gw 21 (Y.qr (m:=2) a7 U U aY (ao (d:=0) (by first | omega | (unfold Unary eY at *; omega)))) (.gw 21 (Y.qz bg U U U U) (.gw 21 (Y.zf U U) (.gw 21 (Y.ql U U) (.pk ?_)))))
 refine .an (.nil (.ret ?_))
 exact .rb rfl (dd (by unfold bR eY; (try unfold Unary at *); (try unfold eY at *); (first | omega | grind)))
 refine .gz 21 (.gz 21 (.gz 21 (.gz 21 (.gz 21 (.pk ?_)))))
 refine .an (.nil (.ret ?_))
 exact .rb rfl (df (by unfold bR eY; (try unfold Unary at *); (try unfold eY at *); (first | omega | grind)))
 refine .gz 14 (.gz 14 (.gz 14 (.gz 14 (.gz 14 (.pk ?_)))))
 refine .mv ?_
 refine .gz 21 (.gz 21 (.gz 21 (.gz 21 (.gz 21 (.pk ?_)))))
 refine .an (.nil (.ret ?_))
 exact .rb rfl (df (by unfold bR eY; (try unfold Unary at *); (try unfold eY at *); (first | omega | grind)))
 refine .sr (.mv ?_)
 refine .vl (Y.ql U U) (.an (.nil ?_))
 refine .aB U (fun xW=>?_) (fun xW=>?_)
 refine .sr (.mv ?_)
 refine .vl (Y.qr (m:=0) a7 U U aY (ao (d:=0) (by first | omega | (unfold Unary eY at *; omega)))) (.ld bg ?_)
 refine .mv ?_
 refine .vl (Y.qp U U) (.an (.nil (.ret ?_)))
 exact .rb rfl (dd (by unfold bR eY; (try unfold Unary at *); (try unfold eY at *); (first | omega | grind)))
 refine .sr (.mv ?_)
 refine .aR wF (g5 (w:=op)) U (.ai U U .nil) ab U ?_
 refine .an (.nil ?_)
 refine .aB U (fun vm=>?_) (fun vm=>?_)
 refine .sr (.mv ?_)
 refine .vl (Y.qr (m:=0) a7 U U aY (ao (d:=0) (by first | omega | (unfold Unary eY at *; omega)))) (.ld bg ?_)
 refine .mv ?_
 refine .vl (Y.qy U U) (.an (.nil (.ret ?_)))
 exact .rb rfl (dd (by unfold bR eY; (try unfold Unary at *); (try unfold eY at *); (first | omega | grind)))
 refine .sr (.mv ?_)
 refine .aR Ox (mo (w:=op)) U (.ai U U .nil) ab U ?_
 refine .an (.nil ?_)
 refine .aB U (fun KW=>?_) (fun KW=>?_)
 refine .seq (.j9 U au (.val (Y.zf U U) ab (.val (Y.qr (m:=0) a7 U U aY (ao (d:=0) (by first | omega | (unfold Unary eY at *; omega)))) ab (.val (Y.qz bg U U U U) ab (.val (Y.zf U U) ab (.val (Y.qr (m:=1) a7 U U aY (ao (d:=0) (by first | omega | (unfold Unary eY at *; omega)))) ab (.val (Y.qz bg U U U U) ab (.val (Y.ql U U) ab (.val (Y.zf U U) ab (.a8 (d:=54) U (fun DB=>?_) (fun DB=>?_)))))))))))
 refine .aC (d:=54) U ab U (.val (Y.zf U U) ab (.aC (d:=54) U ab U ?_))
 exact .val (Y.ql U U) ab (.val (Y.zm U U U) ab (.val (Y.qf U U) ab (.nil (.ret (.rb rfl (dd (by unfold bR eY; (try unfold Unary at *); (try unfold eY at *); (first | omega | grind))))))))
 exact .ay (d:=54) U ab ab U U (.ay (d:=54) U ab ab U U (.val (Y.zm U U U) ab (.val (Y.qf U U) ab (.nil (.ret (.rb rfl (df (by unfold bR eY; (try unfold Unary at *); (try unfold eY at *); (first | omega | grind)))))))))
 refine .skip (.sr (.mv ?_))
 refine .vl (Y.qr (m:=0) a7 U U aY (ao (d:=0) (by first | omega | (unfold Unary eY at *; omega)))) (.ld bg ?_)
 refine .mv ?_
 refine .vl (Y.ql U U) (.mv ?_)
 refine .a8 (d:=63) U (fun yU=>?_) (fun yU=>?_)
 refine .gw 63 (Y.zf U U) (.gw 63 (Y.qr (m:=1) a7 U U aY (ao (d:=0) (by first | omega | (unfold Unary eY at *; omega)))) (.gw 63 (Y.qz bg U U U U) (.gw 63 (Y.zf U U) (.gw 63 (Y.ql U U) (.pk ?_)))))
 refine .an (.nil (.ret ?_))
 exact .rb rfl (dd (by unfold bR eY; (try unfold Unary at *); (try unfold eY at *); (first | omega | grind)))
 refine .gz 63 (.gz 63 (.gz 63 (.gz 63 (.gz 63 (.pk ?_)))))
 refine .an (.nil (.ret ?_))
 exact .rb rfl (df (by unfold bR eY; (try unfold Unary at *); (try unfold eY at *); (first | omega | grind)))
theorem yq{n:ae}{op out mem:Int}{args:List Int}{num:Nat}(hs:n.Small)(hc:args.length <= 17592186043904)(hn:num < 18446744073709551616){kind:Int}(s7:Shaped n (⟨kind,op,out,args,num,mem⟩:Cell))(hw:vJ n (⟨kind,op,out,args,num,mem⟩:Cell)):aw Try.prog 113 [.agg (ae.row n),.agg [vi kind,vi op,vi out,.fz 1 (args.map ah),.v (.int .u64 (num:Int)),vi mem]] [] [] (fun r o=>r = .v (.bool (decide (Fits n (⟨kind,op,out,args,num,mem⟩:Cell)))) /\ o = []):=by
 refine aw.of Try.func113 U U U (n:=155) ab (aH U) ?_
 have Iu:=hs.ins; have Iv:=hs.aD; have J5:=hs.streams; have Pk:=hs.aa; have XF:=s7.kind; simp only at XF
 refine .sr (.box 102 U U U U U ab (.box 103 U U U U U ab ?_))
 refine .an (.nil (.sr ?_))
 refine .an ?_
 refine .sh (Sh.nil (d:=5) 105 1 U ab) (.nil (.seq (.sr (.an (.nil (.block ?_))))))
 refine .gT (fun (kf:Nat) (nL:List Int)=>⟨[(2,.ptr 102 0 0 0),(3,.ptr 103 0 0 0),(5,.aN 105 1 0 nL.length),(6,vi kf)],[(102,.cells (ae.row n)),(103,.cells [vi kind,vi op,vi out,.fz 1 (args.map ah),.v (.int .u64 (num:Int)),vi mem]),(105,.rows 1 (nL.map ah))]⟩) (fun kf nL=>((kf:Int) <= (args.length:Int)) /\ (nL.length = kf) /\ (∀ j,j < kf -> nL.getD j 0 = n.av (⟨kind,op,out,args,num,mem⟩:Cell) j)) (fun kf nL=>((args.length:Int) - (kf:Int)).toNat) 0 ([]:List Int) (⟨pP,U,fun j hj=>by omega⟩) (Le.mk (.c2 (.cons (aM U aJ) (.cons (ak U aY) .nil))) (.c2 (.c .nil))) (fun kf nL pK=>?_)
 obtain ⟨CL,so,ha⟩:=pK
 refine .seq (.sr (.mv ?_))
 refine .fa bT ?_
 refine .ld bn ?_
 refine .vl (Y.qw (n:=args.length) a7 U dY) (.vl (Y.zb U U) (.nil (.aB U (fun yV=>?_) (fun yV=>?_))))
 refine .skip (.seq (.block ?_))
 have VA:=hw.arg (k:=kf) (by show _ < args.length; omega)
 simp only at VA
 refine .de U (.blind 0 U au (ax.move U U) ab (.br (n:=3) [1,2,3,4,5,6,7,8,9] [10,11,12] 10 U au ?_))
 refine .cn 1 U (Y.qo bB U U) (.cn 2 U (Y.qz bn U U U U) (.cn 3 U (Y.qo bT U U) (.cn 4 U (Y.qz bn U U U U) (.cn 5 U (Y.zf U U) (.cn 6 U (Y.qr (m:=kf) a7 U U aY (ao (d:=0) om)) (.cn 7 U (Y.qz bg U U U U) (.cn 8 U (Y.qr (m:=(args.getD kf 0).toNat) a7 U U om (ao (d:=0) om)) (.cn 9 U (Y.qz bg U U U U) (.nil (.one 10 U au (.buildSlice (([n.aa.getD ((args.getD kf 0).toNat) 0]:List Int).map ah) a7 dG U U U U U (aq (s:=1) (f:=ah) (fun _=>U)) U U U ab ?_)))))))))))
 refine .nil ⟨U,(.one 11 U au (.cJ ah (nL ++ ([n.aa.getD ((args.getD kf 0).toNat) 0]:List Int)) a7 dG U U U U (bh aJ) (aV aJ) (b8 aJ) aJ aJ ab ab ?_))⟩
 refine .nil ⟨U,(.br (n:=0) [12] [] 0 U au (.cn 12 U (Y.qf U U) (.nil (.done au (.region (.mv ?_))))))⟩
 refine .vl (Y.qb U U aJ) (.an ?_)
 refine .nil (⟨kf + 1,nL ++ ([n.aa.getD ((args.getD kf 0).toNat) 0]:List Int),⟨om,by rw [List.length_append,so]; rfl,CU so ha U⟩,om,Le.mk (.c2 (.cons (aM U om) (.cons (ak U aY) .nil))) (.c2 (.c .nil))⟩)
 refine .exit (.seq (.seq ?_))
 have SL:0 < args.length -> nL.getD 0 0 = n.av (⟨kind,op,out,args,num,mem⟩:Cell) 0:=fun h=>ha 0 om
 have KX:1 < args.length -> nL.getD 1 0 = n.av (⟨kind,op,out,args,num,mem⟩:Cell) 1:=fun h=>ha 1 om
 have VB:2 < args.length -> nL.getD 2 0 = n.av (⟨kind,op,out,args,num,mem⟩:Cell) 2:=fun h=>ha 2 om
 refine .region (.fa ck ?_)
 refine .ld bg ?_
 refine .vl (Y.ql U U) (.nil (.aB U (fun qW=>?_) (fun qW=>?_)))
 have hk:=s7.k7 qW; simp only at hk
 refine .seq (.j9 U au (.val (Y.zf U U) ab (.val (Y.qs (m:=0) a7 U U aY om) ab (.val (Y.qz bg U (aO (d:=0) om) U U) ab (.val (Y.ql U U) ab (.val (Y.zf U U) ab (.a8 (d:=35) U (fun uz=>?_) (fun uz=>?_))))))))
 refine .aC (d:=35) U ab U (.val (Y.zf U U) ab (.aC (d:=35) U ab U ?_))
 refine .val (Y.qs (m:=2) a7 U U aY om) ab (.aC (d:=35) U ab U (.val (Y.qz bg U (aO (d:=0) om) U U) ab (.aC (d:=35) U ab U (.val (Y.qo eK U U) ab (.aC (d:=35) U ab U ?_)))))
 refine .val (Y.qz ln U U U U) ab (.aC (d:=35) U ab U (.val (Y.qo bY U U) ab (.aC (d:=35) U ab U (.val (Y.qz bg U U U U) ab (.aC (d:=35) U ab U ?_)))))
 refine .val (Y.qr (m:=(mem).toNat) jE U U om (ao (d:=default) om)) ab (.aC (d:=35) U ab U (.val (Y.qo mc U U) ab (.aC (d:=35) U ab U ?_)))
 refine .val (Y.qz bg U U U U) ab (.aC (d:=35) U ab U (.val (Y.ql U U) ab (.val (Y.zm U U U) ab (.val (Y.qf U U) ab (.nil ?_)))))
 refine .ret (.rb U (dd (by subst_vars; simp only [Fits,bR,eY,gK,Int.reduceEq,Bool.not_eq_true,false_and,true_and,and_true,and_false,or_false,false_or,ne_eq] <;> (first | omega | grind))))
 refine .ay (d:=35) U ab ab U U (.ay (d:=35) U ab ab U U (.ay (d:=35) U ab ab U U ?_))
 refine .ay (d:=35) U ab ab U U (.ay (d:=35) U ab ab U U (.ay (d:=35) U ab ab U U ?_))
 refine .ay (d:=35) U ab ab U U (.ay (d:=35) U ab ab U U (.ay (d:=35) U ab ab U U ?_))
 refine .ay (d:=35) U ab ab U U (.ay (d:=35) U ab ab U U (.val (Y.zm U U U) ab (.val (Y.qf U U) ab (.nil (.ret ?_)))))
 exact .rb rfl (df (by subst_vars; simp only [Fits,bR,eY,gK,Int.reduceEq,Bool.not_eq_true,false_and,true_and,and_true,and_false,or_false,false_or,ne_eq] <;> (first | omega | grind)))
 have ho:0 <= out /\ out < n.aa.length:=by have:=hw.out; simp only at this; omega
 have z4:n.ow (⟨kind,op,out,args,num,mem⟩:Cell) = n.aa.getD out.toNat 0:=OT ho.1
 refine .skip (.sr (.fa bB ?_))
 refine .ld bn ?_
 refine .fa eg ?_
 refine .ld bg ?_
 refine .vl (Y.qr (m:=(out).toNat) a7 U U om (ao (d:=0) om)) (.ld bg ?_)
 refine .an ?_
 refine .nil (.seq (.sr (.fa ck ?_)))
 refine .ld bg ?_
 refine .nil (.block (.sr (.vl (Y.ql U U) (.an (.nil ?_)))))
 refine .aB U (fun KY=>?_) (fun KY=>?_)
 have sJ:=jB (gh (n.aa.getD out.toNat 0)) (by have:=ky (n.aa.getD out.toNat 0); omega)
 refine .seq (.de U (.blind 0 U au (ax.fieldAddr dE U U) ab ?_))
 refine .blind 2 U au (ax.move U U) ab ?_
 refine .two 1 3 U U au ?_ ?_
 refine .ld fV ?_
 refine .nil ⟨U,(.one 3 U au (.aR Hw (pz (w:=(n.aa.getD ((out).toNat) 0))) U (.ai U U .nil) ab U ?_))⟩
 refine .nil ⟨U,(.br (n:=0) [4,5] [] 0 U au (.cn 4 U (Y.qy U U) (.cn 5 U (Y.qf U U) (.nil (.done au (.ret ?_))))))⟩
 exact .rb rfl (dd (by subst_vars; simp only [Fits,bR,eY,gK,z4,Int.reduceEq,Bool.not_eq_true,false_and,true_and,and_true,and_false,or_false,false_or,ne_eq] <;> (first | omega | grind)))
 refine .aR Hw (pz (w:=(n.aa.getD ((out).toNat) 0))) U (.ai U U .nil) ab U ?_
 refine .nil ⟨U,(.br (n:=0) [1,4,5] [] 0 U au (.cn 1 U (Y.qz fV U U U U) (.cn 4 U (Y.qy U U) (.cn 5 U (Y.qf U U) (.nil (.done au ?_))))))⟩
 refine .ret (.rb U (dd (by subst_vars; simp only [Fits,bR,eY,gK,z4,Int.reduceEq,Bool.not_eq_true,false_and,true_and,and_true,and_false,or_false,false_or,ne_eq] <;> (first | omega | grind))))
 refine .seq (.sr (.vl (Y.ql U U) (.an (.nil ?_))))
 refine .bt U (fun yU=>?_) (fun yU=>?_)
 refine .skip (.aQ U (.seq ?_))
 have hk:(1 <= args.length /\ (op < 22 \/ 24 < op -> 2 <= args.length) /\ (op = 21 -> 3 <= args.length)):=by (rcases (show kind = 2 \/ kind = 5 by first | omega | grind) with h | h; (have h2:=s7.k2 h; simp only at h2; omega); (have h2:=s7.k5 h; simp only at h2; omega))
 refine .region (.fa cL ?_)
 refine .ld bg ?_
 refine .mv ?_
 refine .mv ?_
 refine .iC [105] O1 (mZ (op:=op) (a:=nL) (w:=(n.aa.getD ((out).toNat) 0)) om (fun _=>by omega) (fun _=>by omega) om) U (.ai U U (.cE U U (bz om) (b5 om) (.ai U U .nil))) (jA U (bj aI)) ab U trivial ?_
 refine .an (.nil (.ret ?_))
 exact .rb rfl (dd ((rI (SL om) (fun _=>KX om) (fun _=>VB om)).trans (by subst_vars; simp only [Fits,z4,Int.reduceEq,Bool.not_eq_true,false_and,true_and,and_true,and_false,or_false,false_or,ne_eq])))
 refine .region (.vl (Y.ql U U) (.an (.nil ?_)))
 refine .bt U (fun yU=>?_) (fun yU=>?_)
 refine .seq ?_
 have hk:(1 <= args.length /\ (op < 22 \/ 24 < op -> 2 <= args.length) /\ (op = 21 -> 3 <= args.length)):=by (rcases (show kind = 2 \/ kind = 5 by first | omega | grind) with h | h; (have h2:=s7.k2 h; simp only at h2; omega); (have h2:=s7.k5 h; simp only at h2; omega))
 refine .region (.fa cL ?_)
 refine .ld bg ?_
 refine .mv ?_
 refine .mv ?_
 refine .iC [105] O1 (mZ (op:=op) (a:=nL) (w:=(n.aa.getD ((out).toNat) 0)) om (fun _=>by omega) (fun _=>by omega) om) U (.ai U U (.cE U U (bz om) (b5 om) (.ai U U .nil))) (jA U (bj aI)) ab U trivial ?_
 refine .an (.nil (.ret ?_))
 exact .rb rfl (dd (by subst_vars; have XG:=s7.k5 rfl; simp only at XG; simp only [Fits,bR,eY,gK,z4,Int.reduceEq,Bool.not_eq_true,false_and,true_and,and_true,and_false,or_false,false_or,ne_eq] <;> (first | omega | grind)))
 refine .sr (.vl (Y.ql U U) (.an (.nil ?_)))
 refine .aB U (fun Mm=>?_) (fun Mm=>?_)
 have hk:=s7.k3 Mm; simp only at hk
 refine .sr (.an (.nil (.block ?_)))
 refine .gS (fun (iR:Nat)=>⟨[(5,.aN 105 1 0 nL.length),(7,vi (n.aa.getD ((out).toNat) 0)),(8,vi iR)],[(105,.rows 1 (nL.map ah))]⟩) (fun iR=>((iR:Int) <= (nL.length:Int)) /\ (iR % 2 = 0) /\ (∀ k,k < iR -> fo n (⟨kind,op,out,args,num,mem⟩:Cell) k)) (fun iR=>((nL.length:Int) - (iR:Int)).toNat) 0 (⟨om,U,fun k hk=>by omega⟩) (Le.mk (.c2 (.cons (ak U aY) .nil)) (.c .nil)) (fun iR KZ=>?_)
 obtain ⟨SM,hp,hm⟩:=KZ
 refine .seq (.sr (.mv ?_))
 refine .mv ?_
 refine .vl (Y.qw (n:=nL.length) a7 U U) (.vl (Y.zb U U) (.nil (.aB U (fun FH=>?_) (fun FH=>?_))))
 refine .skip (.seq (.block (.sr (.mv ?_))))
 refine .mv ?_
 refine .vl (Y.qs (m:=iR) a7 U U aY om) (.vl (Y.qz bg U (aO (d:=0) om) U U) (.vl (Y.zj U U) (.mv ?_)))
 refine .a8 (d:=84) U (fun SN=>?_) (fun SN=>?_)
 refine .gz 84 (.gz 84 (.gz 84 (.gz 84 (.gz 84 (.gz 84 (.gz 84 (.pk ?_)))))))
 refine .nil (.aQ U (.sr (.an (.nil (.ret ?_)))))
 exact .rb rfl (df (fun h=>by subst_vars; simp only [Fits,Int.reduceEq,Bool.not_eq_true,false_and,true_and,and_true,and_false,or_false,false_or,ne_eq] at h; have h1:=h iR (by show _ < args.length; omega); have h2:=h (iR + 1) (by show _ < args.length; omega); have h3:=ha iR om; have h4:=ha (iR + 1) om; unfold fo at h1 h2; omega))
 refine .gw 84 (Y.zf U U) (.gw 84 (Y.zf U U) (.gw 84 (Y.qb U U om) (.gw 84 (Y.qs (m:=iR + 1) a7 U U aY om) (.gw 84 (Y.qz bg U (aO (d:=0) om) U U) (.gw 84 (Y.zf U U) (.gw 84 (Y.zj U U) (.pk ?_)))))))
 refine .nil (.aB U (fun J6=>?_) (fun J6=>?_))
 refine .sr (.an (.nil (.ret ?_)))
 exact .rb rfl (df (fun h=>by subst_vars; simp only [Fits,Int.reduceEq,Bool.not_eq_true,false_and,true_and,and_true,and_false,or_false,false_or,ne_eq] at h; have h1:=h iR (by show _ < args.length; omega); have h2:=h (iR + 1) (by show _ < args.length; omega); have h3:=ha iR om; have h4:=ha (iR + 1) om; unfold fo at h1 h2; omega))
 refine .skip (.region (.mv ?_))
 refine .vl (Y.qb U U aJ) (.an ?_)
 refine .nil (⟨iR + 2,⟨om,om,Ii hm (by have h2:=ha iR om; unfold fo; omega) (by have h2:=ha (iR + 1) om; unfold fo; omega)⟩,om,Le.mk (.c2 (.cons (ak U aY) .nil)) (.c .nil)⟩)
 refine .exit (.sr (.an (.nil (.ret ?_))))
 exact .rb rfl (dt (by subst_vars; simp only [Fits,Int.reduceEq,Bool.not_eq_true,false_and,true_and,and_true,and_false,or_false,false_or,ne_eq]; exact fun k hk=>hm k (by have:k < args.length:=hk; omega)))
 refine .sr (.vl (Y.ql U U) (.an (.nil ?_)))
 refine .aB U (fun yW=>?_) (fun yW=>?_)
 have hk:=s7.k4 yW; simp only at hk
 refine .seq (.de U (.blind 0 U au (ax.move U U) ab ?_))
 refine .one 1 U au (.vl (Y.qs (m:=0) a7 U U aY aJ) (.nil ⟨U,(.one 2 U au (.vl (Y.qz bg U (aO (d:=0) om) U U) (.nil ⟨U,(.one 3 U au (.vl (Y.ql U U) (.nil ⟨U,(.blind 4 U au (ax.move U U) ab ?_)⟩)))⟩)))⟩))
 refine .a8 (d:=99) U (fun SO=>?_) (fun SO=>?_)
 refine .gV 5 U au U ab U (ax.move U U) ab (.gV 8 U au U ab U (ax.move U U) ab (.one 6 U au (.gw 99 (Y.qs (m:=1) a7 U U aY om) (.nil ⟨U,(.one 7 U au (.gw 99 (Y.qz bg U (aO (d:=0) om) U U) (.nil ⟨U,(.one 9 U au (.gw 99 (Y.ql U U) (.nil ⟨U,(.one 10 U au (.pk ?_))⟩)))⟩)))⟩))))
 refine .nil ⟨U,(.blind 11 U au (ax.move U U) ab ?_)⟩
 refine .a8 (d:=106) U (fun FI=>?_) (fun FI=>?_)
 refine .gV 12 U au U ab U (ax.fieldAddr dE U U) ab (.gV 14 U au U ab U (ax.move U U) ab ?_)
 refine .two 13 15 U U au ?_ ?_
 refine .gw 106 (Y.qz fV U U U U) (.nil ⟨U,(.one 15 U au (.aC (d:=106) U ab U (.aR Hw (pz (w:=(n.aa.getD ((out).toNat) 0))) U (.ai U U .nil) ab U ?_)))⟩)
 refine .nil ⟨U,(.br (n:=0) [16,17,18] [] 0 U au (.rn 16 U U U (Y.qy U U) (.cn 17 U (Y.zm U U U) (.cn 18 U (Y.qf U U) (.nil (.done au ?_))))))⟩
 refine .ret (.rb U (dd (by subst_vars; simp only [Fits,bR,eY,gK,z4,Int.reduceEq,Bool.not_eq_true,false_and,true_and,and_true,and_false,or_false,false_or,ne_eq] <;> (first | omega | grind))))
 refine .aC (d:=106) U ab U (.aR Hw (pz (w:=(n.aa.getD ((out).toNat) 0))) U (.ai U U .nil) ab U ?_)
 refine .nil ⟨U,(.br (n:=0) [13,16,17,18] [] 0 U au (.rn 13 U U U (Y.qz fV U U U U) (.rn 16 U U U (Y.qy U U) ?_)))⟩
 refine .cn 17 U (Y.zm U U U) (.cn 18 U (Y.qf U U) (.nil (.done au (.ret ?_))))
 exact .rb rfl (dd (by subst_vars; simp only [Fits,bR,eY,gK,z4,Int.reduceEq,Bool.not_eq_true,false_and,true_and,and_true,and_false,or_false,false_or,ne_eq] <;> (first | omega | grind)))
 refine .bw 12 U au U ab ab U U (.bw 13 U au U ab ab U U (.bw 14 U au U ab ab U U ?_))
 refine .bw 15 U au U ab ab U U (.bw 16 U au U ab ab U U (.br (n:=0) [17,18] [] 0 U au ?_))
 refine .cn 17 U (Y.zm U U U) (.cn 18 U (Y.qf U U) (.nil (.done au (.ret ?_))))
 exact .rb rfl (df (by subst_vars; simp only [Fits,bR,eY,gK,z4,Int.reduceEq,Bool.not_eq_true,false_and,true_and,and_true,and_false,or_false,false_or,ne_eq] <;> (first | omega | grind)))
 refine .bw 5 U au U ab ab U U (.bw 6 U au U ab ab U U (.bw 7 U au U ab ab U U ?_))
 refine .bw 8 U au U ab ab U U (.bw 9 U au U ab ab U U (.one 10 U au (.pk ?_)))
 refine .nil ⟨U,(.blind 11 U au (ax.move U U) ab (.bw 12 U au U ab ab U U (.bw 13 U au U ab ab U U ?_)))⟩
 refine .bw 14 U au U ab ab U U (.bw 15 U au U ab ab U U (.bw 16 U au U ab ab U U ?_))
 refine .br (n:=0) [17,18] [] 0 U au (.cn 17 U (Y.zm U U U) (.cn 18 U (Y.qf U U) (.nil (.done au (.ret ?_)))))
 exact .rb rfl (df (by subst_vars; simp only [Fits,bR,eY,gK,z4,Int.reduceEq,Bool.not_eq_true,false_and,true_and,and_true,and_false,or_false,false_or,ne_eq] <;> (first | omega | grind)))
 refine .sr (.vl (Y.ql U U) (.an (.nil ?_)))
 refine .aB U (fun Pm=>?_) (fun Pm=>?_)
 have hk:=s7.k6 Pm; simp only at hk
 refine .sr (.mv ?_)
 refine .vl (Y.qs (m:=0) a7 U U aY aJ) (.vl (Y.qz bg U (aO (d:=0) om) U U) (.vl (Y.ql U U) (.mv ?_)))
 refine .a8 (d:=119) U (fun SP=>?_) (fun SP=>?_)
 refine .gw 119 (Y.zf U U) (.gw 119 (Y.qo eK U U) (.gw 119 (Y.qz ln U U U U) (.gw 119 (Y.qo bY U U) (.gw 119 (Y.qz bg U U U U) (.gw 119 (Y.qr (m:=(mem).toNat) jE U U om (ao (d:=default) om)) (.gw 119 (Y.qo mc U U) (.gw 119 (Y.qz bg U U U U) (.gw 119 (Y.ql U U) (.pk ?_)))))))))
 refine .an (.nil (.ret ?_))
 exact .rb rfl (dd (by subst_vars; simp only [Fits,bR,eY,gK,z4,Int.reduceEq,Bool.not_eq_true,false_and,true_and,and_true,and_false,or_false,false_or,ne_eq] <;> (first | omega | grind)))
 refine .gz 119 (.gz 119 (.gz 119 (.gz 119 (.gz 119 (.gz 119 (.gz 119 (.gz 119 (.gz 119 (.pk ?_)))))))))
 refine .an (.nil (.ret ?_))
 exact .rb rfl (df (by subst_vars; simp only [Fits,bR,eY,gK,z4,Int.reduceEq,Bool.not_eq_true,false_and,true_and,and_true,and_false,or_false,false_or,ne_eq] <;> (first | omega | grind)))
 refine .sr (.vl (Y.ql U U) (.an (.nil ?_)))
 refine .aB U (fun Pn=>?_) (fun Pn=>?_)
 have hk:=s7.k8 Pn; simp only at hk
 refine .sr (.mv ?_)
 refine .fa jf ?_
 refine .ld bn ?_
 refine .fa dE ?_
 refine .ld fV ?_
 refine .vl (Y.qr (m:=num) a7 U U aY (ao (d:=0) om)) (.ld bg ?_)
 refine .vl (Y.ql U U) (.an (.nil (.ret ?_)))
 exact .rb rfl (dd (by subst_vars; simp only [Fits,bR,eY,gK,z4,Int.reduceEq,Bool.not_eq_true,false_and,true_and,and_true,and_false,or_false,false_or,ne_eq] <;> (first | omega | grind)))
 refine .sr (.vl (Y.ql U U) (.an (.nil ?_)))
 refine .aB U (fun Po=>?_) (fun Po=>?_)
 have hk:=s7.k9 Po; simp only at hk
 refine .sr (.mv ?_)
 refine .vl (Y.ql U U) (.an (.nil (.ret ?_)))
 exact .rb rfl (dd (by subst_vars; simp only [Fits,bR,eY,gK,z4,Int.reduceEq,Bool.not_eq_true,false_and,true_and,and_true,and_false,or_false,false_or,ne_eq] <;> (first | omega | grind)))
 refine .sr (.vl (Y.ql U U) (.an (.nil ?_)))
 refine .aB U (fun wR=>?_) (fun wR=>?_)
 have hk:=s7.NF wR; simp only at hk
 refine .sr (.mv ?_)
 refine .fa cK ?_
 refine .ld gy ?_
 refine .fa bY ?_
 refine .ld bg ?_
 refine .vl (Y.qr (m:=(mem).toNat) fu U U om (ao (d:=default) om)) (.fa me ?_)
 refine .ld bg ?_
 refine .vl (Y.ql U U) (.an (.nil (.ret ?_)))
 exact .rb rfl (dd (by subst_vars; simp only [Fits,bR,eY,gK,z4,Int.reduceEq,Bool.not_eq_true,false_and,true_and,and_true,and_false,or_false,false_or,ne_eq] <;> (first | omega | grind)))
 refine .skip (.sr (.an (.nil (.ret ?_))))
 exact .rb rfl (by exfalso; omega)
open Go Go.AW Go.Proofs
theorem wS{n:ae}{c:Cell}(hs:n.Small)(hc:c.args.length <= 17592186043904)(hn:c.num < 18446744073709551616)(s7:Shaped n c)(hw:vJ n c):aw Try.prog 113 [.agg (ae.row n),.agg (Cell.row c)] [] [] (fun r o=>r = .v (.bool (decide (Fits n c))) /\ o = []):=by
 obtain ⟨k,op,out,args,num,mem⟩:=c
 exact yq hs hc hn s7 hw
open Go Go.AW Go.Proofs
theorem yr{n:ae}{c:Cell}(hs:n.Small)(hc:c.args.length <= 17592186043904):aw Try.prog 160 [.agg (ae.row n),.agg (Cell.row c)] [] [] (fun r o=>r = .v (.bool (decide (Shaped n c))) /\ o = []):=by
 refine aw.of Try.func160 U U U (n:=132) ab (aH U) ?_
 have Iu:=hs.ins; have Iv:=hs.aD; have J5:=hs.streams
 refine .sr (.box 102 U U U U U ab (.box 103 U U U U U ab ?_))
 refine .an (.nil (.sr ?_))
 refine .an ?_
 refine .an ?_
 refine .an ?_
 refine .an ?_
 refine .nil (.seq (.sr (.fa ck ?_)))
 refine .ld bg ?_
 refine .nil (.block (.sr (.vl (Y.ql U U) (.an (.nil ?_)))))
 refine .aB U (fun J7=>?_) (fun J7=>?_)
 refine .region (.an (.nil ?_))
 refine .oD (⟨[(2,.ptr 102 0 0 0),(3,.ptr 103 0 0 0),(8,vi (-1))],[(102,.cells (ae.row n)),(103,.cells (Cell.row c))]⟩) (((¬ ((c.args.length:Int) ≠ 0)) /\ (¬ (c.op ≠ 0)) /\ ((c.num:Int) ≠ 0)) \/ ((¬ ((c.args.length:Int) ≠ 0)) /\ (¬ (c.op ≠ 0)) /\ (¬ ((c.num:Int) ≠ 0)))) ?_ (fun FJ=>?_)
 refine .sr (.fa bT ?_)
 refine .ld bn ?_
 refine .vl (Y.qw (n:=c.args.length) a7 U dY) (.mv ?_)
 refine .vl (Y.zj U U) (.mv ?_)
 refine .a8 (d:=88) U (fun oh=>?_) (fun oh=>?_)
 refine .gz 88 (.gz 88 (.gz 88 (.gz 88 (.pk ?_))))
 refine .mv ?_
 refine .gz 94 (.gz 94 (.gz 94 (.gz 94 (.gz 98 (.gz 98 (.gz 94 (.pk ?_)))))))
 refine .nil (.aQ U (.sr (.an (.nil (.ret ?_)))))
 exact .rb rfl (df ic)
 refine .gw 88 (Y.qo cL U U) (.gw 88 (Y.qz bg U U U U) (.gw 88 (Y.zf U U) (.gw 88 (Y.zj U U) (.pk ?_))))
 refine .mv ?_
 refine .a8 (d:=94) U (fun pM=>?_) (fun pM=>?_)
 refine .gz 94 (.gz 94 (.gz 94 (.gz 94 (.gz 98 (.gz 98 (.gz 94 (.pk ?_)))))))
 refine .nil (.aQ U (.sr (.an (.nil (.ret ?_)))))
 exact .rb rfl (df ic)
 refine .gw 94 (Y.qo dE U U) (.gw 94 (Y.qz fV U U U U) (.gw 94 (Y.zj U U) (.gw 94 (Y.zf U U) (.a8 (d:=98) U (fun oo=>?_) (fun oo=>?_)))))
 refine .gw 98 (Y.zf U U) (.gw 98 (Y.zl U) (.gw 94 (Y.zm U U U) (.pk ?_)))
 exact .nil (.cu U (.skip (⟨.inl ⟨oh,pM,oo⟩,Le.mk (.c2 (.c .nil)) (.c (.c .nil))⟩)))
 refine .gz 98 (.gz 98 (.gw 94 (Y.zm U U U) (.pk ?_)))
 exact .nil (.cu U (.skip (⟨.inr (⟨oh,pM,oo⟩),Le.mk (.c2 (.c .nil)) (.c (.c .nil))⟩)))
 refine .seq (.sr (.mv ?_))
 refine .vl (Y.zb U U) (.nil (.aQ U ?_))
 refine .sr (.fa bY ?_)
 refine .ld bg ?_
 refine .vl (Y.ql U U) (.an (.nil (.ret ?_)))
 exact .rb rfl (dd ic)
 refine .sr (.vl (Y.ql U U) (.an (.nil ?_)))
 refine .aB U (fun yV=>?_) (fun yV=>?_)
 refine .seq (.de U (.blind 0 U au (ax.fieldAddr cL U U) ab ?_))
 refine .blind 3 U au (ax.fieldAddr cL U U) ab ?_
 refine .two 1 4 U U au ?_ ?_
 refine .ld bg ?_
 refine .nil ⟨U,(.two 2 4 U U au ?_ ?_)⟩
 refine .aR EJ (mE (op:=c.op)) U (.ai U U .nil) ab U ?_
 refine .nil ⟨U,(.br (n:=0) [4,5,6] [] 0 U au (.cn 4 U (Y.qz bg U U U U) (.cn 5 U (Y.qf U U) (.cn 6 U (Y.qf U U) (.nil (.done au (.sr (.mv ?_))))))))⟩
 refine .vl (Y.ql U U) (.nil (.aB U (fun Af=>?_) (fun Af=>?_)))
 refine .sr (.an (.nil (.ret ?_)))
 exact .rb rfl (df ic)
 refine .skip (.seq (.sr (.fa bT ?_)))
 refine .ld bn ?_
 refine .vl (Y.qw (n:=c.args.length) a7 U dY) (.mv ?_)
 refine .vl (Y.zj U U) (.mv ?_)
 refine .a8 (d:=88) U (fun oh=>?_) (fun oh=>?_)
 refine .gz 88 (.gz 88 (.gz 88 (.gz 88 (.pk ?_))))
 refine .mv ?_
 refine .gz 94 (.gz 94 (.gz 94 (.gz 94 (.gz 98 (.gz 98 (.gz 94 (.pk ?_)))))))
 refine .nil (.aQ U (.sr (.an (.nil (.ret ?_)))))
 exact .rb rfl (df ic)
 refine .gw 88 (Y.qo cL U U) (.gw 88 (Y.qz bg U U U U) (.gw 88 (Y.zf U U) (.gw 88 (Y.zj U U) (.pk ?_))))
 refine .mv ?_
 refine .a8 (d:=94) U (fun pM=>?_) (fun pM=>?_)
 refine .gz 94 (.gz 94 (.gz 94 (.gz 94 (.gz 98 (.gz 98 (.gz 94 (.pk ?_)))))))
 refine .nil (.aQ U (.sr (.an (.nil (.ret ?_)))))
 exact .rb rfl (df ic)
 refine .gw 94 (Y.qo dE U U) (.gw 94 (Y.qz fV U U U U) (.gw 94 (Y.zj U U) (.gw 94 (Y.zf U U) (.a8 (d:=98) U (fun oo=>?_) (fun oo=>?_)))))
 refine .gw 98 (Y.zf U U) (.gw 98 (Y.zl U) (.gw 94 (Y.zm U U U) (.pk ?_)))
 refine .nil (.aQ U (.sr (.an (.nil (.ret ?_)))))
 exact .rb rfl (df ic)
 refine .gz 98 (.gz 98 (.gw 94 (Y.zm U U U) (.pk ?_)))
 refine .nil (.cu U (.skip (.seq (.sr (.mv ?_)))))
 refine .vl (Y.zb U U) (.nil (.aQ U ?_))
 refine .sr (.fa bY ?_)
 refine .ld bg ?_
 refine .vl (Y.ql U U) (.an (.nil (.ret ?_)))
 exact .rb rfl (dd ic)
 refine .ld bg ?_
 refine .nil ⟨U,(.one 2 U au (.aR EJ (mE (op:=c.op)) U (.ai U U .nil) ab U ?_))⟩
 refine .nil ⟨U,(.br (n:=0) [5,6] [] 0 U au (.cn 5 U (Y.qf U U) (.cn 6 U (Y.qf U U) (.nil (.done au (.sr (.mv ?_)))))))⟩
 refine .vl (Y.ql U U) (.nil (.aB U (fun Af=>?_) (fun Af=>?_)))
 refine .sr (.an (.nil (.ret ?_)))
 exact .rb rfl (df ic)
 refine .skip (.seq (.sr (.fa bT ?_)))
 refine .ld bn ?_
 refine .vl (Y.qw (n:=c.args.length) a7 U dY) (.mv ?_)
 refine .vl (Y.zj U U) (.mv ?_)
 refine .a8 (d:=88) U (fun oh=>?_) (fun oh=>?_)
 refine .gz 88 (.gz 88 (.gz 88 (.gz 88 (.pk ?_))))
 refine .mv ?_
 refine .gz 94 (.gz 94 (.gz 94 (.gz 94 (.gz 98 (.gz 98 (.gz 94 (.pk ?_)))))))
 refine .nil (.aQ U (.sr (.an (.nil (.ret ?_)))))
 exact .rb rfl (df ic)
 refine .gw 88 (Y.qo cL U U) (.gw 88 (Y.qz bg U U U U) (.gw 88 (Y.zf U U) (.gw 88 (Y.zj U U) (.pk ?_))))
 refine .mv ?_
 refine .a8 (d:=94) U (fun pM=>?_) (fun pM=>?_)
 refine .gz 94 (.gz 94 (.gz 94 (.gz 94 (.gz 98 (.gz 98 (.gz 94 (.pk ?_)))))))
 refine .nil (.aQ U (.sr (.an (.nil (.ret ?_)))))
 exact .rb rfl (df ic)
 refine .gw 94 (Y.qo dE U U) (.gw 94 (Y.qz fV U U U U) (.gw 94 (Y.zj U U) (.gw 94 (Y.zf U U) (.a8 (d:=98) U (fun oo=>?_) (fun oo=>?_)))))
 refine .gw 98 (Y.zf U U) (.gw 98 (Y.zl U) (.gw 94 (Y.zm U U U) (.pk ?_)))
 refine .nil (.aQ U (.sr (.an (.nil (.ret ?_)))))
 exact .rb rfl (df ic)
 refine .gz 98 (.gz 98 (.gw 94 (Y.zm U U U) (.pk ?_)))
 refine .nil (.cu U (.skip (.seq (.sr (.mv ?_)))))
 refine .vl (Y.zb U U) (.nil (.aQ U ?_))
 refine .sr (.fa bY ?_)
 refine .ld bg ?_
 refine .vl (Y.ql U U) (.an (.nil (.ret ?_)))
 exact .rb rfl (dd ic)
 refine .ld bg ?_
 refine .nil ⟨U,(.br (n:=3) [1] [2,5,6] 2 U au (.cn 1 U (Y.qz bg U U U U) (.nil (.one 2 U au (.aR EJ (mE (op:=c.op)) U (.ai U U .nil) ab U ?_)))))⟩
 refine .nil ⟨U,(.br (n:=0) [5,6] [] 0 U au (.cn 5 U (Y.qf U U) (.cn 6 U (Y.qf U U) (.nil (.done au (.sr (.mv ?_)))))))⟩
 refine .vl (Y.ql U U) (.nil (.aB U (fun Af=>?_) (fun Af=>?_)))
 refine .sr (.an (.nil (.ret ?_)))
 exact .rb rfl (df ic)
 refine .skip (.seq (.sr (.fa bT ?_)))
 refine .ld bn ?_
 refine .vl (Y.qw (n:=c.args.length) a7 U dY) (.mv ?_)
 refine .vl (Y.zj U U) (.mv ?_)
 refine .a8 (d:=88) U (fun oh=>?_) (fun oh=>?_)
 refine .gz 88 (.gz 88 (.gz 88 (.gz 88 (.pk ?_))))
 refine .mv ?_
 refine .gz 94 (.gz 94 (.gz 94 (.gz 94 (.gz 98 (.gz 98 (.gz 94 (.pk ?_)))))))
 refine .nil (.aQ U (.sr (.an (.nil (.ret ?_)))))
 exact .rb rfl (df ic)
 refine .gw 88 (Y.qo cL U U) (.gw 88 (Y.qz bg U U U U) (.gw 88 (Y.zf U U) (.gw 88 (Y.zj U U) (.pk ?_))))
 refine .mv ?_
 refine .a8 (d:=94) U (fun pM=>?_) (fun pM=>?_)
 refine .gz 94 (.gz 94 (.gz 94 (.gz 94 (.gz 98 (.gz 98 (.gz 94 (.pk ?_)))))))
 refine .nil (.aQ U (.sr (.an (.nil (.ret ?_)))))
 exact .rb rfl (df ic)
 refine .gw 94 (Y.qo dE U U) (.gw 94 (Y.qz fV U U U U) (.gw 94 (Y.zj U U) (.gw 94 (Y.zf U U) (.a8 (d:=98) U (fun oo=>?_) (fun oo=>?_)))))
 refine .gw 98 (Y.zf U U) (.gw 98 (Y.zl U) (.gw 94 (Y.zm U U U) (.pk ?_)))
 refine .nil (.aQ U (.sr (.an (.nil (.ret ?_)))))
 exact .rb rfl (df ic)
 refine .gz 98 (.gz 98 (.gw 94 (Y.zm U U U) (.pk ?_)))
 refine .nil (.cu U (.skip (.seq (.sr (.mv ?_)))))
 refine .vl (Y.zb U U) (.nil (.aQ U ?_))
 refine .sr (.fa bY ?_)
 refine .ld bg ?_
 refine .vl (Y.ql U U) (.an (.nil (.ret ?_)))
 exact .rb rfl (dd ic)
 refine .sr (.vl (Y.ql U U) (.an (.nil ?_)))
 refine .aB U (fun pU=>?_) (fun pU=>?_)
 refine .sr (.fa bT ?_)
 refine .ld bn ?_
 refine .vl (Y.qw (n:=c.args.length) a7 U dY) (.an (.nil (.sr ?_)))
 refine .mv ?_
 refine .vl (Y.zb U U) (.mv ?_)
 refine .a8 (d:=29) U (fun FK=>?_) (fun FK=>?_)
 refine .gz 29 (.gz 29 (.gz 29 (.pk ?_)))
 refine .nil (.aQ U (.sr (.an (.nil (.ret ?_)))))
 exact .rb rfl (df ic)
 refine .gw 29 (Y.zf U U) (.gw 29 (Y.zr U U om) (.gw 29 (Y.ql U U) (.pk ?_)))
 refine .nil (.aB U (fun CX=>?_) (fun CX=>?_))
 refine .sr (.an (.nil (.ret ?_)))
 exact .rb rfl (df ic)
 refine .skip (.seq (.sr (.fa bT ?_)))
 refine .ld bn ?_
 refine .vl (Y.qw (n:=c.args.length) a7 U dY) (.mv ?_)
 refine .vl (Y.zj U U) (.mv ?_)
 refine .a8 (d:=88) U (fun oh=>?_) (fun oh=>?_)
 refine .gz 88 (.gz 88 (.gz 88 (.gz 88 (.pk ?_))))
 refine .mv ?_
 refine .gz 94 (.gz 94 (.gz 94 (.gz 94 (.gz 98 (.gz 98 (.gz 94 (.pk ?_)))))))
 refine .nil (.aQ U (.sr (.an (.nil (.ret ?_)))))
 exact .rb rfl (df ic)
 refine .gw 88 (Y.qo cL U U) (.gw 88 (Y.qz bg U U U U) (.gw 88 (Y.zf U U) (.gw 88 (Y.zj U U) (.pk ?_))))
 refine .mv ?_
 refine .a8 (d:=94) U (fun pM=>?_) (fun pM=>?_)
 refine .gz 94 (.gz 94 (.gz 94 (.gz 94 (.gz 98 (.gz 98 (.gz 94 (.pk ?_)))))))
 refine .nil (.aQ U (.sr (.an (.nil (.ret ?_)))))
 exact .rb rfl (df ic)
 refine .gw 94 (Y.qo dE U U) (.gw 94 (Y.qz fV U U U U) (.gw 94 (Y.zj U U) (.gw 94 (Y.zf U U) (.a8 (d:=98) U (fun oo=>?_) (fun oo=>?_)))))
 refine .gw 98 (Y.zf U U) (.gw 98 (Y.zl U) (.gw 94 (Y.zm U U U) (.pk ?_)))
 refine .nil (.aQ U (.sr (.an (.nil (.ret ?_)))))
 exact .rb rfl (df ic)
 refine .gz 98 (.gz 98 (.gw 94 (Y.zm U U U) (.pk ?_)))
 refine .nil (.cu U (.skip (.seq (.sr (.mv ?_)))))
 refine .vl (Y.zb U U) (.nil (.aQ U ?_))
 refine .sr (.fa bY ?_)
 refine .ld bg ?_
 refine .vl (Y.ql U U) (.an (.nil (.ret ?_)))
 exact .rb rfl (dd ic)
 refine .sr (.vl (Y.ql U U) (.an (.nil ?_)))
 refine .aB U (fun DC=>?_) (fun DC=>?_)
 refine .region (.an ?_)
 refine .an (.nil ?_)
 refine .oD (⟨[(2,.ptr 102 0 0 0),(3,.ptr 103 0 0 0),(8,vi (-1))],[(102,.cells (ae.row n)),(103,.cells (Cell.row c))]⟩) (((¬ ((c.args.length:Int) ≠ 2)) /\ (¬ (c.op ≠ 0)) /\ ((c.num:Int) ≠ 0)) \/ ((¬ ((c.args.length:Int) ≠ 2)) /\ (¬ (c.op ≠ 0)) /\ (¬ ((c.num:Int) ≠ 0)))) ?_ (fun FJ=>?_)
 refine .sr (.fa bT ?_)
 refine .ld bn ?_
 refine .vl (Y.qw (n:=c.args.length) a7 U dY) (.mv ?_)
 refine .vl (Y.zj U U) (.mv ?_)
 refine .a8 (d:=88) U (fun oh=>?_) (fun oh=>?_)
 refine .gz 88 (.gz 88 (.gz 88 (.gz 88 (.pk ?_))))
 refine .mv ?_
 refine .gz 94 (.gz 94 (.gz 94 (.gz 94 (.gz 98 (.gz 98 (.gz 94 (.pk ?_)))))))
 refine .nil (.aQ U (.sr (.an (.nil (.ret ?_)))))
 exact .rb rfl (df ic)
 refine .gw 88 (Y.qo cL U U) (.gw 88 (Y.qz bg U U U U) (.gw 88 (Y.zf U U) (.gw 88 (Y.zj U U) (.pk ?_))))
 refine .mv ?_
 refine .a8 (d:=94) U (fun pM=>?_) (fun pM=>?_)
 refine .gz 94 (.gz 94 (.gz 94 (.gz 94 (.gz 98 (.gz 98 (.gz 94 (.pk ?_)))))))
 refine .nil (.aQ U (.sr (.an (.nil (.ret ?_)))))
 exact .rb rfl (df ic)
 refine .gw 94 (Y.qo dE U U) (.gw 94 (Y.qz fV U U U U) (.gw 94 (Y.zj U U) (.gw 94 (Y.zf U U) (.a8 (d:=98) U (fun oo=>?_) (fun oo=>?_)))))
 refine .gw 98 (Y.zf U U) (.gw 98 (Y.zl U) (.gw 94 (Y.zm U U U) (.pk ?_)))
 exact .nil (.cu U (.skip (⟨.inl ⟨oh,pM,oo⟩,Le.mk (.c2 (.c .nil)) (.c (.c .nil))⟩)))
 refine .gz 98 (.gz 98 (.gw 94 (Y.zm U U U) (.pk ?_)))
 exact .nil (.cu U (.skip (⟨.inr (⟨oh,pM,oo⟩),Le.mk (.c2 (.c .nil)) (.c (.c .nil))⟩)))
 refine .seq (.sr (.mv ?_))
 refine .vl (Y.zb U U) (.nil (.aQ U ?_))
 refine .sr (.fa bY ?_)
 refine .ld bg ?_
 refine .vl (Y.ql U U) (.an (.nil (.ret ?_)))
 exact .rb rfl (dd ic)
 refine .sr (.vl (Y.ql U U) (.an (.nil ?_)))
 refine .aB U (fun vm=>?_) (fun vm=>?_)
 refine .seq (.j9 U au (.val (Y.qo cL U U) ab (.val (Y.qz bg U U U U) ab (.val (Y.qf U U) ab (.val (Y.qf U U) ab (.val (Y.qf U U) ab (.nil (.sr (.fa cL ?_)))))))))
 refine .ld bg ?_
 refine .vl (Y.zb U U) (.mv ?_)
 refine .a8 (d:=43) U (fun SQ=>?_) (fun SQ=>?_)
 refine .gz 43 (.gz 43 (.gz 43 (.pk ?_)))
 refine .mv ?_
 refine .gz 48 (.gz 48 (.gz 48 (.pk ?_)))
 refine .mv ?_
 refine .gz 53 (.gz 53 (.gz 53 (.pk ?_)))
 refine .nil (.aQ U (.sr (.an (.nil (.ret ?_)))))
 exact .rb rfl (df ic)
 refine .gw 43 (Y.qo cL U U) (.gw 43 (Y.qz bg U U U U) (.gw 43 (Y.qq U U) (.pk ?_)))
 refine .mv ?_
 refine .a8 (d:=48) U (fun SR=>?_) (fun SR=>?_)
 refine .gz 48 (.gz 48 (.gz 48 (.pk ?_)))
 refine .mv ?_
 refine .gz 53 (.gz 53 (.gz 53 (.pk ?_)))
 refine .nil (.aQ U (.sr (.an (.nil (.ret ?_)))))
 exact .rb rfl (df ic)
 refine .gw 48 (Y.qo dE U U) (.gw 48 (Y.qz fV U U U U) (.gw 48 (Y.zb U U) (.pk ?_)))
 refine .mv ?_
 refine .a8 (d:=53) U (fun Ar=>?_) (fun Ar=>?_)
 refine .gz 53 (.gz 53 (.gz 53 (.pk ?_)))
 refine .nil (.aQ U (.sr (.an (.nil (.ret ?_)))))
 exact .rb rfl (df ic)
 refine .gw 53 (Y.qo dE U U) (.gw 53 (Y.qz fV U U U U) (.gw 53 (Y.qq U U) (.pk ?_)))
 refine .nil (.aB U (fun DD=>?_) (fun DD=>?_))
 refine .sr (.an (.nil (.ret ?_)))
 exact .rb rfl (df ic)
 refine .skip (.oD (⟨[(2,.ptr 102 0 0 0),(3,.ptr 103 0 0 0),(8,vi (-1))],[(102,.cells (ae.row n)),(103,.cells (Cell.row c))]⟩) (((¬ ((c.args.length:Int) ≠ 2)) /\ (¬ (c.op ≠ c.op)) /\ ((c.num:Int) ≠ 0)) \/ ((¬ ((c.args.length:Int) ≠ 2)) /\ (¬ (c.op ≠ c.op)) /\ (¬ ((c.num:Int) ≠ 0)))) ?_ (fun FJ=>?_))
 refine .sr (.fa bT ?_)
 refine .ld bn ?_
 refine .vl (Y.qw (n:=c.args.length) a7 U dY) (.mv ?_)
 refine .vl (Y.zj U U) (.mv ?_)
 refine .a8 (d:=88) U (fun oh=>?_) (fun oh=>?_)
 refine .gz 88 (.gz 88 (.gz 88 (.gz 88 (.pk ?_))))
 refine .mv ?_
 refine .gz 94 (.gz 94 (.gz 94 (.gz 94 (.gz 98 (.gz 98 (.gz 94 (.pk ?_)))))))
 refine .nil (.aQ U (.sr (.an (.nil (.ret ?_)))))
 exact .rb rfl (df ic)
 refine .gw 88 (Y.qo cL U U) (.gw 88 (Y.qz bg U U U U) (.gw 88 (Y.zf U U) (.gw 88 (Y.zj U U) (.pk ?_))))
 refine .mv ?_
 refine .a8 (d:=94) U (fun pM=>?_) (fun pM=>?_)
 refine .gz 94 (.gz 94 (.gz 94 (.gz 94 (.gz 98 (.gz 98 (.gz 94 (.pk ?_)))))))
 refine .nil (.aQ U (.sr (.an (.nil (.ret ?_)))))
 exact .rb rfl (df ic)
 refine .gw 94 (Y.qo dE U U) (.gw 94 (Y.qz fV U U U U) (.gw 94 (Y.zj U U) (.gw 94 (Y.zf U U) (.a8 (d:=98) U (fun oo=>?_) (fun oo=>?_)))))
 refine .gw 98 (Y.zf U U) (.gw 98 (Y.zl U) (.gw 94 (Y.zm U U U) (.pk ?_)))
 exact .nil (.cu U (.skip (⟨.inl ⟨oh,pM,oo⟩,Le.mk (.c2 (.c .nil)) (.c (.c .nil))⟩)))
 refine .gz 98 (.gz 98 (.gw 94 (Y.zm U U U) (.pk ?_)))
 exact .nil (.cu U (.skip (⟨.inr (⟨oh,pM,oo⟩),Le.mk (.c2 (.c .nil)) (.c (.c .nil))⟩)))
 refine .seq (.sr (.mv ?_))
 refine .vl (Y.zb U U) (.nil (.aQ U ?_))
 refine .sr (.fa bY ?_)
 refine .ld bg ?_
 refine .vl (Y.ql U U) (.an (.nil (.ret ?_)))
 exact .rb rfl (dd ic)
 refine .sr (.vl (Y.ql U U) (.an (.nil ?_)))
 refine .aB U (fun QK=>?_) (fun QK=>?_)
 refine .j9 U au (.val (Y.qo eK U U) ab (.val (Y.qz ln U U U U) ab (.val (Y.qw (n:=n.aD.length) jE U dY) ab (.val (Y.qf U U) ab (.val (Y.qf U U) ab (.nil (.seq (.sr (.fa bT ?_)))))))))
 refine .ld bn ?_
 refine .vl (Y.qw (n:=c.args.length) a7 U dY) (.mv ?_)
 refine .vl (Y.zj U U) (.mv ?_)
 refine .a8 (d:=88) U (fun oh=>?_) (fun oh=>?_)
 refine .gz 88 (.gz 88 (.gz 88 (.gz 88 (.pk ?_))))
 refine .mv ?_
 refine .gz 94 (.gz 94 (.gz 94 (.gz 94 (.gz 98 (.gz 98 (.gz 94 (.pk ?_)))))))
 refine .nil (.aQ U (.sr (.an (.nil (.ret ?_)))))
 exact .rb rfl (df ic)
 refine .gw 88 (Y.qo cL U U) (.gw 88 (Y.qz bg U U U U) (.gw 88 (Y.zf U U) (.gw 88 (Y.zj U U) (.pk ?_))))
 refine .mv ?_
 refine .a8 (d:=94) U (fun pM=>?_) (fun pM=>?_)
 refine .gz 94 (.gz 94 (.gz 94 (.gz 94 (.gz 98 (.gz 98 (.gz 94 (.pk ?_)))))))
 refine .nil (.aQ U (.sr (.an (.nil (.ret ?_)))))
 exact .rb rfl (df ic)
 refine .gw 94 (Y.qo dE U U) (.gw 94 (Y.qz fV U U U U) (.gw 94 (Y.zj U U) (.gw 94 (Y.zf U U) (.a8 (d:=98) U (fun oo=>?_) (fun oo=>?_)))))
 refine .gw 98 (Y.zf U U) (.gw 98 (Y.zl U) (.gw 94 (Y.zm U U U) (.pk ?_)))
 refine .nil (.aQ U (.sr (.an (.nil (.ret ?_)))))
 exact .rb rfl (df ic)
 refine .gz 98 (.gz 98 (.gw 94 (Y.zm U U U) (.pk ?_)))
 refine .nil (.cu U (.skip (.seq (.sr (.mv ?_)))))
 refine .vl (Y.zb U U) (.nil (.aB U (fun oP=>?_) (fun oP=>?_)))
 refine .sr (.fa bY ?_)
 refine .ld bg ?_
 refine .vl (Y.ql U U) (.an (.nil (.ret ?_)))
 exact .rb rfl (dd ic)
 refine .skip (.sr (.fa bY ?_))
 refine .ld bg ?_
 refine .vl (Y.qp U U) (.mv ?_)
 refine .a8 (d:=111) U (fun uI=>?_) (fun uI=>?_)
 refine .gw 111 (Y.qo bY U U) (.gw 111 (Y.qz bg U U U U) (.gw 111 (Y.zf U U) (.gw 111 (Y.zb U U) (.pk ?_))))
 refine .mv ?_
 refine .a8 (d:=117) U (fun na=>?_) (fun na=>?_)
 refine .gw 117 (Y.qo ck U U) (.gw 117 (Y.qz bg U U U U) (.gw 117 (Y.zj U U) (.gw 117 (Y.zf U U) (.a8 (d:=121) U (fun As=>?_) (fun As=>?_)))))
 refine .gz 121 (.gz 121 (.gz 121 (.gz 121 (.gz 121 (.gz 121 (.gz 121 (.gz 121 (.gw 117 (Y.zm U U U) (.pk ?_)))))))))
 refine .an (.nil (.ret ?_))
 exact .rb rfl (dt ic)
 refine .gw 121 (Y.qo cK U U) (.gw 121 (Y.qz gy U U U U) (.gw 121 (Y.qo bY U U) (.gw 121 (Y.qz bg U U U U) (.gw 121 (Y.qr (m:=(c.mem).toNat) fu U U om (ao (d:=default) om)) (.gw 121 (Y.qo gx U U) (.gw 121 (Y.qz vT U U U U) (.gw 121 (Y.zl U) (.gw 117 (Y.zm U U U) (.pk ?_)))))))))
 refine .an (.nil (.ret ?_))
 exact .rb rfl (db ic)
 refine .gz 117 (.gz 117 (.gz 117 (.gz 117 (.gz 121 (.gz 121 (.gz 121 (.gz 121 (.gz 121 (.gz 121 (.gz 121 (.gz 121 (.gz 117 (.pk ?_)))))))))))))
 refine .an (.nil (.ret ?_))
 exact .rb rfl (df ic)
 refine .gz 111 (.gz 111 (.gz 111 (.gz 111 (.pk ?_))))
 refine .mv ?_
 refine .gz 117 (.gz 117 (.gz 117 (.gz 117 (.gz 121 (.gz 121 (.gz 121 (.gz 121 (.gz 121 (.gz 121 (.gz 121 (.gz 121 (.gz 117 (.pk ?_)))))))))))))
 refine .an (.nil (.ret ?_))
 exact .rb rfl (df ic)
 refine .sr (.vl (Y.ql U U) (.an (.nil ?_)))
 refine .aB U (fun yU=>?_) (fun yU=>?_)
 refine .j9 U au (.val (Y.qo eK U U) ab (.val (Y.qz ln U U U U) ab (.val (Y.qw (n:=n.aD.length) jE U dY) ab (.val (Y.qf U U) ab (.val (Y.qf U U) ab (.nil (.seq (.sr (.fa bT ?_)))))))))
 refine .ld bn ?_
 refine .vl (Y.qw (n:=c.args.length) a7 U dY) (.mv ?_)
 refine .vl (Y.zj U U) (.mv ?_)
 refine .a8 (d:=88) U (fun oh=>?_) (fun oh=>?_)
 refine .gz 88 (.gz 88 (.gz 88 (.gz 88 (.pk ?_))))
 refine .mv ?_
 refine .gz 94 (.gz 94 (.gz 94 (.gz 94 (.gz 98 (.gz 98 (.gz 94 (.pk ?_)))))))
 refine .nil (.aQ U (.sr (.an (.nil (.ret ?_)))))
 exact .rb rfl (df ic)
 refine .gw 88 (Y.qo cL U U) (.gw 88 (Y.qz bg U U U U) (.gw 88 (Y.zf U U) (.gw 88 (Y.zj U U) (.pk ?_))))
 refine .mv ?_
 refine .a8 (d:=94) U (fun pM=>?_) (fun pM=>?_)
 refine .gz 94 (.gz 94 (.gz 94 (.gz 94 (.gz 98 (.gz 98 (.gz 94 (.pk ?_)))))))
 refine .nil (.aQ U (.sr (.an (.nil (.ret ?_)))))
 exact .rb rfl (df ic)
 refine .gw 94 (Y.qo dE U U) (.gw 94 (Y.qz fV U U U U) (.gw 94 (Y.zj U U) (.gw 94 (Y.zf U U) (.a8 (d:=98) U (fun oo=>?_) (fun oo=>?_)))))
 refine .gw 98 (Y.zf U U) (.gw 98 (Y.zl U) (.gw 94 (Y.zm U U U) (.pk ?_)))
 refine .nil (.aQ U (.sr (.an (.nil (.ret ?_)))))
 exact .rb rfl (df ic)
 refine .gz 98 (.gz 98 (.gw 94 (Y.zm U U U) (.pk ?_)))
 refine .nil (.cu U (.skip (.seq (.sr (.mv ?_)))))
 refine .vl (Y.zb U U) (.nil (.aB U (fun oP=>?_) (fun oP=>?_)))
 refine .sr (.fa bY ?_)
 refine .ld bg ?_
 refine .vl (Y.ql U U) (.an (.nil (.ret ?_)))
 exact .rb rfl (dd ic)
 refine .skip (.sr (.fa bY ?_))
 refine .ld bg ?_
 refine .vl (Y.qp U U) (.mv ?_)
 refine .a8 (d:=111) U (fun uI=>?_) (fun uI=>?_)
 refine .gw 111 (Y.qo bY U U) (.gw 111 (Y.qz bg U U U U) (.gw 111 (Y.zf U U) (.gw 111 (Y.zb U U) (.pk ?_))))
 refine .mv ?_
 refine .a8 (d:=117) U (fun na=>?_) (fun na=>?_)
 refine .gw 117 (Y.qo ck U U) (.gw 117 (Y.qz bg U U U U) (.gw 117 (Y.zj U U) (.gw 117 (Y.zf U U) (.a8 (d:=121) U (fun As=>?_) (fun As=>?_)))))
 refine .gz 121 (.gz 121 (.gz 121 (.gz 121 (.gz 121 (.gz 121 (.gz 121 (.gz 121 (.gw 117 (Y.zm U U U) (.pk ?_)))))))))
 refine .an (.nil (.ret ?_))
 exact .rb rfl (dt ic)
 refine .gw 121 (Y.qo cK U U) (.gw 121 (Y.qz gy U U U U) (.gw 121 (Y.qo bY U U) (.gw 121 (Y.qz bg U U U U) (.gw 121 (Y.qr (m:=(c.mem).toNat) fu U U om (ao (d:=default) om)) (.gw 121 (Y.qo gx U U) (.gw 121 (Y.qz vT U U U U) (.gw 121 (Y.zl U) (.gw 117 (Y.zm U U U) (.pk ?_)))))))))
 refine .an (.nil (.ret ?_))
 exact .rb rfl (db ic)
 refine .gz 117 (.gz 117 (.gz 117 (.gz 117 (.gz 121 (.gz 121 (.gz 121 (.gz 121 (.gz 121 (.gz 121 (.gz 121 (.gz 121 (.gz 117 (.pk ?_)))))))))))))
 refine .an (.nil (.ret ?_))
 exact .rb rfl (df ic)
 refine .gz 111 (.gz 111 (.gz 111 (.gz 111 (.pk ?_))))
 refine .mv ?_
 refine .gz 117 (.gz 117 (.gz 117 (.gz 117 (.gz 121 (.gz 121 (.gz 121 (.gz 121 (.gz 121 (.gz 121 (.gz 121 (.gz 121 (.gz 117 (.pk ?_)))))))))))))
 refine .an (.nil (.ret ?_))
 exact .rb rfl (df ic)
 refine .sr (.vl (Y.ql U U) (.an (.nil ?_)))
 refine .aB U (fun Cc=>?_) (fun Cc=>?_)
 refine .sr (.an (.nil (.sr ?_)))
 refine .fa dE ?_
 refine .ld fV ?_
 refine .fa jf ?_
 refine .ld bn ?_
 refine .vl (Y.qw (n:=n.ins.length) a7 U dY) (.vl (Y.qk r4 wE U (by first | rfl | exact IntWalk.u64_in _ om)) (.vl (Y.qp U U) (.nil (.aB U (fun FH=>?_) (fun FH=>?_)))))
 refine .sr (.an (.nil (.ret ?_)))
 exact .rb rfl (df ic)
 refine .skip (.oD (⟨[(2,.ptr 102 0 0 0),(3,.ptr 103 0 0 0),(8,vi (-1))],[(102,.cells (ae.row n)),(103,.cells (Cell.row c))]⟩) (((¬ ((c.args.length:Int) ≠ 0)) /\ (¬ (c.op ≠ 0)) /\ ((c.num:Int) ≠ 0)) \/ ((¬ ((c.args.length:Int) ≠ 0)) /\ (¬ (c.op ≠ 0)) /\ (¬ ((c.num:Int) ≠ 0)))) ?_ (fun FJ=>?_))
 refine .sr (.fa bT ?_)
 refine .ld bn ?_
 refine .vl (Y.qw (n:=c.args.length) a7 U dY) (.mv ?_)
 refine .vl (Y.zj U U) (.mv ?_)
 refine .a8 (d:=88) U (fun oh=>?_) (fun oh=>?_)
 refine .gz 88 (.gz 88 (.gz 88 (.gz 88 (.pk ?_))))
 refine .mv ?_
 refine .gz 94 (.gz 94 (.gz 94 (.gz 94 (.gz 98 (.gz 98 (.gz 94 (.pk ?_)))))))
 refine .nil (.aQ U (.sr (.an (.nil (.ret ?_)))))
 exact .rb rfl (df ic)
 refine .gw 88 (Y.qo cL U U) (.gw 88 (Y.qz bg U U U U) (.gw 88 (Y.zf U U) (.gw 88 (Y.zj U U) (.pk ?_))))
 refine .mv ?_
 refine .a8 (d:=94) U (fun pM=>?_) (fun pM=>?_)
 refine .gz 94 (.gz 94 (.gz 94 (.gz 94 (.gz 98 (.gz 98 (.gz 94 (.pk ?_)))))))
 refine .nil (.aQ U (.sr (.an (.nil (.ret ?_)))))
 exact .rb rfl (df ic)
 refine .gw 94 (Y.qo dE U U) (.gw 94 (Y.qz fV U U U U) (.gw 94 (Y.zj U U) (.gw 94 (Y.zf U U) (.a8 (d:=98) U (fun oo=>?_) (fun oo=>?_)))))
 refine .gw 98 (Y.zf U U) (.gw 98 (Y.zl U) (.gw 94 (Y.zm U U U) (.pk ?_)))
 exact .nil (.cu U (.skip (⟨.inl ⟨oh,pM,oo⟩,Le.mk (.c2 (.c .nil)) (.c (.c .nil))⟩)))
 refine .gz 98 (.gz 98 (.gw 94 (Y.zm U U U) (.pk ?_)))
 exact .nil (.cu U (.skip (⟨.inr (⟨oh,pM,oo⟩),Le.mk (.c2 (.c .nil)) (.c (.c .nil))⟩)))
 refine .seq (.sr (.mv ?_))
 refine .vl (Y.zb U U) (.nil (.aQ U ?_))
 refine .sr (.fa bY ?_)
 refine .ld bg ?_
 refine .vl (Y.ql U U) (.an (.nil (.ret ?_)))
 exact .rb rfl (dd ic)
 refine .seq (.sr (.vl (Y.ql U U) (.an (.nil ?_))))
 refine .bt U (fun FL=>?_) (fun FL=>?_)
 refine .skip (.aQ U (.region (.fa cK ?_)))
 refine .ld gy ?_
 refine .vl (Y.qw (n:=n.streams.length) fu U dY) (.an ?_)
 refine .nil (.seq (.sr (.fa bT ?_)))
 refine .ld bn ?_
 refine .vl (Y.qw (n:=c.args.length) a7 U dY) (.mv ?_)
 refine .vl (Y.zj U U) (.mv ?_)
 refine .a8 (d:=88) U (fun oh=>?_) (fun oh=>?_)
 refine .gz 88 (.gz 88 (.gz 88 (.gz 88 (.pk ?_))))
 refine .mv ?_
 refine .gz 94 (.gz 94 (.gz 94 (.gz 94 (.gz 98 (.gz 98 (.gz 94 (.pk ?_)))))))
 refine .nil (.aQ U (.sr (.an (.nil (.ret ?_)))))
 exact .rb rfl (df ic)
 refine .gw 88 (Y.qo cL U U) (.gw 88 (Y.qz bg U U U U) (.gw 88 (Y.zf U U) (.gw 88 (Y.zj U U) (.pk ?_))))
 refine .mv ?_
 refine .a8 (d:=94) U (fun pM=>?_) (fun pM=>?_)
 refine .gz 94 (.gz 94 (.gz 94 (.gz 94 (.gz 98 (.gz 98 (.gz 94 (.pk ?_)))))))
 refine .nil (.aQ U (.sr (.an (.nil (.ret ?_)))))
 exact .rb rfl (df ic)
 refine .gw 94 (Y.qo dE U U) (.gw 94 (Y.qz fV U U U U) (.gw 94 (Y.zj U U) (.gw 94 (Y.zf U U) (.a8 (d:=98) U (fun oo=>?_) (fun oo=>?_)))))
 refine .gw 98 (Y.zf U U) (.gw 98 (Y.zl U) (.gw 94 (Y.zm U U U) (.pk ?_)))
 refine .nil (.aQ U (.sr (.an (.nil (.ret ?_)))))
 exact .rb rfl (df ic)
 refine .gz 98 (.gz 98 (.gw 94 (Y.zm U U U) (.pk ?_)))
 refine .nil (.cu U (.skip (.seq (.sr (.mv ?_)))))
 refine .vl (Y.zb U U) (.nil (.aB U (fun oP=>?_) (fun oP=>?_)))
 refine .sr (.fa bY ?_)
 refine .ld bg ?_
 refine .vl (Y.ql U U) (.an (.nil (.ret ?_)))
 exact .rb rfl (dd ic)
 refine .skip (.sr (.fa bY ?_))
 refine .ld bg ?_
 refine .vl (Y.qp U U) (.mv ?_)
 refine .a8 (d:=111) U (fun uI=>?_) (fun uI=>?_)
 refine .gw 111 (Y.qo bY U U) (.gw 111 (Y.qz bg U U U U) (.gw 111 (Y.zf U U) (.gw 111 (Y.zb U U) (.pk ?_))))
 refine .mv ?_
 refine .a8 (d:=117) U (fun na=>?_) (fun na=>?_)
 refine .gw 117 (Y.qo ck U U) (.gw 117 (Y.qz bg U U U U) (.gw 117 (Y.zj U U) (.gw 117 (Y.zf U U) (.a8 (d:=121) U (fun As=>?_) (fun As=>?_)))))
 refine .gz 121 (.gz 121 (.gz 121 (.gz 121 (.gz 121 (.gz 121 (.gz 121 (.gz 121 (.gw 117 (Y.zm U U U) (.pk ?_)))))))))
 refine .an (.nil (.ret ?_))
 exact .rb rfl (dt ic)
 refine .gw 121 (Y.qo cK U U) (.gw 121 (Y.qz gy U U U U) (.gw 121 (Y.qo bY U U) (.gw 121 (Y.qz bg U U U U) (.gw 121 (Y.qr (m:=(c.mem).toNat) fu U U om (ao (d:=default) om)) (.gw 121 (Y.qo gx U U) (.gw 121 (Y.qz vT U U U U) (.gw 121 (Y.zl U) (.gw 117 (Y.zm U U U) (.pk ?_)))))))))
 refine .an (.nil (.ret ?_))
 exact .rb rfl (db ic)
 refine .gz 117 (.gz 117 (.gz 117 (.gz 117 (.gz 121 (.gz 121 (.gz 121 (.gz 121 (.gz 121 (.gz 121 (.gz 121 (.gz 121 (.gz 117 (.pk ?_)))))))))))))
 refine .an (.nil (.ret ?_))
 exact .rb rfl (df ic)
 refine .gz 111 (.gz 111 (.gz 111 (.gz 111 (.pk ?_))))
 refine .mv ?_
 refine .gz 117 (.gz 117 (.gz 117 (.gz 117 (.gz 121 (.gz 121 (.gz 121 (.gz 121 (.gz 121 (.gz 121 (.gz 121 (.gz 121 (.gz 117 (.pk ?_)))))))))))))
 refine .an (.nil (.ret ?_))
 exact .rb rfl (df ic)
 refine .region (.vl (Y.ql U U) (.an (.nil ?_)))
 refine .bt U (fun FL=>?_) (fun FL=>?_)
 refine .region (.fa cK ?_)
 refine .ld gy ?_
 refine .vl (Y.qw (n:=n.streams.length) fu U dY) (.an ?_)
 refine .nil (.seq (.sr (.fa bT ?_)))
 refine .ld bn ?_
 refine .vl (Y.qw (n:=c.args.length) a7 U dY) (.mv ?_)
 refine .vl (Y.zj U U) (.mv ?_)
 refine .a8 (d:=88) U (fun oh=>?_) (fun oh=>?_)
 refine .gz 88 (.gz 88 (.gz 88 (.gz 88 (.pk ?_))))
 refine .mv ?_
 refine .gz 94 (.gz 94 (.gz 94 (.gz 94 (.gz 98 (.gz 98 (.gz 94 (.pk ?_)))))))
 refine .nil (.aQ U (.sr (.an (.nil (.ret ?_)))))
 exact .rb rfl (df ic)
 refine .gw 88 (Y.qo cL U U) (.gw 88 (Y.qz bg U U U U) (.gw 88 (Y.zf U U) (.gw 88 (Y.zj U U) (.pk ?_))))
 refine .mv ?_
 refine .a8 (d:=94) U (fun pM=>?_) (fun pM=>?_)
 refine .gz 94 (.gz 94 (.gz 94 (.gz 94 (.gz 98 (.gz 98 (.gz 94 (.pk ?_)))))))
 refine .nil (.aQ U (.sr (.an (.nil (.ret ?_)))))
 exact .rb rfl (df ic)
 refine .gw 94 (Y.qo dE U U) (.gw 94 (Y.qz fV U U U U) (.gw 94 (Y.zj U U) (.gw 94 (Y.zf U U) (.a8 (d:=98) U (fun oo=>?_) (fun oo=>?_)))))
 refine .gw 98 (Y.zf U U) (.gw 98 (Y.zl U) (.gw 94 (Y.zm U U U) (.pk ?_)))
 refine .nil (.aQ U (.sr (.an (.nil (.ret ?_)))))
 exact .rb rfl (df ic)
 refine .gz 98 (.gz 98 (.gw 94 (Y.zm U U U) (.pk ?_)))
 refine .nil (.cu U (.skip (.seq (.sr (.mv ?_)))))
 refine .vl (Y.zb U U) (.nil (.aB U (fun oP=>?_) (fun oP=>?_)))
 refine .sr (.fa bY ?_)
 refine .ld bg ?_
 refine .vl (Y.ql U U) (.an (.nil (.ret ?_)))
 exact .rb rfl (dd ic)
 refine .skip (.sr (.fa bY ?_))
 refine .ld bg ?_
 refine .vl (Y.qp U U) (.mv ?_)
 refine .a8 (d:=111) U (fun uI=>?_) (fun uI=>?_)
 refine .gw 111 (Y.qo bY U U) (.gw 111 (Y.qz bg U U U U) (.gw 111 (Y.zf U U) (.gw 111 (Y.zb U U) (.pk ?_))))
 refine .mv ?_
 refine .a8 (d:=117) U (fun na=>?_) (fun na=>?_)
 refine .gw 117 (Y.qo ck U U) (.gw 117 (Y.qz bg U U U U) (.gw 117 (Y.zj U U) (.gw 117 (Y.zf U U) (.a8 (d:=121) U (fun As=>?_) (fun As=>?_)))))
 refine .gz 121 (.gz 121 (.gz 121 (.gz 121 (.gz 121 (.gz 121 (.gz 121 (.gz 121 (.gw 117 (Y.zm U U U) (.pk ?_)))))))))
 refine .an (.nil (.ret ?_))
 exact .rb rfl (dt ic)
 refine .gw 121 (Y.qo cK U U) (.gw 121 (Y.qz gy U U U U) (.gw 121 (Y.qo bY U U) (.gw 121 (Y.qz bg U U U U) (.gw 121 (Y.qr (m:=(c.mem).toNat) fu U U om (ao (d:=default) om)) (.gw 121 (Y.qo gx U U) (.gw 121 (Y.qz vT U U U U) (.gw 121 (Y.zl U) (.gw 117 (Y.zm U U U) (.pk ?_)))))))))
 refine .an (.nil (.ret ?_))
 exact .rb rfl (db ic)
 refine .gz 117 (.gz 117 (.gz 117 (.gz 117 (.gz 121 (.gz 121 (.gz 121 (.gz 121 (.gz 121 (.gz 121 (.gz 121 (.gz 121 (.gz 117 (.pk ?_)))))))))))))
 refine .an (.nil (.ret ?_))
 exact .rb rfl (df ic)
 refine .gz 111 (.gz 111 (.gz 111 (.gz 111 (.pk ?_))))
 refine .mv ?_
 refine .gz 117 (.gz 117 (.gz 117 (.gz 117 (.gz 121 (.gz 121 (.gz 121 (.gz 121 (.gz 121 (.gz 121 (.gz 121 (.gz 121 (.gz 117 (.pk ?_)))))))))))))
 refine .an (.nil (.ret ?_))
 exact .rb rfl (df ic)
 refine .sr (.an (.nil (.ret ?_)))
 exact .rb rfl (df (by (simp only [Shaped,J7,yV,pU,DC,vm,QK,yU,Cc,FL,FL,Int.reduceEq,Bool.not_eq_true,false_and,true_and,and_true,and_false,or_false,false_or,ne_eq]) <;> (first | omega | grind)))
open Go Go.AW Go.Proofs
theorem rK{l:List Int}{p:Int -> Bool}{g:Nat}{row:List X}(hl:l.length <= 17592186043904)(pI:aP Try.prog g = true)(hg:∀ z ∈ l,aw Try.prog g [vi z,.fp row 0] [] [] (fun r o=>r = .v (.bool (p z)) /\ o = [])):aw Try.prog 185 [.fz 1 (l.map ah),.jQ (.func g) [] [.fp row 0]] [] [] (fun r o=>r = (vi (wC p l)) /\ o = []):=by
 refine aw.of Try.func185 U U U (n:=19) ab (aH U) (.sr (.an ?_))
 refine .nil (.seq (.sr (.mv ?_)))
 refine .vl (Y.qw (n:=l.length) a7 U dY) (.mv ?_)
 refine .nil (.block (.gS (fun (jG:Nat)=>⟨[(0,.fz 1 (l.map ah)),(1,.jQ (.func g) [] [.fp row 0]),(7,vi l.length),(8,vi jG)],[]⟩) (fun jG=>((jG:Int) <= (l.length:Int)) /\ (∀ j,j < jG -> p (l.getD j 0) = false)) (fun jG=>((l.length:Int) - (jG:Int)).toNat) 0 (⟨om,fun j hj=>by omega⟩) (Le.mk (.c2 (.c (.cons (ak U aY) .nil))) .nil) (fun jG x9=>?_)))
 obtain ⟨Cv,h0⟩:=x9
 refine .sr (.vl (Y.zb U U) (.nil (.seq (.aB U (fun c9=>?_) (fun c9=>?_)))))
 refine .skip (.seq (.block (.sr (.mv ?_))))
 refine .an (.nil (.sr ?_))
 refine .mv ?_
 refine .mv ?_
 refine .mv ?_
 refine .vl (Y.qr (m:=jG) a7 U U aY (ao (d:=0) om)) (.ld bg ?_)
 refine .nC U pI (hg _ (eC om)) U (.ai U U (.ai U U .nil)) ab U (.nil (.cond U (fun px=>?_) (fun px=>?_)))
 refine .sr (.mv ?_)
 refine .an (.nil (.ret ?_))
 exact .ri rfl (qD h0 om px)
 refine .skip (.region (.vl (Y.qb U U aJ) (.mv ?_)))
 refine .nil (⟨jG + 1,⟨om,oG h0 px⟩,om,Le.mk (.c2 (.c (.cons (ak U aY) .nil))) .nil⟩)
 refine .exit (.sr (.an (.nil (.ret ?_))))
 exact .ri rfl (sf (fun j hj=>h0 j om))
theorem kL{l:List Int}{p:Int -> Bool}{g:Nat}{row:List X}(hl:l.length <= 17592186043904)(pI:aP Try.prog g = true)(hg:∀ z ∈ l,aw Try.prog g [vi z,.fp row 0] [] [] (fun r o=>r = .v (.bool (p z)) /\ o = [])):aw Try.prog 157 [.fz 1 (l.map ah),.jQ (.func g) [] [.fp row 0]] [] [] (fun r o=>r = .v (.bool (l.any p)) /\ o = []):=by
 refine aw.of Try.func157 U U U (n:=9) ab (aH U) (.sr (.an (.nil (.sr ?_))))
 refine .mv ?_
 refine .mv ?_
 refine .aR Om (rK (l:=l) hl pI hg) U (.ai U U (.ai U U .nil)) ab U (.vl (Y.qp U U) (.an (.nil (.ret ?_))))
 exact .rb rfl (uk)
theorem qL{l:List Cell}{p:Cell -> Bool}{g:Nat}{row:List X}(hl:l.length <= 17592186043904)(pI:aP Try.prog g = true)(hg:∀ z ∈ l,aw Try.prog g [.agg (Cell.row z),.fp row 0] [] [] (fun r o=>r = .v (.bool (p z)) /\ o = [])):aw Try.prog 188 [.fz 6 (l.map Cell.row),.jQ (.func g) [] [.fp row 0]] [] [] (fun r o=>r = (vi (wC p l)) /\ o = []):=by
 refine aw.of Try.func188 U U U (n:=19) ab (aH U) (.sr (.an ?_))
 refine .nil (.seq (.sr (.mv ?_)))
 refine .vl (Y.qw (n:=l.length) dU U dY) (.mv ?_)
 refine .nil (.block (.gS (fun (jG:Nat)=>⟨[(0,.fz 6 (l.map Cell.row)),(1,.jQ (.func g) [] [.fp row 0]),(7,vi l.length),(8,vi jG)],[]⟩) (fun jG=>((jG:Int) <= (l.length:Int)) /\ (∀ j,j < jG -> p (l.getD j default) = false)) (fun jG=>((l.length:Int) - (jG:Int)).toNat) 0 (⟨om,fun j hj=>by omega⟩) (Le.mk (.c2 (.c (.cons (ak U aY) .nil))) .nil) (fun jG x9=>?_)))
 obtain ⟨Cv,h0⟩:=x9
 refine .sr (.vl (Y.zb U U) (.nil (.seq (.aB U (fun c9=>?_) (fun c9=>?_)))))
 refine .skip (.seq (.block (.sr (.mv ?_))))
 refine .an (.nil (.sr ?_))
 refine .mv ?_
 refine .mv ?_
 refine .mv ?_
 refine .vl (Y.qr (m:=jG) dU U U aY (ao (d:=default) om)) (.vl (Y.za fq U U (aH U) U U) (.nC U pI (hg _ (eC om)) U (.ai U U (.ai U U .nil)) ab U (.nil (.cond U (fun px=>?_) (fun px=>?_)))))
 refine .sr (.mv ?_)
 refine .an (.nil (.ret ?_))
 exact .ri rfl (qD h0 om px)
 refine .skip (.region (.vl (Y.qb U U aJ) (.mv ?_)))
 refine .nil (⟨jG + 1,⟨om,oG h0 px⟩,om,Le.mk (.c2 (.c (.cons (ak U aY) .nil))) .nil⟩)
 refine .exit (.sr (.an (.nil (.ret ?_))))
 exact .ri rfl (sf (fun j hj=>h0 j om))
theorem oq{l:List Cell}{p:Cell -> Bool}{g:Nat}{row:List X}(hl:l.length <= 17592186043904)(pI:aP Try.prog g = true)(hg:∀ z ∈ l,aw Try.prog g [.agg (Cell.row z),.fp row 0] [] [] (fun r o=>r = .v (.bool (p z)) /\ o = [])):aw Try.prog 162 [.fz 6 (l.map Cell.row),.jQ (.func g) [] [.fp row 0]] [] [] (fun r o=>r = .v (.bool (l.any p)) /\ o = []):=by
 refine aw.of Try.func162 U U U (n:=9) ab (aH U) (.sr (.an (.nil (.sr ?_))))
 refine .mv ?_
 refine .mv ?_
 refine .aR Oq (qL (l:=l) hl pI hg) U (.ai U U (.ai U U .nil)) ab U (.vl (Y.qp U U) (.an (.nil (.ret ?_))))
 exact .rb rfl (uk)
theorem uJ{l:List Bool}{b:Bool}(hl:l.length <= 140737488351232):aw Try.prog 187 [.fz 1 (l.map jO),.v (.bool b)] [] [] (fun r o=>r = (vi (wC (fun x=>b == x) l)) /\ o = []):=by
 refine aw.of Try.func187 U U U (n:=19) ab (aH U) (.sr (.an ?_))
 refine .nil (.seq (.sr (.mv ?_)))
 refine .vl (Y.qw (n:=l.length) ss U dY) (.mv ?_)
 refine .nil (.block (.gS (fun (jG:Nat)=>⟨[(0,.fz 1 (l.map jO)),(1,.v (.bool b)),(7,vi l.length),(8,vi jG)],[]⟩) (fun jG=>((jG:Int) <= (l.length:Int)) /\ (∀ j,j < jG -> (fun x=>b == x) (l.getD j false) = false)) (fun jG=>((l.length:Int) - (jG:Int)).toNat) 0 (⟨om,fun j hj=>by omega⟩) (Le.mk (.c2 (.c (.cons (ak U aY) .nil))) .nil) (fun jG x9=>?_)))
 obtain ⟨Cv,h0⟩:=x9
 refine .sr (.vl (Y.zb U U) (.nil (.seq (.aB U (fun c9=>?_) (fun c9=>?_)))))
 refine .skip (.seq (.block (.sr (.mv ?_))))
 refine .an (.nil (.sr ?_))
 refine .mv ?_
 refine .mv ?_
 refine .mv ?_
 refine .vl (Y.qr (m:=jG) ss U U aY (ao (d:=false) om)) (.ld vT ?_)
 refine .vl (Y.qm X3 U U) (.nil (.cond U (fun px=>?_) (fun px=>?_)))
 refine .sr (.mv ?_)
 refine .an (.nil (.ret ?_))
 exact .ri rfl (qD (d:=false) h0 om px)
 refine .skip (.region (.vl (Y.qb U U aJ) (.mv ?_)))
 refine .nil (⟨jG + 1,⟨om,oG h0 px⟩,om,Le.mk (.c2 (.c (.cons (ak U aY) .nil))) .nil⟩)
 refine .exit (.sr (.an (.nil (.ret ?_))))
 exact .ri rfl (sf (d:=false) (fun j hj=>h0 j om))
theorem rL{l:List Bool}{b:Bool}(hl:l.length <= 140737488351232):aw Try.prog 161 [.fz 1 (l.map jO),.v (.bool b)] [] [] (fun r o=>r = .v (.bool (l.any (fun x=>b == x))) /\ o = []):=by
 refine aw.of Try.func161 U U U (n:=9) ab (aH U) (.sr (.an (.nil (.sr ?_))))
 refine .mv ?_
 refine .mv ?_
 refine .aR Oo (uJ (l:=l) (b:=b) (om)) U (.ai U U (.ai U U .nil)) ab U (.vl (Y.qp U U) (.an (.nil (.ret ?_))))
 exact .rb rfl (uk)
open Go Go.AW Go.Proofs
theorem CY{n:Nat}(hn:n <= 35184372088832):aw Try.prog 184 [vn,vi n] [] [] (fun r o=>r = .dK 1 (([]:List Int).map ah) /\ o = []):=by
 refine aw.of Try.func184 U U U (n:=27) ab (aH U) (.sr (.an ?_))
 refine .nil (.seq (.sr (.mv ?_)))
 refine .vl (Y.zb U U) (.nil (.aB U (fun c6=>?_) (fun c6=>?_)))
 exfalso; omega
 refine .skip (.seq (.sr (.mv ?_)))
 refine .mv ?_
 refine .vl (Y.qi a7 U) (.mv ?_)
 refine .vl (Y.qw (n:=0) a7 U U) (.vl (Y.wa U U aJ) (.vl (Y.wa U U aJ) (.an (.nil (.sr ?_)))))
 refine .mv ?_
 refine .vl (Y.qq U U) (.nil (.aB U (fun px=>?_) (fun px=>?_)))
 refine .region (.mv ?_)
 refine .mv ?_
 refine .vl (Y.qi a7 U) (.vl (Y.zx a7 U (.none _) (.some U)) (.mv ?_))
 refine .zM (n:=(((n:Int) - (0 - 0)).toNat)) a7 dG U U r4 U (by first | rfl | (rw [show ((n:Int) - (0 - 0):Int) = ((((n:Int) - (0 - 0)).toNat:Nat):Int) by omega]; rfl)) om ab om om ab ?_
 refine .mv ?_
 refine .vl (Y.qw (n:=0) a7 U U) (.sh (Sh.dD (d:=22) (n:=(List.replicate (((n:Int) - (0 - 0)).toNat) 0).length) 122 ((List.replicate (((n:Int) - (0 - 0)).toNat) 0).map ah) U iX (aW U) ab) (.vl (Y.zy (l:=0) (h:=0) a7 U (.none _) (.some U) om om) (.an (.nil (.sr ?_)))))
 refine .mv ?_
 refine .an ?_
 exact .sh (Sh.IT (d:=4) (o:=122) (([]:List Int).map ah) U U (by simp) (by simp) ab) (.sh (Sh.dL (d:=4) (o:=122) U U (aW aJ) ab) (.nil (.ret ⟨_,_,U,U,(Eg (fun (z0:List Int)=>X.dK 1 (z0.map ah)) (U:([]:List Int) = ([]:List Int)):X.dK 1 (([]:List Int).map ah) = X.dK 1 (([]:List Int).map ah)),U⟩)))
 refine .skip (.sr (.mv ?_))
 refine .an ?_
 exact .nil (.sh (Sh.vr (d:=4) 1 U) (.ret ⟨_,_,U,U,(Eg (fun (z0:List Int)=>X.dK 1 (z0.map ah)) (U:([]:List Int) = ([]:List Int)):X.dK 1 (([]:List Int).map ah) = X.dK 1 (([]:List Int).map ah)),U⟩))
theorem yt{ls:List (List Int)}(h1:ls.length <= 1000)(hn:ls.flatten.length <= 17592186044416):aw Try.prog 153 [.fz 1 (ls.map ef)] [] [] (fun r o=>r = .dK 1 (ls.flatten.map ah) /\ o = []):=by
 refine aw.of Try.func153 U U U (n:=36) ab (aH U) (.sr (.an (.nil (.sr ?_))))
 refine .an ?_
 refine .nil (.seq (.sr (.mv ?_)))
 refine .vl (Y.qw (n:=ls.length) ee U dY) (.mv ?_)
 refine .nil (.block (.gT (fun (nM:Nat) (eV:Nat)=>⟨[(0,.fz 1 (ls.map ef)),(3,vi nM),(9,.fz 1 (ls.map ef)),(10,vi ls.length),(11,vi eV)],[]⟩) (fun nM eV=>((eV:Int) <= (ls.length:Int)) /\ (nM = (ls.take eV).flatten.length)) (fun nM eV=>((ls.length:Int) - (eV:Int)).toNat) 0 0 (⟨om,U⟩) (Le.mk (.c (.cons (ak U aY) (.c2 (.cons (ak U aY) .nil)))) .nil) (fun nM eV pK=>?_)))
 obtain ⟨CL,hs⟩:=pK
 refine .sr (.vl (Y.zb U U) (.nil (.seq (.aB U (fun yX=>?_) (fun yX=>?_)))))
 refine .skip (.seq (.block (.sr ?_)))
 have hf:=congrArg List.length (vK (ls:=ls) (i:=eV) om)
 rw [List.length_append] at hf
 have QL:=rr ls (eV + 1)
 have Pp:=rr ls eV
 refine .vl (Y.qr (m:=eV) ee U U aY (ao (d:=[]) om)) (.ld bn ?_)
 refine .an (.nil (.sr ?_))
 refine .mv ?_
 refine .mv ?_
 refine .vl (Y.qw (n:=(ls.getD eV []).length) a7 U dY) (.vl (Y.qb U U aJ) (.an (.nil (.sr ?_))))
 refine .mv ?_
 refine .vl (Y.zb U U) (.nil (.aB U (fun CJ=>?_) (fun CJ=>?_)))
 exfalso; omega
 refine .skip (.region (.vl (Y.qb U U aJ) (.mv ?_)))
 refine .nil (⟨nM + ((ls.getD eV []).length),eV + 1,⟨om,om⟩,om,Le.mk (.c (.cons (ak U aY) (.c2 (.cons (ak U aY) .nil)))) .nil⟩)
 refine .exit (.sr ?_)
 have Pp:=rr ls eV
 refine .mv ?_
 refine .aR Ol (CY (n:=nM) (om)) U (.ai U U (.ai U U .nil)) ab U ?_
 refine .bX U ab (.sh (Sh.dD (d:=6) (n:=([]:List Int).length) 106 (([]:List Int).map ah) U iX (aW U) ab) (.nil (.seq (.sr (.mv ?_)))))
 refine .vl (Y.qw (n:=ls.length) ee U dY) (.mv ?_)
 refine .nil (.block (.gT (fun (ji:Nat) (eb:List Int)=>⟨[(6,.aN 106 1 0 eb.length),(25,.fz 1 (ls.map ef)),(26,vi ls.length),(27,vi ji)],[(106,.rows 1 (eb.map ah))]⟩) (fun ji eb=>((ji:Int) <= (ls.length:Int)) /\ (eb = (ls.take ji).flatten)) (fun ji eb=>((ls.length:Int) - (ji:Int)).toNat) 0 ([]:List Int) (⟨om,U⟩) (Le.mk (.cons (aM U om) (.c2 (.cons (ak U aY) .nil))) (.c .nil)) (fun ji eb La=>?_)))
 obtain ⟨XH,ht⟩:=La
 refine .sr (.vl (Y.zb U U) (.nil (.seq (.aB U (fun xW=>?_) (fun xW=>?_)))))
 refine .skip (.seq (.block (.sr ?_)))
 have hf:=vK (ls:=ls) (i:=ji) om
 have VC:=congrArg List.length hf
 rw [List.length_append] at VC
 have QL:=rr ls (ji + 1)
 have Pp:=rr ls ji
 have XI:=congrArg List.length ht
 refine .vl (Y.qr (m:=ji) ee U U aY (ao (d:=[]) om)) (.ld bn ?_)
 refine .an (.nil (.region ?_))
 refine .mv ?_
 refine .mv ?_
 refine .tY ((eb ++ (ls.getD ji [])).map ah) (eb ++ (ls.getD ji [])).length a7 dG U U U U (bh aJ) (aV aJ) (b8 aJ) aJ aJ ab ab ?_
 refine .an (.nil (.region ?_))
 refine .vl (Y.qb U U aJ) (.mv ?_)
 refine .nil (⟨ji + 1,eb ++ (ls.getD ji []),⟨om,by rw [ht]; exact hf.symm⟩,om,Le.mk (.cons (aM U om) (.c2 (.cons (ak U aY) .nil))) (.c .nil)⟩)
 refine .exit (.sr (.mv ?_))
 refine .an ?_
 exact .sh (Sh.dL (d:=2) (o:=106) U U (aW om) ab) (.nil (.ret ⟨_,_,U,U,(Eg (fun (z0:List Int)=>X.dK 1 (z0.map ah)) (by rw [ht,List.take_of_length_le om]:eb = ls.flatten):X.dK 1 (eb.map ah) = X.dK 1 (ls.flatten.map ah)),U⟩))
end Go.Proofs.Ytlimckldnjmabaa
