/- Levels and delays, in plain Lean. -/
import Derived.Test.YtlimckldnjmabaaSynx0
set_option linter.unusedSimpArgs false
set_option linter.unusedVariables false
set_option linter.unusedSectionVars false
set_option maxRecDepth 4000
set_option maxHeartbeats 8000000
namespace Go.Proofs.Ytlimckldnjmabaa
open Go Go.AW Go.Proofs
def cF(n:Nat):Nat:=if n <= 1 then 0 else Nat.log2 (n - 1) + 1
theorem Fm{n k:Nat}(h1:n <= 2 ^ k)(h2:k = 0 \/ 2 ^ (k - 1) < n):cF n = k:=by
 unfold cF
 by_cases e:n <= 1
 ·rw [if_pos e]
  rcases h2 with h2 | h2
  ·exact h2.symm
  ·have:=Nat.one_le_two_pow (n:=k - 1); omega
 ·rw [if_neg e]
  rcases h2 with h2 | h2
  ·subst h2; simp at h1; omega
  ·have hk:0 < k:=by
    rcases Nat.eq_zero_or_pos k with h | h
    ·subst h; simp at h1; omega
    ·exact h
   have:Nat.log2 (n - 1) = k - 1:=by
    rw [Nat.log2_eq_iff om]
    rw [show k - 1 + 1 = k by omega]
    omega
   omega
theorem oa{n k:Nat}(h:n <= 2 ^ k):cF n <= k:=by
 unfold cF
 by_cases e:n <= 1
 ·rw [if_pos e]; omega
 ·rw [if_neg e]
  have:=(Nat.log2_lt (n:=n - 1) (k:=k) om).2 om
  omega
def aK(op:Int)(w:Nat):Int :=
 if op = 9 \/ op = 10 \/ op = 11 then 20 else if op = 2 then 40 + 40 * (cF w:Int) else if op = 3 then 50 + 40 * (cF w:Int) else if op = 15 \/ op = 16 then 30 + 20 * (cF w:Int)
 else if op = 17 \/ op = 18 then 40 + 40 * (cF (w + 1):Int) else if op = 19 \/ op = 20 then 50 + 40 * (cF (w + 1):Int) else if op = 21 then 50 else if op = 12 \/ op = 13 then 30 + 40 * (cF w:Int)
 else if op = 14 then 50 + 40 * (cF w:Int) else 0
theorem CX{op:Int}{w:Nat}(h:w <= 64):0 <= aK op w /\ aK op w <= 400:=by
 have h1:cF w <= 6:=oa om
 have h2:cF (w + 1) <= 7:=oa om
 unfold aK
 repeat' split
 all_goals omega
def l4(n:ab)(c:Cell):Int :=
 if c.kind = 1 then 0 else if c.kind = 2 then aK c.op (if jY c.op then n.av c 0 else n.wd c.out).toNat else if c.kind = 3 then 20 + 20 * (cF (c.args.length / 2):Int) else 30
theorem Lh{n:ab}{c:Cell}(hw:∀ w ∈ n.aa,dz w)(ha:c.args.length <= 200):0 <= l4 n c /\ l4 n c <= 400:=by
 have v3:∀ w,(n.wd w).toNat <= 64:=fun w=>by
  unfold ab.wd
  rw [List.getD_eq_getElem?_getD]
  cases h:n.aa[w.toNat]? with
  | none=>simp
  | some v =>
   have:=hw v (List.mem_of_getElem? h)
   unfold dz at this
   simp only [Option.getD_some]; omega
 have hl:cF (c.args.length / 2) <= 7:=oa om
 unfold l4
 split
 ·omega
 split
 ·refine CX ?_
  split
  ·exact v3 _
  ·exact v3 _
 split
 ·omega
 ·omega
open Go Go.AW
theorem sJ:∀ n:Nat,n <= 2 ^ cF n:=fun n=>by
 unfold cF
 by_cases h:n <= 1
 ·rw [if_pos h]; simpa using h
 ·rw [if_neg h]
  have:=@Nat.lt_log2_self (n - 1)
  omega
theorem Li{n:Nat}(h:2 <= n):2 ^ (cF n - 1) < n /\ 1 <= cF n:=by
 unfold cF
 rw [if_neg om]
 have:=Nat.log2_self_le (n:=n - 1) om
 rw [Nat.add_sub_cancel]; omega
theorem rS{m:Nat}(h:2 <= m):cF ((m + 1) / 2) + 1 = cF m:=by
 have h1:=sJ m
 obtain ⟨h2,h3⟩:=Li h
 obtain ⟨k,hk⟩:∃ k,cF m = k + 1:=⟨cF m - 1,om⟩
 rw [hk] at h1 h2 ⊢
 rw [Nat.add_sub_cancel] at h2
 rw [Nat.pow_succ] at h1
 have:cF ((m + 1) / 2) = k:=by
  refine Fm om ?_
  rcases Nat.eq_zero_or_pos k with h4 | h4
  ·exact .inl h4
  ·refine .inr ?_
   obtain ⟨j,rfl⟩:∃ j,k = j + 1:=⟨k - 1,om⟩
   rw [Nat.add_sub_cancel]
   rw [Nat.pow_succ] at h2
   omega
 omega
theorem pb{a b:Nat}(h:a <= b):cF a <= cF b:=oa (Nat.le_trans h (sJ b))
theorem BS{n:Nat}(h:n <= 1):cF n = 0:=by unfold cF; rw [if_pos h]
def kq(f : Nat → Bool) : Nat → Bool
 | 0=>false
 | n + 1=>f n || kq f n
theorem lY{f : Nat → Bool} : ∀ {n}, kq f n = true ↔ ∃ k, k < n ∧ f k = true
 | 0=>by simp [kq]
 | n + 1=>by
  simp only [kq,Bool.or_eq_true,lY (n:=n)]
  constructor
  ·rintro (h | ⟨k,hk,h⟩)
   ·exact ⟨n,om,h⟩
   ·exact ⟨k,om,h⟩
  ·rintro ⟨k,hk,h⟩
   rcases Nat.lt_or_ge k n with h1 | h1
   ·exact .inr ⟨k,h1,h⟩
   ·obtain rfl:k = n:=by omega
    exact .inl h
def uP(f:Nat -> Bool)(m k:Nat):Bool:=if 2 * k + 1 < m then f (2 * k) || f (2 * k + 1) else f (2 * k)
theorem w5{f:Nat -> Bool}{m:Nat}:kq (uP f m) ((m + 1) / 2) = kq f m:=by
 apply Bool.eq_iff_iff.2
 rw [lY,lY]
 constructor
 ·rintro ⟨k,hk,h⟩
  unfold uP at h
  by_cases h1:2 * k + 1 < m
  ·rw [if_pos h1,Bool.or_eq_true] at h
   rcases h with h | h
   ·exact ⟨_,om,h⟩
   ·exact ⟨_,h1,h⟩
  ·rw [if_neg h1] at h; exact ⟨_,om,h⟩
 ·rintro ⟨k,hk,h⟩
  refine ⟨k / 2,om,?_⟩
  unfold uP
  by_cases h1:2 * (k / 2) + 1 < m
  ·rw [if_pos h1,Bool.or_eq_true]
   rcases (show 2 * (k / 2) = k \/ 2 * (k / 2) + 1 = k by omega) with h2 | h2
   ·rw [h2]; exact .inl h
   ·rw [h2]; exact .inr h
  ·rw [if_neg h1,show 2 * (k / 2) = k by omega]; exact h
def uQ(G P:Nat -> Bool)(m k:Nat):Bool:=if 2 * k + 1 < m then G (2 * k + 1) || (P (2 * k + 1) && G (2 * k)) else G (2 * k)
def uR(P:Nat -> Bool)(m k:Nat):Bool:=if 2 * k + 1 < m then P (2 * k + 1) && P (2 * k) else P (2 * k)
theorem sK{G P : Nat → Bool}{m : Nat}{z : Bool} : ∀ k, 2 * k ≤ m → ca (uQ G P m) (uR P m) 0 k z = ca G P 0 (2 * k) z
 | 0,_=>rfl
 | k + 1,h=>by
  rw [ca,sK k om,show 2 * (k + 1) = 2 * k + 1 + 1 by omega,ca,ca]
  simp only [Nat.zero_add,uQ,uR]
  rw [if_pos om,if_pos om]
  cases G (2 * k + 1) <;> cases P (2 * k + 1) <;> cases G (2 * k) <;> cases P (2 * k) <;> cases ca G P 0 (2 * k) z <;> rfl
theorem BT{G P:Nat -> Bool}{m:Nat}{z:Bool}:ca (uQ G P m) (uR P m) 0 ((m + 1) / 2) z = ca G P 0 m z:=by
 rcases (show 2 * ((m + 1) / 2) = m \/ 2 * ((m + 1) / 2) = m + 1 by omega) with h | h
 ·rw [sK _ om,h]
 ·obtain ⟨k,hk⟩:∃ k,(m + 1) / 2 = k + 1:=⟨(m + 1) / 2 - 1,om⟩
  rw [hk,ca,sK k om]
  have h1:m = 2 * k + 1:=by omega
  subst h1
  rw [ca]
  simp only [Nat.zero_add,uQ,uR]
  rw [if_neg om,if_neg om]
def JQ{w:Nat}(x y:BitVec w)(i:Nat):Bool:=!x.getLsbD i && y.getLsbD i
def Lj{w:Nat}(x y:BitVec w)(i:Nat):Bool:=!(x.getLsbD i ^^ y.getLsbD i)
theorem JR{w : Nat}{x y : BitVec w} : ∀ n, ca (JQ x y) (Lj x y) 0 n false = decide (x.toNat % 2 ^ n < y.toNat % 2 ^ n)
 | 0=>by simp [ca,Nat.mod_one]
 | n + 1=>by
  rw [ca,JR n,Nat.mod_pow_succ,Nat.mod_pow_succ]
  have h1:=Nat.mod_lt x.toNat (Nat.two_pow_pos n)
  have h2:=Nat.mod_lt y.toNat (Nat.two_pow_pos n)
  simp only [Nat.zero_add,JQ,Lj,BitVec.getLsbD,Nat.testBit_eq_decide_div_mod_eq]
  rcases Nat.mod_two_eq_zero_or_one (x.toNat / 2 ^ n) with h3 | h3 <;> rcases Nat.mod_two_eq_zero_or_one (y.toNat / 2 ^ n) with h4 | h4 <;> rw [h3,h4] <;> simp <;> omega
theorem Fo{w:Nat}{x y:BitVec w}:ca (JQ x y) (Lj x y) 0 w false = x.ult y:=by
 rw [JR,Nat.mod_eq_of_lt x.isLt,Nat.mod_eq_of_lt y.isLt]; rfl
def Fp{w:Nat}(x y:BitVec w)(i:Nat):Bool:=if i + 1 = w then !y.getLsbD i && x.getLsbD i else JQ x y i
theorem Lk{w:Nat}{x y:BitVec w}(h:0 < w):ca (Fp x y) (Lj x y) 0 w false = x.slt y:=by
 obtain ⟨n,rfl⟩:∃ n,w = n + 1:=⟨w - 1,om⟩
 have h1:ca (Fp x y) (Lj x y) 0 n false = ca (JQ x y) (Lj x y) 0 n false:=rP (fun i hi=>by unfold Fp; rw [if_neg om]) (fun _ _=>rfl)
 have h2:=Fo (x:=x) (y:=y)
 rw [ca] at h2 ⊢
 rw [h1,BitVec.slt_eq_ult,<- h2,BitVec.msb_eq_getLsbD_last,BitVec.msb_eq_getLsbD_last]
 simp only [Nat.zero_add,Fp,if_true,JQ,Lj,Nat.add_sub_cancel]
 cases x.getLsbD n <;> cases y.getLsbD n <;> simp
theorem Ll{w:Nat}{x y:BitVec w}:kq (fun i=>x.getLsbD i ^^ y.getLsbD i) w = decide (x ≠ y):=by
 apply Bool.eq_iff_iff.2
 rw [lY,decide_eq_true_iff]
 constructor
 ·rintro ⟨k,_,h⟩ rfl
  simp at h
 ·intro h
  apply Classical.byContradiction
  intro hn
  refine h (BitVec.eq_of_getLsbD_eq fun i hi=>?_)
  apply Classical.byContradiction
  intro h1
  refine hn ⟨i,hi,?_⟩
  cases h2:x.getLsbD i <;> cases h3:y.getLsbD i <;> simp_all
open Go Go.AW
def ub(left:Bool)(w:Nat)(a:Nat -> Bool)(fill:Bool)(s i:Nat):Bool :=
 if left then (if s <= i then a (i - s) else fill) else (if i + s < w then a (i + s) else fill)
def Pw(left:Bool)(k i:Nat):Int:=if left then (i:Int) - 2 ^ k else (i:Int) + 2 ^ k
theorem Fq{left:Bool}{w:Nat}{a:Nat -> Bool}{fill:Bool}{i:Nat}(h:i < w):ub left w a fill 0 i = a i:=by
 unfold ub
 cases left
 ·simp only [Bool.false_eq_true,if_false]; rw [if_pos om]; rfl
 ·simp only [if_true]; rw [if_pos om]; rfl
theorem Fs{left : Bool}{w : Nat}{a : Nat → Bool}{fill : Bool}{s i p : Nat}(h : i < w) :
  ub left w a fill (s + p) i = (if left then (if p <= i then ub left w a fill s (i - p) else fill) else (if i + p < w then ub left w a fill s (i + p) else fill)):=by
 unfold ub
 cases left
 ·simp only [Bool.false_eq_true,if_false]
  by_cases h1:i + p < w
  ·rw [if_pos h1]
   by_cases h2:i + p + s < w
   ·rw [if_pos om,if_pos h2,show i + (s + p) = i + p + s by omega]
   ·rw [if_neg om,if_neg h2]
  ·rw [if_neg h1,if_neg om]
 ·simp only [if_true]
  by_cases h1:p <= i
  ·rw [if_pos h1]
   by_cases h2:s <= i - p
   ·rw [if_pos om,if_pos h2,show i - (s + p) = i - p - s by omega]
   ·rw [if_neg om,if_neg h2]
  ·rw [if_neg h1,if_neg om]
theorem Ft{w:Nat}{b:BitVec w}{k:Nat}:b.toNat % 2 ^ (k + 1) = b.toNat % 2 ^ k + (if b.getLsbD k then 2 ^ k else 0):=by
 rw [Nat.mod_pow_succ,BitVec.getLsbD,Nat.testBit_eq_decide_div_mod_eq]
 rcases Nat.mod_two_eq_zero_or_one (b.toNat / 2 ^ k) with h | h <;> rw [h] <;> simp
theorem Ap{w st:Nat}{b:BitVec w}(h:kq (fun j=>b.getLsbD (st + j)) (w - st) = false):b.toNat % 2 ^ st = b.toNat:=by
 refine Nat.mod_eq_of_lt (Nat.lt_pow_two_of_testBit _ fun i hi=>?_)
 rcases Nat.lt_or_ge i w with h1 | h1
 ·apply Classical.byContradiction
  intro hn
  have h2:kq (fun j=>b.getLsbD (st + j)) (w - st) = true:=lY.2 ⟨i - st,om,by
   show b.getLsbD (st + (i - st)) = true
   rw [show st + (i - st) = i by omega]
   simpa [BitVec.getLsbD] using hn⟩
  rw [h] at h2; cases h2
 ·exact Nat.testBit_lt_two_pow (Nat.lt_of_lt_of_le b.isLt (Nat.pow_le_pow_right om h1))
theorem xa{w st:Nat}{b:BitVec w}(h:kq (fun j=>b.getLsbD (st + j)) (w - st) = true)(hw:w <= 2 ^ st):w <= b.toNat:=by
 obtain ⟨k,_,hk⟩:=lY.1 h
 have h1:2 ^ (st + k) <= b.toNat:=Nat.ge_two_pow_of_testBit hk
 have h2:2 ^ st <= 2 ^ (st + k):=Nat.pow_le_pow_right om om
 omega
theorem Im{w st i : Nat}{a b : BitVec w}(hw : w ≤ 2 ^ st)(h : i < w) :
  (a <<< b.toNat).getLsbD i = ((!kq (fun j=>b.getLsbD (st + j)) (w - st)) && ub true w a.getLsbD false (b.toNat % 2 ^ st) i):=by
 cases hf:kq (fun j=>b.getLsbD (st + j)) (w - st) with
 | true =>
  have:=xa hf hw
  rw [BitVec.getLsbD_shiftLeft]
  simp; omega
 | false =>
  rw [Ap hf,BitVec.getLsbD_shiftLeft]
  unfold ub
  rw [if_pos rfl]
  by_cases h1:b.toNat <= i
  ·rw [if_pos h1]; simp [h]; omega
  ·rw [if_neg h1]; simp; omega
theorem Io{w st i : Nat}{a b : BitVec w}(hw : w ≤ 2 ^ st)(_ : i < w) :
  (a >>> b.toNat).getLsbD i = ((!kq (fun j=>b.getLsbD (st + j)) (w - st)) && ub false w a.getLsbD false (b.toNat % 2 ^ st) i):=by
 rw [BitVec.getLsbD_ushiftRight]
 cases hf:kq (fun j=>b.getLsbD (st + j)) (w - st) with
 | true =>
  have:=xa hf hw
  rw [BitVec.getLsbD_of_ge _ _ om]; rfl
 | false =>
  rw [Ap hf]
  unfold ub
  simp only [Bool.false_eq_true,if_false]
  by_cases h1:i + b.toNat < w
  ·rw [if_pos h1,Nat.add_comm]; rfl
  ·rw [if_neg h1,BitVec.getLsbD_of_ge _ _ om]; rfl
theorem Ip{w st i : Nat}{a b : BitVec w}(hw : w ≤ 2 ^ st)(h : i < w) :
  (a.sshiftRight b.toNat).getLsbD i = (if kq (fun j=>b.getLsbD (st + j)) (w - st) then a.msb else ub false w a.getLsbD a.msb (b.toNat % 2 ^ st) i):=by
 rw [BitVec.getLsbD_sshiftRight]
 cases hf:kq (fun j=>b.getLsbD (st + j)) (w - st) with
 | true =>
  have:=xa hf hw
  rw [if_pos rfl,if_neg om]
  simp; omega
 | false =>
  rw [Ap hf]
  unfold ub
  simp only [Bool.false_eq_true,if_false]
  by_cases h1:i + b.toNat < w
  ·rw [if_pos h1,if_pos om,Nat.add_comm]; simp; omega
  ·rw [if_neg h1,if_neg om]; simp; omega
open Go Go.AW
section
variable {c:Int} {g0 gl:List Gate} {a out:List Int} {f:Nat -> List Bool -> Bool} {t:Int} {i n:Nat}
structure yv(c:Int)(g0 gl:List Gate)(out:List Int)(h:Nat -> List Bool -> Bool)(u:Int)(i:Nat):Prop where
 ext:Ext g0 gl
 len:gl.length = g0.length + i
 ol:out.length = i
 ws:Ws c gl out h u
theorem yv.init{h:Nat -> List Bool -> Bool}{u:Int}(hg:Good g0):yv c g0 g0 [] h u 0:=⟨.refl hg,rfl,rfl,.nil⟩
theorem yv.put{h:Nat -> List Bool -> Bool}{u:Int}{q:Gate}(k:yv c g0 gl out h u i)(he:Ext gl (gl ++ [q]))(hw:Wr c (gl ++ [q]) (gl.length:Int) (h i) u):yv c g0 (gl ++ [q]) (out ++ [(gl.length:Int)]) h u (i + 1) :=
 ⟨k.ext.trans he,by rw [List.length_append,k.len]; rfl,by rw [List.length_append,k.ol]; rfl,(k.ws.ext he).snoc (by rw [k.ol]; exact hw)⟩
theorem yv.not(k : yv c g0 gl out (fun k ins => !f k ins) (t + 10) i)(ha : Ws c g0 a f t)(hi : i < a.length) :
  yv c g0 (gl ++ [⟨4,a.getD i 0,0⟩]) (out ++ [(gl.length:Int)]) (fun k ins=>!f k ins) (t + 10) (i + 1):=by
 have h1:=(ha.bit i hi).ext k.ext
 exact k.put (Ext.not k.ext.dP h1) (h1.not (Int.le_refl _))
theorem yv.two{k : Int}{b : List Int}{h : Nat → List Bool → Bool}{e : Nat → List Bool → Bool}{u : Int}(m : yv c g0 gl out e u i)(hk : 5 ≤ k ∧ k ≤ 7)(ha : Wr c g0 (a.getD i 0) (f i) t)(hb : Wr c g0 (b.getD i 0) (h i) t)(hu : t + 20 ≤ u)
  (he:∀ ins,e i ins = if k = 5 then (f i ins && h i ins) else if k = 6 then (f i ins || h i ins) else (f i ins ^^ h i ins)) :
  yv c g0 (gl ++ [⟨k,a.getD i 0,b.getD i 0⟩]) (out ++ [(gl.length:Int)]) e u (i + 1):=by
 have h1:=ha.ext m.ext
 have h2:=hb.ext m.ext
 refine m.put (Ext.two m.ext.dP hk h1 h2) ?_
 rcases (show k = 5 \/ k = 6 \/ k = 7 by omega) with rfl | rfl | rfl
 ·exact (h1.and h2 hu hu).as fun ins=>by rw [he]; rfl
 ·exact (h1.or h2 hu hu).as fun ins=>by rw [he]; rfl
 ·exact (h1.xor h2 hu hu).as fun ins=>by rw [he]; rfl
structure sL(c:Int)(g0:List Gate)(f:Nat -> List Bool -> Bool)(n:Nat)(t:Int)(gl:List Gate)(l:List Int):Prop where
 ext:Ext g0 gl
 len:gl.length + l.length <= g0.length + n
 lo:1 <= l.length
 ex:∃ (f':Nat -> List Bool -> Bool) (t':Int),Ws c gl l f' t' /\ (∀ ins,kq (fun k=>f' k ins) l.length = kq (fun k=>f k ins) n) /\ t' + 20 * (cF l.length:Int) <= t + 20 * (cF n:Int)
theorem sL.init(hg:Good g0)(ha:Ws c g0 a f t)(h:1 <= a.length):sL c g0 f a.length t g0 a:=⟨.refl hg,Nat.le_refl _,h,f,t,ha,fun _=>rfl,Int.le_refl _⟩
theorem sL.done{l:List Int}(h:sL c g0 f n t gl l)(h1:l.length <= 1):Wr c gl (l.getD 0 0) (fun ins=>kq (fun k=>f k ins) n) (t + 20 * (cF n:Int)):=by
 obtain ⟨f',t',hw,he,ht⟩:=h.ex
 have hl:l.length = 1:=by have:=h.lo; omega
 rw [BS h1] at ht
 refine ((hw.bit 0 om).late om).as fun ins=>?_
 rw [<- he ins,hl]; simp [kq]
structure uS(c:Int)(g1:List Gate)(l:List Int)(gl:List Gate)(next:List Int)(i:Nat):Prop where
 ext:Ext g1 gl
 even:i % 2 = 0
 hi:i <= l.length
 nl:next.length = i / 2
 len:gl.length = g1.length + i / 2
 ws:∀ f t,Ws c g1 l f t -> Ws c gl next (fun k ins=>uP (fun k=>f k ins) l.length k) (t + 20)
theorem uS.init{g1:List Gate}{l:List Int}(hg:Good g1):uS c g1 l g1 [] 0:=⟨.refl hg,rfl,om,rfl,rfl,fun _ _ _=>.nil⟩
theorem uS.step{g1 : List Gate}{l next : List Int}(h : uS c g1 l gl next i)(hl : i + 1 < l.length)(hw : ∃ f t, Ws c g1 l f t) :
  uS c g1 l (gl ++ [⟨6,l.getD i 0,l.getD (i + 1) 0⟩]) (next ++ [(gl.length:Int)]) (i + 2):=by
 have he:=h.even
 obtain ⟨f0,t0,h0⟩:=hw
 have hx:Ext gl (gl ++ [⟨6,l.getD i 0,l.getD (i + 1) 0⟩]):=Ext.two h.ext.dP ae ((h0.bit i om).ext h.ext) ((h0.bit (i + 1) hl).ext h.ext)
 refine ⟨h.ext.trans hx,om,om,by rw [List.length_append,h.nl,List.length_singleton]; omega,by rw [List.length_append,h.len,List.length_singleton]; omega,fun f t hf=>?_⟩
 refine ((h.ws f t hf).ext hx).snoc ?_
 refine (((hf.bit i om).ext h.ext).or ((hf.bit (i + 1) hl).ext h.ext) (Int.le_refl _) (Int.le_refl _)).as fun ins=>?_
 rw [h.nl]; unfold uP
 rw [show 2 * (i / 2) = i by omega,if_pos hl]
theorem uS.Y6{g1 : List Gate}{l next : List Int}(h : uS c g1 l gl next i)(hl : ¬ i + 1 < l.length)(ho : l.length % 2 = 1)(f : Nat → List Bool → Bool)(t : Int)(hf : Ws c g1 l f t) :
  Ws c gl (next ++ [l.getD (l.length - 1) 0]) (fun k ins=>uP (fun k=>f k ins) l.length k) (t + 20):=by
 have he:=h.even; have hh:=h.hi
 refine (h.ws f t hf).snoc ?_
 refine (((hf.bit (l.length - 1) om).ext h.ext).late om).as fun ins=>?_
 rw [h.nl]; unfold uP
 rw [show 2 * (i / 2) = l.length - 1 by omega,if_neg om]
theorem sL.next{l next:List Int}{g1:List Gate}(h:sL c g0 f n t g1 l)(hj:uS c g1 l gl next i)(hl:¬ i + 1 < l.length)(h2:1 < l.length)(ho:¬ l.length % 2 = 1):sL c g0 f n t gl next:=by
 have he:=hj.even; have hh:=hj.hi; have hn:=hj.nl; have hg:=hj.len; have Tv:=h.len
 obtain ⟨f',t',hw,hv,ht⟩:=h.ex
 have z5:next.length = (l.length + 1) / 2:=by omega
 have xC:=rS (m:=l.length) om
 refine ⟨h.ext.trans hj.ext,om,om,_,_,hj.ws f' t' hw,fun ins=>?_,?_⟩
 ·rw [z5,w5]; exact hv ins
 ·rw [z5]; omega
theorem sL.Px{l next:List Int}{g1:List Gate}(h:sL c g0 f n t g1 l)(hj:uS c g1 l gl next i)(hl:¬ i + 1 < l.length)(h2:1 < l.length)(ho:l.length % 2 = 1):sL c g0 f n t gl (next ++ [l.getD (l.length - 1) 0]):=by
 have he:=hj.even; have hh:=hj.hi; have hn:=hj.nl; have hg:=hj.len; have Tv:=h.len
 obtain ⟨f',t',hw,hv,ht⟩:=h.ex
 have z5:(next ++ [l.getD (l.length - 1) 0]).length = (l.length + 1) / 2:=by rw [List.length_append,hn]; simp; omega
 have xC:=rS (m:=l.length) om
 refine ⟨h.ext.trans hj.ext,by rw [z5]; omega,by rw [z5]; omega,_,_,hj.Y6 hl ho f' t' hw,fun ins=>?_,?_⟩
 ·rw [z5,w5]; exact hv ins
 ·rw [z5]; omega
end
def yw(l:List Gate)(s v y n:Int):List Gate:=l ++ [⟨5,s,y⟩,⟨5,v,n⟩,⟨6,(l.length:Int),(l.length:Int) + 1⟩]
theorem Lm{l:List Gate}{s v y n:Int}:yw l s v y n = ((l ++ [⟨5,s,y⟩]) ++ [⟨5,v,n⟩]) ++ [⟨6,(l.length:Int),(l.length:Int) + 1⟩]:=by simp [yw]
theorem Iq{l:List Gate}{s v y n:Int}:((l ++ [⟨5,s,y⟩]) ++ [⟨5,v,n⟩]) ++ [⟨6,(l.length:Int),(((l ++ [(⟨5,s,y⟩:Gate)]).length:Nat):Int)⟩] = yw l s v y n:=by simp [yw]
theorem BU{l:List Gate}{s v y n:Int}:(yw l s v y n).length = l.length + 3:=by simp [yw]
section
variable {c:Int} {l:List Gate} {s v y n:Int} {fs fy fn:List Bool -> Bool} {ts tv ty tn u:Int}
theorem Fu(hg : Good l)(hs : Wr c l s fs ts)(hv : Wr c l v (fun ins => !fs ins) tv)(hy : Wr c l y fy ty)(hn : Wr c l n fn tn)(h1 : ts + 40 ≤ u)(h2 : tv + 40 ≤ u)(h3 : ty + 40 ≤ u)(h4 : tn + 40 ≤ u) :
  Ext l (yw l s v y n) /\ Wr c (yw l s v y n) ((l.length:Int) + 2) (fun ins=>if fs ins then fy ins else fn ins) u:=by
 have e1:Ext l (l ++ [⟨5,s,y⟩]):=Ext.two hg ae hs hy
 have w1:Wr c (l ++ [⟨5,s,y⟩]) (l.length:Int) (fun ins=>fs ins && fy ins) (u - 20):=hs.and hy om om
 have e2:Ext (l ++ [⟨5,s,y⟩]) ((l ++ [⟨5,s,y⟩]) ++ [⟨5,v,n⟩]):=Ext.two e1.dP ae (hv.ext e1) (hn.ext e1)
 have w2:Wr c ((l ++ [⟨5,s,y⟩]) ++ [⟨5,v,n⟩]) (((l ++ [(⟨5,s,y⟩:Gate)]).length:Nat):Int) (fun ins=>!fs ins && fn ins) (u - 20):=(hv.ext e1).and (hn.ext e1) om om
 have WK:=w1.ext e2
 rw [List.length_append,List.length_singleton,Int.natCast_add,Int.natCast_one] at w2
 have e3:Ext ((l ++ [⟨5,s,y⟩]) ++ [⟨5,v,n⟩]) (((l ++ [⟨5,s,y⟩]) ++ [⟨5,v,n⟩]) ++ [⟨6,(l.length:Int),(l.length:Int) + 1⟩]):=Ext.two e2.dP ae WK w2
 have w3:=WK.or (u:=u) w2 om om
 rw [<- Lm] at e3 w3
 refine ⟨(e1.trans e2).trans e3,?_⟩
 have hl:((((l ++ [(⟨5,s,y⟩:Gate)]) ++ [(⟨5,v,n⟩:Gate)]).length:Nat):Int) = (l.length:Int) + 2:=by simp [Int.add_assoc]
 rw [hl] at w3
 exact w3.as fun ins=>by cases fs ins <;> simp
end
open Go Go.AW
structure bo where
 g:Int
 p:Int
instance:Inhabited bo:=⟨⟨0,0⟩⟩
def bo.row(x:bo):List X:=[.v (.int .i64 x.g),.v (.int .i64 x.p)]
theorem bo.bA(x:bo):X.bu x.row = true:=rfl
theorem bo.lP(x:bo):X.fw x.row:=by simp [bo.row,X.fw,X.plain]
structure Wp(c:Int)(l:List Gate)(ps:List bo)(G P:Nat -> List Bool -> Bool)(t:Int):Prop where
 bit:∀ k,k < ps.length -> Wr c l (ps.getD k default).g (G k) t /\ Wr c l (ps.getD k default).p (P k) t
section
variable {c:Int} {g0 g1 gl:List Gate} {ps out next:List bo} {G P:Nat -> List Bool -> Bool} {t:Int} {i j n d:Nat}
theorem Wp.nil:Wp c gl [] G P t:=⟨fun k hk=>by simp at hk⟩
theorem Wp.ext{l':List Gate}(h:Wp c gl ps G P t)(he:Ext gl l'):Wp c l' ps G P t:=⟨fun k hk=>⟨(h.bit k hk).1.ext he,(h.bit k hk).2.ext he⟩⟩
theorem Wp.snoc{x y:Int}(h:Wp c gl ps G P t)(hx:Wr c gl x (G ps.length) t)(hy:Wr c gl y (P ps.length) t):Wp c gl (ps ++ [⟨x,y⟩]) G P t:=⟨fun k hk=>by
 rcases Nat.lt_or_ge k ps.length with h1 | h1
 ·rw [List.getD_eq_getElem?_getD,List.getElem?_append_left h1,<- List.getD_eq_getElem?_getD]; exact h.bit k h1
 ·have:k = ps.length:=by simp at hk; omega
  subst this; rw [lB rfl]; exact ⟨hx,hy⟩⟩
theorem Wp.take{k:Nat}(h:Wp c gl ps G P t):Wp c gl (ps.take k) G P t:=⟨fun i hi=>by
 rw [List.length_take] at hi
 rw [List.getD_eq_getElem?_getD,List.getElem?_take_of_lt om,<- List.getD_eq_getElem?_getD]; exact h.bit i om⟩
structure rT(c:Int)(g0:List Gate)(G P:Nat -> List Bool -> Bool)(t:Int)(n:Nat)(gl:List Gate)(out:List bo)(d j:Nat):Prop where
 ext:Ext g0 gl
 len:gl.length <= g0.length + 3 * n * j
 ol:out.length = n
 dj:d = 2 ^ j
 jl:j <= cF n
 gn:∀ i,i < n -> Wr c gl (out.getD i default).g (fun ins=>gen (fun k=>G k ins) (fun k=>P k ins) d i) (t + 40 * (j:Int))
 pr:∀ i,i < n -> d <= i -> Wr c gl (out.getD i default).p (fun ins=>pp (fun k=>P k ins) (i + 1 - d) d) (t + 40 * (j:Int))
theorem rT.init(hg:Good g0)(h:Wp c g0 ps G P t):rT c g0 G P t ps.length g0 ps 1 0 :=
 ⟨.refl hg,om,rfl,rfl,om,fun i hi=>((h.bit i hi).1.late om).as fun ins=>(Ic (G:=fun k=>G k ins) (P:=fun k=>P k ins)).symm,fun i hi _=>((h.bit i hi).2.late om).as fun ins=>by simp [pp]⟩
theorem rT.done(h:rT c g0 G P t n gl out d j)(hd:¬ d < n){i:Nat}(hi:i < n):Wr c gl (out.getD i default).g (fun ins=>ca (fun k=>G k ins) (fun k=>P k ins) 0 (i + 1) false) (t + 40 * (cF n:Int)):=by
 have:=h.jl
 exact ((h.gn i hi).late om).as fun ins=>wX om
theorem rT.Ln(h:rT c g0 G P t n gl out d j):1 <= d:=by rw [h.dj]; exact Nat.one_le_two_pow
structure rU(c:Int)(g1:List Gate)(G P:Nat -> List Bool -> Bool)(t:Int)(n:Nat)(out:List bo)(d j:Nat)(gl:List Gate)(next:List bo)(i:Nat):Prop where
 ext:Ext g1 gl
 lo:d <= i
 hi:i <= n \/ i = d
 len:gl.length <= g1.length + 3 * (i - d)
 nl:next.length = n
 gn:∀ k,k < n -> k < i -> Wr c gl (next.getD k default).g (fun ins=>gen (fun k=>G k ins) (fun k=>P k ins) (2 * d) k) (t + 40 * ((j:Int) + 1))
 pr:∀ k,k < n -> k < i -> 2 * d <= k -> Wr c gl (next.getD k default).p (fun ins=>pp (fun k=>P k ins) (k + 1 - 2 * d) (2 * d)) (t + 40 * ((j:Int) + 1))
 rest:∀ k,k < n -> i <= k -> next.getD k default = out.getD k default
theorem rU.init(h:rT c g0 G P t n g1 out d j):rU c g1 G P t n out d j g1 out d :=
 ⟨.refl h.ext.dP,Nat.le_refl _,.inr rfl,om,h.ol,fun k hk hd=>((h.gn k hk).late om).as fun ins=>(Fi hd).symm,fun k _ h1 h2=>by omega,fun _ _ _=>rfl⟩
theorem getD_set_ne{α:Type}{l:List α}{i k:Nat}{x e:α}(h:i ≠ k):(l.set i x).getD k e = l.getD k e:=by
 rw [List.getD_eq_getElem?_getD,List.getElem?_set_ne h,<- List.getD_eq_getElem?_getD]
theorem kN{α:Type}{l:List α}{i:Nat}{x e:α}(h:i < l.length):(l.set i x).getD i e = x:=by
 rw [List.getD_eq_getElem?_getD,List.getElem?_set_self h]; rfl
theorem rU.Tw(hI : rT c g0 G P t n g1 out d j)(h : rU c g1 G P t n out d j gl next i)(hi : i < n)(hn : ¬ d ≤ i - d){q : Int} :
  rU c g1 G P t n out d j ((gl ++ [⟨5,(out.getD i default).p,(out.getD (i - d) default).g⟩]) ++ [⟨6,(out.getD i default).g,(gl.length:Int)⟩]) (next.set i ⟨((gl ++ [(⟨5,(out.getD i default).p,(out.getD (i - d) default).g⟩:Gate)]).length:Int),q⟩) (i + 1):=by
 have x6:=h.lo; have qG:=h.len; have zG:=h.nl; have hd:=hI.Ln
 have wp:=(hI.pr i hi x6).ext h.ext
 have wg:=(hI.gn i hi).ext h.ext
 have wd:=(hI.gn (i - d) om).ext h.ext
 have e1:Ext gl (gl ++ [⟨5,(out.getD i default).p,(out.getD (i - d) default).g⟩]):=Ext.two h.ext.dP ae wp wd
 have w1:=wp.and (u:=t + 40 * (j:Int) + 20) wd om om
 have e2:=Ext.two (k:=6) e1.dP ae (wg.ext e1) w1
 have w2:=(wg.ext e1).or (u:=t + 40 * ((j:Int) + 1)) w1 om om
 have ex:=e1.trans e2
 refine ⟨h.ext.trans ex,om,om,by simp only [List.length_append,List.length_singleton]; omega,by rw [List.length_set]; exact zG,fun k hk vz=>?_,fun k hk vz h2=>?_,fun k hk vz=>?_⟩
 ·rcases Nat.lt_or_ge k i with h1 | h1
  ·rw [getD_set_ne om]; exact (h.gn k hk h1).ext ex
  ·obtain rfl:k = i:=by omega
   rw [kN om]
   exact w2.as fun ins=>(BQ x6).symm
 ·rcases Nat.lt_or_ge k i with h1 | h1
  ·rw [getD_set_ne om]; exact (h.pr k hk h1 h2).ext ex
  ·omega
 ·rw [getD_set_ne om]; exact h.rest k hk om
theorem rU.Y7(hI : rT c g0 G P t n g1 out d j)(h : rU c g1 G P t n out d j gl next i)(hi : i < n)(hn : d ≤ i - d){g2 : List Gate}
  (WL:g2 = (gl ++ [⟨5,(out.getD i default).p,(out.getD (i - d) default).g⟩]) ++ [⟨6,(out.getD i default).g,(gl.length:Int)⟩]) :
  rU c g1 G P t n out d j (g2 ++ [⟨5,(out.getD i default).p,(out.getD (i - d) default).p⟩]) (next.set i ⟨((gl ++ [(⟨5,(out.getD i default).p,(out.getD (i - d) default).g⟩:Gate)]).length:Int),(g2.length:Int)⟩) (i + 1):=by
 have x6:=h.lo; have qG:=h.len; have zG:=h.nl; have hd:=hI.Ln
 have wp:=(hI.pr i hi x6).ext h.ext
 have wg:=(hI.gn i hi).ext h.ext
 have wd:=(hI.gn (i - d) om).ext h.ext
 have wq:=(hI.pr (i - d) om hn).ext h.ext
 have e1:Ext gl (gl ++ [⟨5,(out.getD i default).p,(out.getD (i - d) default).g⟩]):=Ext.two h.ext.dP ae wp wd
 have w1:=wp.and (u:=t + 40 * (j:Int) + 20) wd om om
 have e2:=Ext.two (k:=6) e1.dP ae (wg.ext e1) w1
 have w2:=(wg.ext e1).or (u:=t + 40 * ((j:Int) + 1)) w1 om om
 have ex:=e1.trans e2
 rw [<- WL] at e2 w2 ex
 have e3:=Ext.two (k:=5) ex.dP ae (wp.ext ex) (wq.ext ex)
 have w3:=(wp.ext ex).and (u:=t + 40 * ((j:Int) + 1)) (wq.ext ex) om om
 have ey:=ex.trans e3
 refine ⟨h.ext.trans ey,om,om,by rw [WL]; simp only [List.length_append,List.length_singleton]; omega,by rw [List.length_set]; exact zG,fun k hk vz=>?_,fun k hk vz h2=>?_,fun k hk vz=>?_⟩
 ·rcases Nat.lt_or_ge k i with h1 | h1
  ·rw [getD_set_ne om]; exact (h.gn k hk h1).ext ey
  ·obtain rfl:k = i:=by omega
   rw [kN om]
   exact (w2.ext e3).as fun ins=>(BQ x6).symm
 ·rcases Nat.lt_or_ge k i with h1 | h1
  ·rw [getD_set_ne om]; exact (h.pr k hk h1 h2).ext ey
  ·obtain rfl:k = i:=by omega
   rw [kN om]
   exact w3.as fun ins=>(Ld om).symm
 ·rw [getD_set_ne om]; exact h.rest k hk om
theorem rT.pass(hI:rT c g0 G P t n g1 out d j)(hd:d < n)(h:rU c g1 G P t n out d j gl next i)(hi:¬ i < n):rT c g0 G P t n gl next (d * 2) (j + 1):=by
 have x6:=h.lo; have qG:=h.len; have hg:=hI.len; have hh:=h.hi
 have hj:j + 1 <= cF n:=by
  have h1:=sJ n
  have h2:=hI.dj
  apply Classical.byContradiction
  intro h3
  have h4:2 ^ cF n <= 2 ^ j:=Nat.pow_le_pow_right om om
  omega
 refine ⟨hI.ext.trans h.ext,?_,h.nl,by rw [hI.dj,Nat.pow_succ],hj,fun k hk=>?_,fun k hk h2=>?_⟩
 ·rw [Nat.mul_add]; omega
 ·have:=h.gn k hk om
  rw [Nat.mul_comm,Int.natCast_add,Int.natCast_one]; exact this
 ·have:=h.pr k hk om om
  rw [Nat.mul_comm,Int.natCast_add,Int.natCast_one]; exact this
end
open Go Go.AW
section
variable {c:Int} {g0 g1 gl:List Gate} {ps out next:List bo} {G P:Nat -> List Bool -> Bool} {a b r:List Int} {A B:Nat -> List Bool -> Bool} {t u:Int} {i j n d:Nat}
def Aq(F0:List Bool -> Bool)(G P:Nat -> List Bool -> Bool)(k:Nat)(ins:List Bool):Bool:=if k = 0 then F0 ins else (P k ins ^^ ca (fun k=>G k ins) (fun k=>P k ins) 0 k false)
structure Ar(c:Int)(g0 gl:List Gate)(F0:List Bool -> Bool)(G P:Nat -> List Bool -> Bool)(u:Int)(r:List Int)(i:Nat):Prop where
 ext:Ext g0 gl
 lo:1 <= i
 len:gl.length + 1 = g0.length + i
 ol:r.length = i
 ws:Ws c gl r (Aq F0 G P) u
theorem Ar.init{x:Int}{F0:List Bool -> Bool}(hg:Good g0)(h:Wr c g0 x F0 u):Ar c g0 g0 F0 G P u [x] 1 :=
 ⟨.refl hg,om,rfl,rfl,Ws.snoc (a:=[]) .nil (by exact h.as fun ins=>rfl)⟩
theorem Ar.step{x y : Int}{F0 : List Bool → Bool}(h : Ar c g0 gl F0 G P u r i)(hx : Wr c g0 x (P i) t)(hy : Wr c g0 y (fun ins => ca (fun k => G k ins) (fun k => P k ins) 0 i false) t)(hu : t + 20 ≤ u) :
  Ar c g0 (gl ++ [⟨7,x,y⟩]) F0 G P u (r ++ [(gl.length:Int)]) (i + 1):=by
 have h1:=hx.ext h.ext
 have h2:=hy.ext h.ext
 have e:=Ext.two (k:=7) h.ext.dP ae h1 h2
 have hl:=h.len; have x6:=h.lo
 refine ⟨h.ext.trans e,om,by simp only [List.length_append,List.length_singleton]; omega,by rw [List.length_append,h.ol]; rfl,(h.ws.ext e).snoc ?_⟩
 refine (h1.xor h2 hu hu).as fun ins=>?_
 rw [h.ol]; unfold Aq; rw [if_neg om]
structure xb(c:Int)(g0 gl:List Gate)(A B:Nat -> List Bool -> Bool)(u:Int)(ps:List bo)(i:Nat):Prop where
 ext:Ext g0 gl
 len:gl.length = g0.length + 2 * i
 pl:ps.length = i
 wp:Wp c gl ps (fun k ins=>A k ins && B k ins) (fun k ins=>A k ins ^^ B k ins) u
theorem xb.init(hg:Good g0):xb c g0 g0 A B u [] 0:=⟨.refl hg,rfl,rfl,.nil⟩
theorem xb.step{x y : Int}{s : Int}(h : xb c g0 gl A B u ps i)(hx : Wr c g0 x (A i) s)(hy : Wr c g0 y (B i) t)(h1 : s + 20 ≤ u)(h2 : t + 20 ≤ u) :
  xb c g0 ((gl ++ [⟨5,x,y⟩]) ++ [⟨7,x,y⟩]) A B u (ps ++ [⟨(gl.length:Int),((gl ++ [(⟨5,x,y⟩:Gate)]).length:Int)⟩]) (i + 1):=by
 have w1:=hx.ext h.ext
 have w2:=hy.ext h.ext
 have e1:=Ext.two (k:=5) h.ext.dP ae w1 w2
 have e2:=Ext.two (k:=7) e1.dP ae (w1.ext e1) (w2.ext e1)
 have hl:=h.len
 refine ⟨h.ext.trans (e1.trans e2),by simp only [List.length_append,List.length_singleton]; omega,by rw [List.length_append,h.pl]; rfl,(h.wp.ext (e1.trans e2)).snoc ?_ ?_⟩
 ·rw [h.pl]; exact (w1.and w2 h1 h2).ext e2
 ·rw [h.pl]; exact (w1.ext e1).xor (w2.ext e1) h1 h2
theorem Wp.Tx{y : Int}(h : Wp c gl ps (fun k ins => A k ins && B k ins) P u)(hn : 0 < ps.length)(hy : Wr c gl y (fun ins => A 0 ins || B 0 ins) u) :
  Wp c gl (ps.set 0 ⟨y,(ps.getD 0 default).p⟩) (fun k ins=>if k = 0 then A 0 ins || B 0 ins else A k ins && B k ins) P u:=⟨fun k hk=>by
 rw [List.length_set] at hk
 rcases Nat.eq_zero_or_pos k with h1 | h1
 ·subst h1; rw [kN hn]; exact ⟨hy.as fun ins=>by simp,(h.bit 0 hn).2⟩
 ·rw [getD_set_ne om]; exact ⟨(h.bit k hk).1.as fun ins=>by rw [if_neg om],(h.bit k hk).2⟩⟩
structure vF(c:Int)(g0 gl:List Gate)(A B:Nat -> List Bool -> Bool)(s:Bool)(n:Nat)(u:Int)(ps:List bo)(i:Nat):Prop where
 ext:Ext g0 gl
 len:gl.length = g0.length + 4 * i
 pl:ps.length = i
 wp:Wp c gl ps (fun k ins=>if s = true /\ k + 1 = n then !B k ins && A k ins else !A k ins && B k ins) (fun k ins=>!(A k ins ^^ B k ins)) u
theorem vF.init{s:Bool}(hg:Good g0):vF c g0 g0 A B s n u [] 0:=⟨.refl hg,rfl,rfl,.nil⟩
def Ty(gl:List Gate)(x:Int):List Gate:=gl ++ [⟨4,x,0⟩]
def Tz(gl:List Gate)(x y:Int):List Gate:=Ty gl x ++ [⟨5,(gl.length:Int),y⟩]
def T0(gl:List Gate)(x y:Int):List Gate:=Tz gl x y ++ [⟨7,x,y⟩]
def Py(gl:List Gate)(x y:Int):List Gate:=T0 gl x y ++ [⟨4,((Tz gl x y).length:Int),0⟩]
theorem vF.step{x y : Int}{s : Bool}{f h : List Bool → Bool}(k : vF c g0 gl A B s n u ps i)(hx : Wr c g0 x f t)(hy : Wr c g0 y h t)(hu : t + 30 ≤ u)
  (hf:∀ ins,(f ins = if s = true /\ i + 1 = n then B i ins else A i ins) /\ (h ins = if s = true /\ i + 1 = n then A i ins else B i ins)) :
  vF c g0 (Py gl x y) A B s n u (ps ++ [⟨((Ty gl x).length:Int),((T0 gl x y).length:Int)⟩]) (i + 1):=by
 have w1:=hx.ext k.ext
 have w2:=hy.ext k.ext
 have e1:=Ext.not k.ext.dP w1
 have n1:=w1.not (u:=t + 10) (Int.le_refl _)
 have e2:=Ext.two (k:=5) e1.dP ae n1 (w2.ext e1)
 have n2:=n1.and (u:=u) (w2.ext e1) om om
 have Fv:=e1.trans e2
 have e3:=Ext.two (k:=7) e2.dP ae (w1.ext Fv) (w2.ext Fv)
 have n3:=(w1.ext Fv).xor (u:=t + 20) (w2.ext Fv) om om
 have e4:=Ext.not e3.dP n3
 have n4:=n3.not (u:=u) om
 have hl:=k.len
 have ex:=Fv.trans (e3.trans e4)
 refine ⟨k.ext.trans ex,by unfold Py T0 Tz Ty; simp only [List.length_append,List.length_singleton]; omega,by rw [List.length_append,k.pl]; rfl,(k.wp.ext ex).snoc ?_ ?_⟩
 ·rw [k.pl]
  refine (n2.ext (e3.trans e4)).as fun ins=>?_
  rw [(hf ins).1,(hf ins).2]
  by_cases q:s = true /\ i + 1 = n
  ·rw [if_pos q,if_pos q,if_pos q]
  ·rw [if_neg q,if_neg q,if_neg q]
 ·rw [k.pl]
  refine n4.as fun ins=>?_
  rw [(hf ins).1,(hf ins).2]
  by_cases q:s = true /\ i + 1 = n
  ·rw [if_pos q,if_pos q,Bool.xor_comm]
  ·rw [if_neg q,if_neg q]
structure BV(c:Int)(g0:List Gate)(F:List Bool -> Bool)(n:Nat)(t:Int)(gl:List Gate)(ps:List bo):Prop where
 ext:Ext g0 gl
 len:gl.length + 3 * ps.length <= g0.length + 3 * n
 lo:1 <= ps.length
 ex:∃ (G P:Nat -> List Bool -> Bool) (t':Int),Wp c gl ps G P t' /\ (∀ ins,ca (fun k=>G k ins) (fun k=>P k ins) 0 ps.length false = F ins) /\ t' + 40 * (cF ps.length:Int) <= t + 40 * (cF n:Int)
theorem BV.init(hg:Good g0)(h:Wp c g0 ps G P t)(h1:1 <= ps.length):BV c g0 (fun ins=>ca (fun k=>G k ins) (fun k=>P k ins) 0 ps.length false) ps.length t g0 ps :=
 ⟨.refl hg,Nat.le_refl _,h1,G,P,t,h,fun _=>rfl,Int.le_refl _⟩
theorem BV.done{F:List Bool -> Bool}(h:BV c g0 F n t gl ps)(h1:ps.length <= 1):Wr c gl (ps.getD 0 default).g F (t + 40 * (cF n:Int)):=by
 obtain ⟨G,P,t',hw,he,ht⟩:=h.ex
 have hl:ps.length = 1:=by have:=h.lo; omega
 rw [BS h1] at ht
 refine ((hw.bit 0 om).1.late om).as fun ins=>?_
 rw [<- he ins,hl]; simp [ca]
structure Ir(c:Int)(g1:List Gate)(ps:List bo)(gl:List Gate)(next:List bo)(i:Nat):Prop where
 ext:Ext g1 gl
 even:i % 2 = 0
 hi:i <= ps.length
 nl:next.length = i / 2
 len:gl.length = g1.length + 3 * (i / 2)
 wp:∀ G P t,Wp c g1 ps G P t -> Wp c gl next (fun k ins=>uQ (fun k=>G k ins) (fun k=>P k ins) ps.length k) (fun k ins=>uR (fun k=>P k ins) ps.length k) (t + 40)
theorem Ir.init(hg:Good g1):Ir c g1 ps g1 [] 0:=⟨.refl hg,rfl,om,rfl,rfl,fun _ _ _ _=>.nil⟩
def Rz(gl:List Gate)(l h:bo):List Gate:=gl ++ [⟨5,h.p,l.g⟩]
def R3(gl:List Gate)(l h:bo):List Gate:=Rz gl l h ++ [⟨6,h.g,(gl.length:Int)⟩]
def Pz(gl:List Gate)(l h:bo):List Gate:=R3 gl l h ++ [⟨5,h.p,l.p⟩]
theorem Ir.step(h : Ir c g1 ps gl next i)(hl : i + 1 < ps.length)(hw : ∃ G P t, Wp c g1 ps G P t) :
  Ir c g1 ps (Pz gl (ps.getD i default) (ps.getD (i + 1) default)) (next ++ [⟨((Rz gl (ps.getD i default) (ps.getD (i + 1) default)).length:Int),((R3 gl (ps.getD i default) (ps.getD (i + 1) default)).length:Int)⟩]) (i + 2):=by
 have he:=h.even; have qG:=h.len
 have key : ∀ G P t, Wp c g1 ps G P t → Ext gl (Pz gl (ps.getD i default) (ps.getD (i + 1) default)) ∧
   Wr c (Pz gl (ps.getD i default) (ps.getD (i + 1) default)) ((Rz gl (ps.getD i default) (ps.getD (i + 1) default)).length:Int) (fun ins=>G (i + 1) ins || (P (i + 1) ins && G i ins)) (t + 40) /\
   Wr c (Pz gl (ps.getD i default) (ps.getD (i + 1) default)) ((R3 gl (ps.getD i default) (ps.getD (i + 1) default)).length:Int) (fun ins=>P (i + 1) ins && P i ins) (t + 40):=by
  intro G P t hf
  have l1:=(hf.bit i om).1.ext h.ext
  have l2:=(hf.bit i om).2.ext h.ext
  have h1:=(hf.bit (i + 1) hl).1.ext h.ext
  have h2:=(hf.bit (i + 1) hl).2.ext h.ext
  have e1:=Ext.two (k:=5) h.ext.dP ae h2 l1
  have n1:=h2.and (u:=t + 20) l1 om om
  have e2:=Ext.two (k:=6) e1.dP ae (h1.ext e1) n1
  have n2:=(h1.ext e1).or (u:=t + 40) n1 om om
  have Fv:=e1.trans e2
  have e3:=Ext.two (k:=5) e2.dP ae (h2.ext Fv) (l2.ext Fv)
  have n3:=(h2.ext Fv).and (u:=t + 40) (l2.ext Fv) om om
  exact ⟨Fv.trans e3,n2.ext e3,n3⟩
 obtain ⟨G0,P0,t0,h0⟩:=hw
 have hx:=(key G0 P0 t0 h0).1
 refine ⟨h.ext.trans hx,om,om,by rw [List.length_append,h.nl,List.length_singleton]; omega,by unfold Pz R3 Rz; simp only [List.length_append,List.length_singleton]; omega,fun G P t hf=>?_⟩
 obtain ⟨_,k1,k2⟩:=key G P t hf
 refine ((h.wp G P t hf).ext hx).snoc (k1.as fun ins=>?_) (k2.as fun ins=>?_)
 ·rw [h.nl]; unfold uQ
  rw [show 2 * (i / 2) = i by omega,if_pos hl]
 ·rw [h.nl]; unfold uR
  rw [show 2 * (i / 2) = i by omega,if_pos hl]
theorem BV.pass{F:List Bool -> Bool}(h:BV c g0 F n t g1 ps)(hj:Ir c g1 ps gl next i)(hl:¬ i + 1 < ps.length)(h2:1 < ps.length)(ho:¬ ps.length % 2 = 1):BV c g0 F n t gl next:=by
 have he:=hj.even; have hh:=hj.hi; have hn:=hj.nl; have hg:=hj.len; have Tv:=h.len
 obtain ⟨G,P,t',hw,hv,ht⟩:=h.ex
 have z5:next.length = (ps.length + 1) / 2:=by omega
 have xC:=rS (m:=ps.length) om
 refine ⟨h.ext.trans hj.ext,om,om,_,_,_,hj.wp G P t' hw,fun ins=>?_,?_⟩
 ·rw [z5,BT]; exact hv ins
 ·rw [z5]; omega
theorem BV.P2{F:List Bool -> Bool}(h:BV c g0 F n t g1 ps)(hj:Ir c g1 ps gl next i)(hl:¬ i + 1 < ps.length)(h2:1 < ps.length)(ho:ps.length % 2 = 1):BV c g0 F n t gl (next ++ [ps.getD (ps.length - 1) default]):=by
 have he:=hj.even; have hh:=hj.hi; have hn:=hj.nl; have hg:=hj.len; have Tv:=h.len
 obtain ⟨G,P,t',hw,hv,ht⟩:=h.ex
 have z5:(next ++ [ps.getD (ps.length - 1) default]).length = (ps.length + 1) / 2:=by rw [List.length_append,hn]; simp; omega
 have xC:=rS (m:=ps.length) om
 have hb:=hw.bit (ps.length - 1) om
 refine ⟨h.ext.trans hj.ext,by rw [z5]; omega,by rw [z5]; omega,_,_,_,(hj.wp G P t' hw).snoc (((hb.1.ext hj.ext).late om).as fun ins=>?_) (((hb.2.ext hj.ext).late om).as fun ins=>?_),fun ins=>?_,?_⟩
 ·rw [hn]; unfold uQ
  rw [show 2 * (i / 2) = ps.length - 1 by omega,if_neg om]
 ·rw [hn]; unfold uR
  rw [show 2 * (i / 2) = ps.length - 1 by omega,if_neg om]
 ·rw [z5,BT]; exact hv ins
 ·rw [z5]; omega
end
open Go Go.AW
section
variable {c:Int} {g0 g1 gl:List Gate} {a b r x next:List Int} {A B:Nat -> List Bool -> Bool} {t u:Int} {i k w:Nat}
structure He(c:Int)(g0 gl:List Gate)(out:List Int)(h:Nat -> List Bool -> Bool)(u:Int)(i:Nat):Prop where
 ext:Ext g0 gl
 len:gl.length = g0.length + 3 * i
 ol:out.length = i
 ws:Ws c gl out h u
theorem He.init{h:Nat -> List Bool -> Bool}{u:Int}(hg:Good g0):He c g0 g0 [] h u 0:=⟨.refl hg,rfl,rfl,.nil⟩
theorem He.step{h : Nat → List Bool → Bool}{s v y n : Int}{fs fy fn : List Bool → Bool}{ts tv ty tn : Int}(k : He c g0 gl r h u i)(hs : Wr c g0 s fs ts)(hv : Wr c g0 v (fun ins => !fs ins) tv)(hy : Wr c g0 y fy ty)(hn : Wr c g0 n fn tn)
  (h1:ts + 40 <= u) (h2:tv + 40 <= u) (h3:ty + 40 <= u) (h4:tn + 40 <= u) (hh:∀ ins,h i ins = if fs ins then fy ins else fn ins):He c g0 (yw gl s v y n) (r ++ [(gl.length:Int) + 2]) h u (i + 1):=by
 obtain ⟨e,wv⟩:=Fu k.ext.dP (hs.ext k.ext) (hv.ext k.ext) (hy.ext k.ext) (hn.ext k.ext) h1 h2 h3 h4
 have hl:=k.len
 exact ⟨k.ext.trans e,by rw [BU]; omega,by rw [List.length_append,k.ol]; rfl,(k.ws.ext e).snoc (by rw [k.ol]; exact wv.as fun ins=>(hh ins).symm)⟩
structure Is(c:Int)(g0:List Gate)(left:Bool)(w:Nat)(A:List Bool -> BitVec w)(B:List Bool -> BitVec w)(fl:List Bool -> Bool)(t:Int)(gl:List Gate)(x:List Int)(k:Nat):Prop where
 ext:Ext g0 gl
 len:gl.length = g0.length + (3 * w + 1) * k
 xl:x.length = w
 ws:Ws c gl x (fun i ins=>ub left w (A ins).getLsbD (fl ins) ((B ins).toNat % 2 ^ k) i) (t + 10 + 40 * (k:Int))
theorem Is.init{left:Bool}{A B:List Bool -> BitVec w}{fl:List Bool -> Bool}(hg:Good g0)(ha:Wd c g0 a w A t):Is c g0 left w A B fl t g0 a 0 :=
 ⟨.refl hg,rfl,ha.len,⟨fun k hk=>((ha.bit k (by rw [<- ha.len]; exact hk)).late om).as fun ins=>by rw [Nat.pow_zero,Nat.mod_one,Fq (by rw [<- ha.len]; exact hk)]⟩⟩
theorem Is.pick{left : Bool}{A B : List Bool → BitVec w}{fl : List Bool → Bool}{f y : Int}{k : Nat}(h : Is c g0 left w A B fl t g1 x k)(hf : Wr c g0 f fl t){i : Nat}(_ : i < w)(fr : Int)(sX : fr = Pw left k i)
  (hy:y = if 0 <= fr /\ fr < (w:Int) then x.getD fr.toNat 0 else f) :
  Wr c g1 y (fun ins=>if left then (if 2 ^ k <= i then ub left w (A ins).getLsbD (fl ins) ((B ins).toNat % 2 ^ k) (i - 2 ^ k) else fl ins) else (if i + 2 ^ k < w then ub left w (A ins).getLsbD (fl ins) ((B ins).toNat % 2 ^ k) (i + 2 ^ k) else fl ins)) (t + 10 + 40 * (k:Int)):=by
 subst hy sX
 have xI:=h.xl
 have hp:((2 ^ k:Nat):Int) = (2:Int) ^ k:=by simp
 have Hy:=Nat.two_pow_pos k
 unfold Pw
 cases left
 ·simp only [Bool.false_eq_true,if_false]
  by_cases h1:i + 2 ^ k < w
  ·rw [if_pos om]
   have:=h.ws.bit (i + 2 ^ k) om
   rw [show ((i:Int) + 2 ^ k).toNat = i + 2 ^ k by omega]
   exact this.as fun ins=>by rw [if_pos h1]
  ·rw [if_neg om]
   exact ((hf.ext h.ext).late om).as fun ins=>by rw [if_neg h1]
 ·simp only [if_true]
  by_cases h1:2 ^ k <= i
  ·rw [if_pos om]
   have:=h.ws.bit (i - 2 ^ k) om
   rw [show ((i:Int) - 2 ^ k).toNat = i - 2 ^ k by omega]
   exact this.as fun ins=>by rw [if_pos h1]
  ·rw [if_neg om]
   exact ((hf.ext h.ext).late om).as fun ins=>by rw [if_neg h1]
def R4(left:Bool)(w:Nat)(A B:List Bool -> BitVec w)(fl:List Bool -> Bool)(k i:Nat)(ins:List Bool):Bool:=ub left w (A ins).getLsbD (fl ins) ((B ins).toNat % 2 ^ (k + 1)) i
theorem Lo{left : Bool}{A B : List Bool → BitVec w}{fl : List Bool → Bool}{k i : Nat}(hi : i < w)(ins : List Bool) :
  R4 left w A B fl k i ins = if (B ins).getLsbD k then (if left then (if 2 ^ k <= i then ub left w (A ins).getLsbD (fl ins) ((B ins).toNat % 2 ^ k) (i - 2 ^ k) else fl ins) else (if i + 2 ^ k < w then ub left w (A ins).getLsbD (fl ins) ((B ins).toNat % 2 ^ k) (i + 2 ^ k) else fl ins)) else ub left w (A ins).getLsbD (fl ins) ((B ins).toNat % 2 ^ k) i:=by
 unfold R4
 rw [Ft]
 cases (B ins).getLsbD k
 ·simp
 ·simp only [if_true]
  exact Fs hi
theorem Is.pass{left:Bool}{A B:List Bool -> BitVec w}{fl:List Bool -> Bool}{q:Gate}(h:Is c g0 left w A B fl t g1 x k)(he:Ext g1 (g1 ++ [q]))(hj:He c (g1 ++ [q]) gl next (R4 left w A B fl k) (t + 10 + 40 * ((k:Int) + 1)) i)(hi:i = w):Is c g0 left w A B fl t gl next (k + 1):=by
 subst hi
 have h1:=h.len; have h2:=hj.len
 rw [List.length_append,List.length_singleton] at h2
 refine ⟨h.ext.trans (he.trans hj.ext),by rw [h2,h1,Nat.mul_add]; omega,hj.ol,?_⟩
 have:=hj.ws
 rw [Int.natCast_add,Int.natCast_one]
 exact this
theorem Lp{B:List Bool -> BitVec w}(hb:Wd c gl b w B t)(st:Nat)(hs:st <= w):Ws c gl (b.drop st) (fun k ins=>(B ins).getLsbD (st + k)) t:=⟨fun k hk=>by
 have hl:=hb.len
 rw [List.length_drop] at hk
 rw [List.getD_eq_getElem?_getD,List.getElem?_drop,<- List.getD_eq_getElem?_getD]
 exact hb.bit (st + k) om⟩
end
open Go Go.AW
section
variable {c:Int} {g0 g1 gl:List Gate} {a b r:List Int} {w:Nat} {A B:List Bool -> BitVec w} {t u:Int}
theorem sum_add(hl : r.length = w)(h : Ws c gl r (Aq (fun ins => (A ins).getLsbD 0 ^^ (B ins).getLsbD 0) (fun k ins => (A ins).getLsbD k && (B ins).getLsbD k) (fun k ins => (A ins).getLsbD k ^^ (B ins).getLsbD k)) u) :
  Wd c gl r w (fun ins=>A ins + B ins) u:=h.wd hl fun k hk ins=>by
 unfold Aq
 rw [Ie hk]
 by_cases h0:k = 0
 ·subst h0; simp [ca]
 ·rw [if_neg h0]
theorem It(hl : r.length = w)(h : Ws c gl r (Aq (fun ins => (A ins).getLsbD 0 ^^ (B ins).getLsbD 0) (fun k ins => if k = 0 then (A ins).getLsbD 0 || !(B ins).getLsbD 0 else (A ins).getLsbD k && !(B ins).getLsbD k) (fun k ins => (A ins).getLsbD k ^^ !(B ins).getLsbD k)) u) :
  Wd c gl r w (fun ins=>A ins - B ins) u:=h.wd hl fun k hk ins=>by
 unfold Aq
 by_cases h0:k = 0
 ·subst h0; rw [if_pos rfl,Fk hk]
 ·rw [if_neg h0,Ih hk om]; rfl
theorem Iu{s : Bool}(hw : 0 < w)(ins : List Bool) :
  ca (fun k=>if s = true /\ k + 1 = w then !(B ins).getLsbD k && (A ins).getLsbD k else !(A ins).getLsbD k && (B ins).getLsbD k) (fun k=>!((A ins).getLsbD k ^^ (B ins).getLsbD k)) 0 w false = if s then (A ins).slt (B ins) else (A ins).ult (B ins):=by
 cases s
 ·rw [if_neg ae,<- Fo]
  exact rP (fun i _=>by simp [JQ]) (fun _ _=>rfl)
 ·rw [if_pos rfl,<- Lk hw]
  exact rP (fun i _=>by unfold Fp JQ; simp) (fun _ _=>rfl)
theorem Fw{s : Bool}{i : Nat}(ha : Wd c gl a w A t)(hb : Wd c gl b w B t)(hi : i < w){x y : Int}(hx : x = if s = true ∧ i + 1 = w then b.getD i 0 else a.getD i 0)(hy : y = if s = true ∧ i + 1 = w then a.getD i 0 else b.getD i 0) :
  Wr c gl x (fun ins=>if s = true /\ i + 1 = w then (B ins).getLsbD i else (A ins).getLsbD i) t /\ Wr c gl y (fun ins=>if s = true /\ i + 1 = w then (A ins).getLsbD i else (B ins).getLsbD i) t:=by
 subst hx hy
 by_cases q:s = true /\ i + 1 = w
 ·simp only [if_pos q]; exact ⟨hb.bit i hi,ha.bit i hi⟩
 ·simp only [if_neg q]; exact ⟨ha.bit i hi,hb.bit i hi⟩
theorem vF.tree{s : Bool}{ps : List bo}(hw : 0 < w)(h : vF c g0 gl (fun k ins => (A ins).getLsbD k) (fun k ins => (B ins).getLsbD k) s w u ps w) :
  BV c gl (fun ins=>if s then (A ins).slt (B ins) else (A ins).ult (B ins)) w u gl ps:=by
 have h1:=BV.init h.ext.dP h.wp (by rw [h.pl]; omega)
 rw [h.pl] at h1
 have h2:(fun ins=>ca (fun k=>if s = true /\ k + 1 = w then !(B ins).getLsbD k && (A ins).getLsbD k else !(A ins).getLsbD k && (B ins).getLsbD k) (fun k=>!((A ins).getLsbD k ^^ (B ins).getLsbD k)) 0 w false) = (fun ins=>if s then (A ins).slt (B ins) else (A ins).ult (B ins)):=funext fun ins=>Iu hw ins
 rw [h2] at h1
 exact h1
theorem Lq(hr:r.length = w)(h:Ws c gl r (fun i ins=>!kq (fun j=>(B ins).getLsbD (cF w + j)) (w - cF w) && ub true w (A ins).getLsbD false ((B ins).toNat % 2 ^ cF w) i) u):Wd c gl r w (fun ins=>A ins <<< (B ins).toNat) u :=
 h.wd hr fun k hk ins=>(Im (sJ w) hk).symm
theorem Lr(hr:r.length = w)(h:Ws c gl r (fun i ins=>!kq (fun j=>(B ins).getLsbD (cF w + j)) (w - cF w) && ub false w (A ins).getLsbD false ((B ins).toNat % 2 ^ cF w) i) u):Wd c gl r w (fun ins=>A ins >>> (B ins).toNat) u :=
 h.wd hr fun k hk ins=>(Io (sJ w) hk).symm
theorem Ls(hr:r.length = w)(h:Ws c gl r (fun i ins=>if kq (fun j=>(B ins).getLsbD (cF w + j)) (w - cF w) then (A ins).msb else ub false w (A ins).getLsbD (A ins).msb ((B ins).toNat % 2 ^ cF w) i) u):Wd c gl r w (fun ins=>(A ins).sshiftRight (B ins).toNat) u :=
 h.wd hr fun k hk ins=>(Ip (sJ w) hk).symm
theorem Wd.msb(h:Wd c gl a w A t)(hw:0 < w):Wr c gl (a.getD (w - 1) 0) (fun ins=>(A ins).msb) t:=(h.bit (w - 1) om).as fun ins=>by rw [BitVec.msb_eq_getLsbD_last]
end
structure Wk(c:Int)(l:List Gate)(a:List Int)(w:Nat)(N:List Bool -> Nat)(t:Int):Prop where
 len:a.length = w
 lt:∀ ins,N ins < 2 ^ w
 bit:∀ k,k < w -> Wr c l (a.getD k 0) (fun ins=>(N ins).testBit k) t
theorem Wd.wk{c:Int}{l:List Gate}{a:List Int}{w:Nat}{A:List Bool -> BitVec w}{t:Int}(h:Wd c l a w A t):Wk c l a w (fun ins=>(A ins).toNat) t:=⟨h.len,fun ins=>(A ins).isLt,h.bit⟩
theorem Wk.wd{c:Int}{l:List Gate}{a:List Int}{w:Nat}{N:List Bool -> Nat}{t:Int}(h:Wk c l a w N t):Wd c l a w (fun ins=>BitVec.ofNat w (N ins)) t :=
 ⟨h.len,fun k hk=>(h.bit k hk).as fun ins=>by rw [BitVec.getLsbD_ofNat]; simp [hk]⟩
theorem Wk.as{c:Int}{l:List Gate}{a:List Int}{w:Nat}{N M:List Bool -> Nat}{t:Int}(h:Wk c l a w N t)(he:∀ ins,N ins = M ins):Wk c l a w M t:=by
 obtain rfl:N = M:=funext he
 exact h
theorem Wk.ext{c:Int}{l l':List Gate}{a:List Int}{w:Nat}{N:List Bool -> Nat}{t:Int}(h:Wk c l a w N t)(he:Ext l l'):Wk c l' a w N t:=⟨h.len,h.lt,fun k hk=>(h.bit k hk).ext he⟩
theorem Wk.late{c:Int}{l:List Gate}{a:List Int}{w:Nat}{N:List Bool -> Nat}{t t':Int}(h:Wk c l a w N t)(ht:t <= t'):Wk c l a w N t':=⟨h.len,h.lt,fun k hk=>(h.bit k hk).late ht⟩
theorem Wr.ME{c:Int}{l:List Gate}{x:Int}{f:List Bool -> Bool}{t:Int}(h:Wr c l x f t):Wk c l [x] 1 (fun ins=>(f ins).toNat) t :=
 ⟨rfl,fun ins=>by cases f ins <;> decide,fun k hk=>by
  obtain rfl:k = 0:=by omega
  exact h.as fun ins=>by cases f ins <;> rfl⟩
def so(op:Int)(w width x y z:Nat):Nat :=
 if op = 2 then (BitVec.ofNat w x + BitVec.ofNat w y).toNat else if op = 3 then (BitVec.ofNat w x - BitVec.ofNat w y).toNat
 else if op = 9 then x &&& y else if op = 10 then x ||| y else if op = 11 then x ^^^ y
 else if op = 12 then (BitVec.ofNat w x <<< y).toNat else if op = 13 then (BitVec.ofNat w x >>> y).toNat else if op = 14 then ((BitVec.ofNat w x).sshiftRight y).toNat
 else if op = 15 then (decide (x = y)).toNat else if op = 16 then (decide (x ≠ y)).toNat
 else if op = 17 then (decide (x < y)).toNat else if op = 18 then (decide (x <= y)).toNat
 else if op = 19 then ((BitVec.ofNat w x).slt (BitVec.ofNat w y)).toNat else if op = 20 then ((BitVec.ofNat w x).sle (BitVec.ofNat w y)).toNat
 else if op = 21 then (if x = 1 then y else z) else if op = 22 then x else if op = 23 then ((BitVec.ofNat w x).signExtend width).toNat else x % 2 ^ width
open Go Go.AW
section
variable {c:Int} {g0 gl:List Gate} {r:List Int} {t u:Int} {i w:Nat} {A B:List Bool -> BitVec w}
structure xx(c:Int)(g0 gl:List Gate)(out:List Int)(h:Nat -> List Bool -> Bool)(u:Int)(i:Nat):Prop where
 ext:Ext g0 gl
 len:gl.length <= g0.length + 3 * i
 ol:out.length = i
 ws:Ws c gl out h u
theorem xx.init{h:Nat -> List Bool -> Bool}{u:Int}(hg:Good g0):xx c g0 g0 [] h u 0:=⟨.refl hg,om,rfl,.nil⟩
theorem xx.choose{h : Nat → List Bool → Bool}{s v y n : Int}{fs fy fn : List Bool → Bool}{ts tv ty tn : Int}(k : xx c g0 gl r h u i)(hs : Wr c g0 s fs ts)(hv : Wr c g0 v (fun ins => !fs ins) tv)(hy : Wr c g0 y fy ty)(hn : Wr c g0 n fn tn)
  (h1:ts + 40 <= u) (h2:tv + 40 <= u) (h3:ty + 40 <= u) (h4:tn + 40 <= u) (hh:∀ ins,h i ins = if fs ins then fy ins else fn ins):xx c g0 (yw gl s v y n) (r ++ [(gl.length:Int) + 2]) h u (i + 1):=by
 obtain ⟨e,wv⟩:=Fu k.ext.dP (hs.ext k.ext) (hv.ext k.ext) (hy.ext k.ext) (hn.ext k.ext) h1 h2 h3 h4
 have hl:=k.len
 exact ⟨k.ext.trans e,by rw [BU]; omega,by rw [List.length_append,k.ol]; rfl,(k.ws.ext e).snoc (by rw [k.ol]; exact wv.as fun ins=>(hh ins).symm)⟩
theorem xx.and{h : Nat → List Bool → Bool}{x y : Int}{fx fy : List Bool → Bool}{tx ty : Int}(k : xx c g0 gl r h u i)(hx : Wr c g0 x fx tx)(hy : Wr c g0 y fy ty)(h1 : tx + 20 ≤ u)(h2 : ty + 20 ≤ u)(hh : ∀ ins, h i ins = (fx ins && fy ins)) :
  xx c g0 (gl ++ [⟨5,x,y⟩]) (r ++ [(gl.length:Int)]) h u (i + 1):=by
 have e:=Ext.two (k:=5) k.ext.dP ae (hx.ext k.ext) (hy.ext k.ext)
 have wv:=(hx.ext k.ext).and (u:=u) (hy.ext k.ext) h1 h2
 have hl:=k.len
 exact ⟨k.ext.trans e,by rw [List.length_append,List.length_singleton]; omega,by rw [List.length_append,k.ol]; rfl,(k.ws.ext e).snoc (by rw [k.ol]; exact wv.as fun ins=>(hh ins).symm)⟩
def As{w:Nat}(B:List Bool -> BitVec w)(ins:List Bool):Bool:=kq (fun j=>(B ins).getLsbD (cF w + j)) (w - cF w)
def yx(left ar:Bool)(w:Nat)(A B:List Bool -> BitVec w)(i:Nat)(ins:List Bool):Bool :=
 if ar then (if As B ins then (A ins).msb else ub left w (A ins).getLsbD (ar && (A ins).msb) ((B ins).toNat % 2 ^ cF w) i) else (!As B ins && ub left w (A ins).getLsbD (ar && (A ins).msb) ((B ins).toNat % 2 ^ cF w) i)
def Iv(left ar:Bool){w:Nat}(a b:BitVec w):BitVec w:=if left then a <<< b.toNat else if ar then a.sshiftRight b.toNat else a >>> b.toNat
theorem At{left ar:Bool}(T1:left = true -> ar = false)(hr:r.length = w)(h:Ws c gl r (yx left ar w A B) u):Wd c gl r w (fun ins=>Iv left ar (A ins) (B ins)) u:=by
 cases left with
 | true =>
  obtain rfl:=T1 rfl
  have h1:=Lq (A:=A) (B:=B) hr (h.as fun k _ ins=>by simp [yx,As])
  exact ⟨h1.len,fun k hk=>(h1.bit k hk).as fun ins=>by simp [Iv]⟩
 | false =>
  cases ar with
  | true =>
   have h1:=Ls (A:=A) (B:=B) hr (h.as fun k _ ins=>by simp [yx,As])
   exact ⟨h1.len,fun k hk=>(h1.bit k hk).as fun ins=>by simp [Iv]⟩
  | false =>
   have h1:=Lr (A:=A) (B:=B) hr (h.as fun k _ ins=>by simp [yx,As])
   exact ⟨h1.len,fun k hk=>(h1.bit k hk).as fun ins=>by simp [Iv]⟩
def p2(k:Nat):Nat:=2 ^ k
theorem BW{k:Nat}(h:k <= 6):IntKind.i64.wrap (1 * 2 ^ (min (k:Int).toNat IntKind.i64.bits)) = ((p2 k:Nat):Int):=by
 have:k = 0 \/ k = 1 \/ k = 2 \/ k = 3 \/ k = 4 \/ k = 5 \/ k = 6:=by omega
 rcases this with rfl | rfl | rfl | rfl | rfl | rfl | rfl <;> decide
theorem Lt{k:Nat}(h:k <= 6):p2 k <= 64:=Nat.pow_le_pow_right (n:=2) om h
theorem Fx{w:Nat}:cF w <= w:=by
 refine oa ?_
 exact Nat.le_of_lt Nat.lt_two_pow_self
end
open Go Go.AW
section
variable {c:Int} {g0 gl:List Gate} {a r:List Int} {t u:Int} {w n:Nat} {A:List Bool -> BitVec w}
def yy(sg:Bool){w:Nat}(A:List Bool -> BitVec w)(k:Nat)(ins:List Bool):Bool:=if k < w then (A ins).getLsbD k else sg && (A ins).msb
def xc(sg:Bool){w:Nat}(n:Nat)(x:BitVec w):BitVec n:=if sg then x.signExtend n else x.setWidth n
theorem Fy{sg:Bool}(ha:Wd c gl a w A t):Ws c gl a (yy sg A) t:=ha.ws.as fun k hk ins=>by
 unfold yy; rw [if_pos (by rw [<- ha.len]; exact hk)]
theorem FA{sg:Bool}{x:Int}(hr:Ws c gl r (yy sg A) t)(hl:w <= r.length)(hx:Wr c gl x (fun ins=>sg && (A ins).msb) t):Ws c gl (r ++ [x]) (yy sg A) t :=
 hr.snoc (hx.as fun ins=>by unfold yy; rw [if_neg om])
theorem FB{sg:Bool}(hr:Ws c gl r (yy sg A) t)(hl:r.length = n)(_:w <= n):Wd c gl r n (fun ins=>xc sg n (A ins)) t:=hr.wd hl fun k hk ins=>by
 unfold yy xc
 cases sg
 ·simp only [Bool.false_and,Bool.false_eq_true,if_false,BitVec.getLsbD_setWidth,hk,decide_true,Bool.true_and]
  by_cases h:k < w
  ·rw [if_pos h]
  ·rw [if_neg h,BitVec.getLsbD_of_ge _ _ om]
 ·simp only [Bool.true_and,if_true,BitVec.getLsbD_signExtend,hk,decide_true]
theorem Iw{sg:Bool}(ha:Wd c gl a w A t)(h:n <= w):Wd c gl (a.take n) n (fun ins=>xc sg n (A ins)) t:=⟨by rw [List.length_take,ha.len]; omega,fun k hk=>by
 have h1:=ha.bit k om
 rw [List.getD_eq_getElem?_getD,List.getElem?_take_of_lt hk,<- List.getD_eq_getElem?_getD]
 refine h1.as fun ins=>?_
 unfold xc
 cases sg
 ·simp only [Bool.false_eq_true,if_false,BitVec.getLsbD_setWidth,hk,decide_true,Bool.true_and]
 ·simp only [if_true,BitVec.getLsbD_signExtend,hk,decide_true,Bool.true_and,show k < w by omega]⟩
def pI(s n:Nat):List Int:=(List.range n).map (fun i=>((s + i:Nat):Int))
theorem yz(s n:Nat):pI s (n + 1) = pI s n ++ [((s + n:Nat):Int)]:=by simp [pI,List.range_succ]
theorem mM(s n:Nat):(pI s n).length = n:=by simp [pI]
theorem BX{s n k:Nat}(h:k < n):(pI s n).getD k 0 = ((s + k:Nat):Int):=by
 unfold pI
 rw [List.getD_eq_getElem?_getD,List.getElem?_map,List.getElem?_range h]; rfl
def pJ(n:Nat):List Gate:=List.replicate n ⟨3,0,0⟩
theorem pc(n:Nat):pJ (n + 1) = pJ n ++ [⟨3,0,0⟩]:=List.replicate_succ'
theorem BY(n m:Nat):pJ n ++ pJ m = pJ (n + m):=by simp [pJ,List.replicate_append_replicate]
theorem kC(n:Nat):(pJ n).length = n:=by simp [pJ]
theorem rV : ∀ n, Good (pJ n)
 | 0=>Good.nil
 | n + 1=>by rw [pc]; exact (rV n).snoc (Ff ae)
theorem pK : ∀ n, iZ (pJ n) = n
 | 0=>rfl
 | n + 1=>by rw [pc,kB,pK n,pG,if_pos rfl]
theorem BZ{ins : List Bool} : ∀ {n k : Nat}, k < n → val (pJ n) ins (k : Int) = ins.getD k false
 | 0,_,h=>by omega
 | n + 1,k,h=>by
  rw [pc]
  rcases Nat.lt_or_ge k n with h1 | h1
  ·rw [BO om (by rw [kC]; omega)]; exact BZ h1
  ·obtain rfl:k = n:=by omega
   have h2:=val_last (l:=pJ k) (g:=⟨3,0,0⟩) (ins:=ins)
   rw [kC] at h2
   rw [h2,pK]; rfl
theorem Lu{o ins:List Int}{n:Nat}:nZ o ins n ⟨3,0,0⟩ = ins.getD n 0:=rfl
theorem Ca{c : Int} : ∀ {n k : Nat}, k < n → CS c (pJ n) (k : Int) = c
 | 0,_,h=>by omega
 | n + 1,k,h=>by
  rw [pc]
  rcases Nat.lt_or_ge k n with h1 | h1
  ·rw [BP om (by rw [kC]; omega)]; exact Ca h1
  ·obtain rfl:k = n:=by omega
   unfold CS fT
   have h3:(pJ k ++ [(⟨3,0,0⟩:Gate)]).length = (pJ k).length + 1:=by simp
   rw [h3,sI,Int.toNat_natCast,lB (by rw [jy _ (Nat.le_refl _),kC]),Lu,pK,kB,pK,pG,if_pos rfl,uL om]
def tt(f : Nat → Bool) : Nat → Nat
 | 0=>0
 | n + 1=>tt f n + 2 ^ n * (f n).toNat
theorem rW{f : Nat → Bool} : ∀ n, tt f n < 2 ^ n
 | 0=>by simp [tt]
 | n + 1=>by
  have h:=rW (f:=f) n
  rw [tt,Nat.pow_succ]
  cases f n <;> simp <;> omega
theorem sM{f : Nat → Bool} : ∀ {n k : Nat}, k < n → (tt f n).testBit k = f k
 | 0,_,h=>by omega
 | n + 1,k,h=>by
  have h0:=rW (f:=f) n
  rw [tt,Nat.add_comm,Nat.testBit_two_pow_mul_add _ h0]
  rcases Nat.lt_or_ge k n with h1 | h1
  ·rw [if_pos h1]; exact sM h1
  ·obtain rfl:k = n:=by omega
   rw [if_neg om,Nat.sub_self]; cases f k <;> rfl
def CY(s w:Nat)(ins:List Bool):Nat:=tt (fun k=>ins.getD (s + k) false) w
theorem JS{c:Int}{s w n:Nat}(h:s + w <= n):Wk c (pJ n) (pI s w) w (CY s w) c:=⟨mM s w,fun ins=>rW w,fun k hk=>by
 rw [BX hk]
 exact ⟨om,by rw [kC]; omega,fun ins=>by rw [BZ om]; exact (sM (f:=fun k=>ins.getD (s + k) false) hk).symm,by rw [Ca om]; exact Int.le_refl _⟩⟩
end
structure Ix(c:Int)(gl:List Gate)(ws:List (List Int))(op:Int)(w width:Nat)(x y z:List Bool -> Nat)(t:Int):Prop where
 x:Wk c gl (ws.getD 0 []) w x t
 y:2 <= ws.length -> Wk c gl (ws.getD 1 []) (if op = 21 then width else w) y t
 z:3 <= ws.length -> Wk c gl (ws.getD 2 []) width z t
 ok:((op = 2 \/ op = 3 \/ 9 <= op /\ op <= 14) /\ ws.length = 2 /\ width = w) \/ ((15 <= op /\ op <= 20) /\ ws.length = 2 /\ width = 1) \/ (op = 21 /\ ws.length = 3 /\ w = 1) \/ ((op = 22 \/ op = 23) /\ ws.length = 1 /\ w <= width) \/ (op = 24 /\ ws.length = 1 /\ width <= w)
 hw:1 <= w /\ w <= 64
 hd:1 <= width /\ width <= 64
 t0:0 <= t
open Go Go.AW
theorem Wk.ws{c:Int}{l:List Gate}{a:List Int}{w:Nat}{N:List Bool -> Nat}{t:Int}(h:Wk c l a w N t):Ws c l a (fun k ins=>(N ins).testBit k) t:=⟨fun k hk=>h.bit k (by have:=h.len; omega)⟩
theorem Ws.wk{c:Int}{l:List Gate}{a:List Int}{w:Nat}{N:List Bool -> Nat}{t:Int}(h:Ws c l a (fun k ins=>(N ins).testBit k) t)(hl:a.length = w)(hn:∀ ins,N ins < 2 ^ w):Wk c l a w N t:=⟨hl,hn,fun k hk=>h.bit k om⟩
section
variable {c:Int} {l:List Gate} {r:List Int} {t:Int} {op:Int} {w width:Nat} {X Y Z:List Bool -> Nat} {x:Int}
abbrev Cb(c:Int)(l:List Gate)(r:List Int)(op:Int)(w width:Nat)(X Y Z:List Bool -> Nat)(t:Int):Prop:=Wk c l r width (fun ins=>so op w width (X ins) (Y ins) (Z ins)) (t + aK op (if jY op then w else width))
theorem Iy{n:Nat}(h:n < 2 ^ w):(BitVec.ofNat w n).toNat = n:=by rw [BitVec.toNat_ofNat,Nat.mod_eq_of_lt h]
theorem Iz(h:Wd c l r w (fun ins=>BitVec.ofNat w (X ins) + BitVec.ofNat w (Y ins)) (t + 40 + 40 * (cF w:Int)))(ho:op = 2)(hw:width = w):Cb c l r op w width X Y Z t:=by
 subst ho hw
 exact (h.wk.as fun ins=>by simp [so]).late (by simp [aK,jY]; omega)
theorem I3(h:Wd c l r w (fun ins=>BitVec.ofNat w (X ins) - BitVec.ofNat w (Y ins)) (t + 50 + 40 * (cF w:Int)))(ho:op = 3)(hw:width = w):Cb c l r op w width X Y Z t:=by
 subst ho hw
 exact (h.wk.as fun ins=>by simp [so]).late (by simp [aK,jY]; omega)
theorem xd{k:Int}(h:Ws c l r (fun i ins=>(if k = 5 then X ins &&& Y ins else if k = 6 then X ins ||| Y ins else X ins ^^^ Y ins).testBit i) (t + 20))(hl:r.length = w)(hX:∀ ins,X ins < 2 ^ w)(hY:∀ ins,Y ins < 2 ^ w)(ho:op = 9 /\ k = 5 \/ op = 10 /\ k = 6 \/ op = 11 /\ k = 7)(hw:width = w):Cb c l r op w width X Y Z t:=by
 subst hw
 rcases ho with ⟨rfl,rfl⟩ | ⟨rfl,rfl⟩ | ⟨rfl,rfl⟩
 ·exact ((h.wk hl fun ins=>Nat.and_lt_two_pow _ (hY ins)).as fun ins=>by simp [so]).late (by simp [aK,jY])
 ·exact ((h.wk hl fun ins=>Nat.or_lt_two_pow (hX ins) (hY ins)).as fun ins=>by simp [so]).late (by simp [aK,jY])
 ·exact ((h.wk hl fun ins=>Nat.xor_lt_two_pow (hX ins) (hY ins)).as fun ins=>by simp [so]).late (by simp [aK,jY])
theorem Au{left ar:Bool}(h:Wd c l r w (fun ins=>Iv left ar (BitVec.ofNat w (X ins)) (BitVec.ofNat w (Y ins))) (t + (if ar then 50 else 30) + 40 * (cF w:Int)))(hY:∀ ins,Y ins < 2 ^ w)(ho:op = 12 /\ left = true /\ ar = false \/ op = 13 /\ left = false /\ ar = false \/ op = 14 /\ left = false /\ ar = true)(hw:width = w):Cb c l r op w width X Y Z t:=by
 subst hw
 rcases ho with ⟨rfl,rfl,rfl⟩ | ⟨rfl,rfl,rfl⟩ | ⟨rfl,rfl,rfl⟩
 ·exact (h.wk.as fun ins=>by simp only [so,Iv,Iy (hY ins)]; simp).late (by simp [aK,jY]; omega)
 ·exact (h.wk.as fun ins=>by simp only [so,Iv,Iy (hY ins)]; simp).late (by simp [aK,jY]; omega)
 ·exact (h.wk.as fun ins=>by simp only [so,Iv,Iy (hY ins)]; simp).late (by simp [aK,jY]; omega)
theorem FC{x y:Nat}(hx:x < 2 ^ w)(hy:y < 2 ^ w):BitVec.ofNat w x = BitVec.ofNat w y ↔ x = y:=by
 constructor
 ·intro h
  have:=congrArg BitVec.toNat h
  rwa [Iy hx,Iy hy] at this
 ·rintro rfl; rfl
theorem Lv(h:Wr c l x (fun ins=>decide (BitVec.ofNat w (X ins) ≠ BitVec.ofNat w (Y ins))) (t + 20 + 20 * (cF w:Int)))(hX:∀ ins,X ins < 2 ^ w)(hY:∀ ins,Y ins < 2 ^ w)(ho:op = 16)(hw:width = 1):Cb c l [x] op w width X Y Z t:=by
 subst ho hw
 exact (h.ME.as fun ins=>by simp [so,FC (hX ins) (hY ins)]).late (by simp [aK,jY]; omega)
theorem Lw(h:Wr c l x (fun ins=>!decide (BitVec.ofNat w (X ins) ≠ BitVec.ofNat w (Y ins))) (t + 30 + 20 * (cF w:Int)))(hX:∀ ins,X ins < 2 ^ w)(hY:∀ ins,Y ins < 2 ^ w)(ho:op = 15)(hw:width = 1):Cb c l [x] op w width X Y Z t:=by
 subst ho hw
 exact (h.ME.as fun ins=>by simp [so,FC (hX ins) (hY ins)]).late (by simp [aK,jY]; omega)
theorem FD{s:Bool}(h:Wr c l x (fun ins=>if s then (BitVec.ofNat w (X ins)).slt (BitVec.ofNat w (Y ins)) else (BitVec.ofNat w (X ins)).ult (BitVec.ofNat w (Y ins))) (t + 30 + 40 * (cF w:Int)))(hX:∀ ins,X ins < 2 ^ w)(hY:∀ ins,Y ins < 2 ^ w)(ho:op = 17 /\ s = false \/ op = 19 /\ s = true)(hw:width = 1):Cb c l [x] op w width X Y Z t:=by
 subst hw
 have hm:=pb (show w <= w + 1 by omega)
 rcases ho with ⟨rfl,rfl⟩ | ⟨rfl,rfl⟩
 ·exact (h.ME.as fun ins=>by simp [so,BitVec.ult,Nat.mod_eq_of_lt (hX ins),Nat.mod_eq_of_lt (hY ins)]).late (by simp [aK,jY]; omega)
 ·exact (h.ME.as fun ins=>by simp [so]).late (by simp [aK,jY]; omega)
theorem FE{s:Bool}(h:Wr c l x (fun ins=>!(if s then (BitVec.ofNat w (Y ins)).slt (BitVec.ofNat w (X ins)) else (BitVec.ofNat w (Y ins)).ult (BitVec.ofNat w (X ins)))) (t + 40 + 40 * (cF w:Int)))(hX:∀ ins,X ins < 2 ^ w)(hY:∀ ins,Y ins < 2 ^ w)(ho:op = 18 /\ s = false \/ op = 20 /\ s = true)(hw:width = 1):Cb c l [x] op w width X Y Z t:=by
 subst hw
 have hm:=pb (show w <= w + 1 by omega)
 rcases ho with ⟨rfl,rfl⟩ | ⟨rfl,rfl⟩
 ·refine (h.ME.as fun ins=>?_).late (by simp [aK,jY]; omega)
  simp only [so,BitVec.ult,Iy (hX ins),Iy (hY ins)]
  simp
  by_cases h:X ins <= Y ins
  ·rw [decide_eq_true h,decide_eq_false om]; rfl
  ·rw [decide_eq_false h,decide_eq_true om]; rfl
 ·refine (h.ME.as fun ins=>?_).late (by simp [aK,jY]; omega)
  simp only [so,if_true,BitVec.sle_eq_not_slt]
  simp
theorem FF{x:Nat}(h:x < 2 ^ 1):x.testBit 0 = decide (x = 1):=by
 rcases (show x = 0 \/ x = 1 by omega) with rfl | rfl <;> rfl
theorem I4(h:Ws c l r (fun i ins=>if (X ins).testBit 0 then (Y ins).testBit i else (Z ins).testBit i) (t + 50))(hl:r.length = width)(hX:∀ ins,X ins < 2 ^ 1)(hY:∀ ins,Y ins < 2 ^ width)(hZ:∀ ins,Z ins < 2 ^ width)(ho:op = 21):Cb c l r op w width X Y Z t:=by
 subst ho
 have h1:Ws c l r (fun i ins=>(if X ins = 1 then Y ins else Z ins).testBit i) (t + 50):=h.as fun k _ ins=>by
  rw [FF (hX ins)]
  by_cases hx:X ins = 1
  ·simp [hx]
  ·simp [hx]
 exact ((h1.wk hl fun ins=>by split; exact hY ins; exact hZ ins).as fun ins=>by simp [so]).late (by simp [aK,jY])
theorem I5{sg:Bool}(h:Wd c l r width (fun ins=>xc sg width (BitVec.ofNat w (X ins))) t)(hX:∀ ins,X ins < 2 ^ w)(ho:op = 22 /\ sg = false /\ w <= width \/ op = 23 /\ sg = true /\ w <= width \/ op = 24 /\ sg = false /\ width <= w):Cb c l r op w width X Y Z t:=by
 rcases ho with ⟨rfl,rfl,hw⟩ | ⟨rfl,rfl,hw⟩ | ⟨rfl,rfl,hw⟩
 ·refine (h.wk.as fun ins=>?_).late (by simp [aK,jY])
  have:=Nat.pow_le_pow_right (n:=2) om hw
  simp only [so,xc,Bool.false_eq_true,if_false,BitVec.toNat_setWidth,Iy (hX ins)]
  rw [Nat.mod_eq_of_lt (by have:=hX ins; omega)]; simp
 ·exact (h.wk.as fun ins=>by simp [so,xc]).late (by simp [aK,jY])
 ·refine (h.wk.as fun ins=>?_).late (by simp [aK,jY])
  simp only [so,xc,Bool.false_eq_true,if_false,BitVec.toNat_setWidth,Iy (hX ins)]
  simp
end
open Go Go.AW
theorem xe{op a b d a' b' d' w:Int}(h0:a = a')(h1:op < 22 \/ 24 < op -> b = b')(h2:op = 21 -> d = d'):ek op a b d w ↔ ek op a' b' d' w:=by
 subst h0
 unfold ek jY
 by_cases e:op = 21
 ·rw [h1 om,h2 e]
 ·by_cases e2:op < 22 \/ 24 < op
  ·rw [h1 e2]; omega
  ·omega
open Go Go.AW
def DE(k:Nat):List Cell:=(List.range k).map (fun (j:Nat)=>(⟨8,0,(j:Int),[],j,0⟩:Cell))
theorem y0(k:Nat):DE (k + 1) = DE k ++ [(⟨8,0,(k:Int),[],k,0⟩:Cell)]:=by simp [DE,List.range_succ]
theorem l5(k:Nat):(DE k).length = k:=by simp [DE]
theorem I6{k j:Nat}(h:j < k):(DE k).getD j default = ⟨8,0,(j:Int),[],j,0⟩:=by
 unfold DE
 rw [List.getD_eq_getElem?_getD,List.getElem?_map,List.getElem?_range h]; rfl
def uT(op:Int)(k:Nat):List Cell:=(DE k ++ [(⟨2,op,(k:Int),pI 0 k,0,0⟩:Cell)]) ++ [(⟨1,0,(k:Int) + 1,[],0,0⟩:Cell)]
def j0(op:Int)(ws:List Int)(width:Int):ab:=⟨ByteArray.empty,(ws ++ [width]) ++ [1],uT op ws.length,ws,[],[],[],[],(ws.length:Int) + 1,(ws.length:Int) + 1,[]⟩
theorem pL(op:Int)(k:Nat):(uT op k).length = k + 2:=by simp [uT,l5]
theorem sN{op:Int}{k j:Nat}(h:j < k):(uT op k).getD j default = ⟨8,0,(j:Int),[],j,0⟩:=by
 unfold uT
 rw [eL (by simp [l5]; omega),eL (by rw [l5]; exact h),I6 h]
theorem sO{op:Int}{k:Nat}:(uT op k).getD k default = ⟨2,op,(k:Int),pI 0 k,0,0⟩:=by
 unfold uT
 rw [eL (by simp [l5]),gY (l5 k).symm]
theorem rX{op:Int}{k:Nat}:(uT op k).getD (k + 1) default = ⟨1,0,(k:Int) + 1,[],0,0⟩:=by
 unfold uT
 rw [gY (by simp [l5])]
theorem uc{op:Int}{k j:Nat}(h:j < k + 2):((uT op k).getD j default).out = (j:Int) /\ ((uT op k).getD j default).kind ≠ 7:=by
 rcases (show j < k \/ j = k \/ j = k + 1 by omega) with h1 | rfl | rfl
 ·rw [sN h1]; exact ⟨rfl,by simp⟩
 ·rw [sO]; exact ⟨rfl,by simp⟩
 ·rw [rX]; exact ⟨by simp,by simp⟩
theorem w6{op : Int}{k w : Nat} : ∀ {i : Nat}, i ≤ k + 2 → du ((uT op k).take i) w = if w < i then 1 else 0
 | 0,_=>by simp [du]
 | i + 1,h=>by
  rw [gq (by rw [pL]; omega),w6 om]
  obtain ⟨h1,h2⟩:=uc (op:=op) (k:=k) (j:=i) om
  rw [h1]
  by_cases hw:w = i
  ·subst hw; rw [if_neg om,if_pos ⟨h2,rfl⟩,if_pos om]
  ·rw [if_neg (show ¬ (((uT op k).getD i default).kind ≠ 7 /\ (i:Int) = (w:Int)) from fun h=>hw om)]
   by_cases h3:w < i
   ·rw [if_pos h3,if_pos om]
   ·rw [if_neg h3,if_neg om]
def CZ(op:Int)(ws:List Int)(width:Int):Prop :=
 (∀ w ∈ ws,dz w) /\ dz width /\ cd op ≠ 0 /\ (ws.length:Int) = cd op /\ ek op (ws.getD 0 0) (ws.getD 1 0) (ws.getD 2 0) width
section
variable {op width:Int} {ws:List Int}
theorem oc{op:Int}:cd op <= 3 /\ 0 <= cd op:=by unfold cd; (repeat' split) <;> omega
theorem JT{j:Nat}(h:j < ws.length):(j0 op ws width).wd (j:Int) = ws.getD j 0:=by
 unfold ab.wd j0
 rw [Int.toNat_natCast]
 show ((ws ++ [width]) ++ [1]).getD j 0 = _
 rw [eL (by simp; omega),eL h]
theorem P3:(j0 op ws width).wd (ws.length:Int) = width:=by
 unfold ab.wd j0
 rw [Int.toNat_natCast]
 show ((ws ++ [width]) ++ [1]).getD ws.length 0 = _
 rw [eL (by simp),gY rfl]
theorem JU:(j0 op ws width).wd ((ws.length:Int) + 1) = 1:=by
 unfold ab.wd j0
 show ((ws ++ [width]) ++ [1]).getD ((ws.length:Int) + 1).toNat 0 = _
 rw [gY (by simp)]
theorem FG{j:Nat}(h:j < ws.length):(j0 op ws width).av ⟨2,op,(ws.length:Int),pI 0 ws.length,0,0⟩ j = ws.getD j 0:=by
 unfold ab.av
 show (j0 op ws width).wd ((pI 0 ws.length).getD j 0) = _
 rw [BX h,Nat.zero_add,JT h]
theorem JV:(j0 op ws width).ow ⟨2,op,(ws.length:Int),pI 0 ws.length,0,0⟩ = width:=by
 unfold ab.ow
 show (if 0 <= (ws.length:Int) then (j0 op ws width).wd (ws.length:Int) else 0) = width
 rw [if_pos om,P3]
theorem Cc(hl:(ws.length:Int) = cd op)(h0:cd op ≠ 0):ek op ((j0 op ws width).av ⟨2,op,(ws.length:Int),pI 0 ws.length,0,0⟩ 0) ((j0 op ws width).av ⟨2,op,(ws.length:Int),pI 0 ws.length,0,0⟩ 1) ((j0 op ws width).av ⟨2,op,(ws.length:Int),pI 0 ws.length,0,0⟩ 2) width ↔ ek op (ws.getD 0 0) (ws.getD 1 0) (ws.getD 2 0) width:=by
 have h3:=oc (op:=op)
 refine xe (FG om) (fun h=>FG ?_) (fun h=>FG ?_)
 ·unfold cd at hl h0; (repeat' split at hl) <;> (repeat' split at h0) <;> omega
 ·unfold cd at hl; (repeat' split at hl) <;> omega
theorem P4(hk:ws.length <= 5)(h:CZ op ws width):mH (j0 op ws width) = 0:=by
 obtain ⟨hw,v3,h0,hl,hf⟩:=h
 have hlen:(j0 op ws width).aa.length = ws.length + 2:=by simp [j0]
 have vx:(j0 op ws width).cells.length = ws.length + 2:=pL op ws.length
 have nK:∀ x ∈ pI 0 ws.length,In x (j0 op ws width).aa.length:=fun x hx=>by
  obtain ⟨i,hi,rfl⟩:=List.mem_map.1 hx
  have:=List.mem_range.1 hi
  rw [hlen]; unfold In; omega
 refine uO ⟨⟨fun i hi=>by simp [j0] at hi,by simp [j0]⟩,by rw [vx]; omega,by rw [hlen]; omega,by simp [j0],by simp [j0],rfl,rfl,fun j hj=>?_,fun j hj=>by simp [j0] at hj,fun j hj=>by simp [j0] at hj,?_,?_,fun r hr=>by simp [j0] at hr,fun j hj=>?_,fun w hw=>?_⟩ ⟨JU,JU,fun j hj=>by simp [j0] at hj,fun j hj=>?_⟩ ⟨fun _=>0,fun i j hi hj hm=>?_⟩
 ·have:∀ x ∈ (j0 op ws width).aa ++ (j0 op ws width).ins,dz x:=fun x hx=>by
   simp only [j0,List.mem_append,List.mem_singleton] at hx
   rcases hx with ((h | rfl) | rfl) | h
   ·exact hw x h
   ·exact v3
   ·exact uB
   ·exact hw x h
  exact this _ (getD_in hj)
 ·show In ((ws.length:Int) + 1) (j0 op ws width).aa.length
  rw [hlen]; unfold In; omega
 ·show In ((ws.length:Int) + 1) (j0 op ws width).aa.length
  rw [hlen]; unfold In; omega
 ·rw [vx] at hj
  show jG (j0 op ws width) ((uT op ws.length).getD j default)
  refine ⟨?_,?_,fun h=>absurd h (uc hj).2,fun _=>by rw [(uc hj).1,hlen]; unfold In; omega⟩
  ·rcases (show j < ws.length \/ j = ws.length \/ j = ws.length + 1 by omega) with h1 | rfl | rfl
   ·rw [sN h1]; exact fun x hx=>by cases hx
   ·rw [sO]; exact nK
   ·rw [rX]; exact fun x hx=>by cases hx
  ·rcases (show j < ws.length \/ j = ws.length \/ j = ws.length + 1 by omega) with h1 | rfl | rfl
   ·rw [sN h1]; exact .inr (.inr (.inr (.inr (.inr (.inr (.inr (.inl ⟨rfl,rfl,rfl,h1,rfl⟩)))))))
   ·rw [sO]; exact .inr (.inl ⟨rfl,h0,by rw [mM]; exact hl,rfl,rfl⟩)
   ·rw [rX]; exact .inl ⟨rfl,rfl,rfl,rfl⟩
 ·rw [hlen] at hw
  have:=w6 (op:=op) (k:=ws.length) (w:=w) (Nat.le_refl _)
  rw [<- pL op ws.length,List.take_length,pL,if_pos hw] at this
  exact this
 ·rw [vx] at hj
  show Fits (j0 op ws width) ((uT op ws.length).getD j default)
  rcases (show j < ws.length \/ j = ws.length \/ j = ws.length + 1 by omega) with h1 | rfl | rfl
  ·rw [sN h1]
   refine .inr (.inr (.inr (.inr (.inr (.inr (.inr (.inl ⟨rfl,?_⟩)))))))
   show ws.getD j 0 = (if 0 <= (j:Int) then (j0 op ws width).wd (j:Int) else 0)
   rw [if_pos om,JT h1]
  ·rw [sO]
   refine .inr (.inl ⟨rfl,?_⟩)
   rw [JV]; exact (Cc hl h0).2 hf
  ·rw [rX]
   refine .inl ⟨rfl,?_⟩
   show gK _ 0 = 0
   exact Nat.zero_mod _
 ·exfalso
  have My:=hi.1.2; have Y8:=hj.1.2; have rp:=hi.1.1; have hj0:=hj.1.1
  rw [vx] at My Y8
  have e1:(j0 op ws width).cell i = (uT op ws.length).getD i.toNat default:=rfl
  have e2:(j0 op ws width).cell j = (uT op ws.length).getD j.toNat default:=rfl
  have ho:=(uc (op:=op) (k:=ws.length) (j:=j.toNat) om).1
  rw [e1,e2,ho] at hm
  have KF:=hj.2
  rw [e2] at KF
  rcases (show i.toNat < ws.length \/ i.toNat = ws.length \/ i.toNat = ws.length + 1 by omega) with h1 | h1 | h1
  ·rw [sN h1] at hm; cases hm
  ·rw [h1,sO] at hm
   obtain ⟨q,hq,R5⟩:=List.mem_map.1 hm
   have:=List.mem_range.1 hq
   rw [sN om] at KF
   unfold bR at KF; simp only at KF; omega
  ·rw [h1,rX] at hm; cases hm
theorem I7(h:mH (j0 op ws width) = 0):CZ op ws width:=by
 have hlen:(j0 op ws width).aa.length = ws.length + 2:=by simp [j0]
 have vx:(j0 op ws width).cells.length = ws.length + 2:=pL op ws.length
 unfold mH at h
 by_cases h1:bh (j0 op ws width)
 ·rw [if_pos h1] at h
  by_cases h2:Fit (j0 op ws width)
  ·have hc:=h1.cells ws.length (by rw [vx]; omega)
   have Lx:=h2.cells ws.length (by rw [vx]; omega)
   have e1:(j0 op ws width).cells.getD ws.length default = ⟨2,op,(ws.length:Int),pI 0 ws.length,0,0⟩:=sO
   rw [e1] at hc Lx
   have hs:=hc.2.1
   simp only [Shaped,Int.reduceEq,false_and,true_and,false_or,or_false,mM] at hs
   simp only [Fits,Int.reduceEq,false_and,true_and,false_or,or_false] at Lx
   rw [JV] at Lx
   have v3:∀ x ∈ (j0 op ws width).aa ++ (j0 op ws width).ins,dz x:=fun x hx=>by
    obtain ⟨i,hi,rfl⟩:=List.mem_iff_getElem.1 hx
    have:=h1.wide i hi
    rwa [List.getD_eq_getElem?_getD,List.getElem?_eq_getElem hi] at this
   refine ⟨fun w hw=>v3 w (by simp [j0,hw]),v3 width (by simp [j0]),hs.1,hs.2.1,(Cc hs.2.1 hs.1).1 Lx⟩
  ·rw [if_neg h2] at h; omega
 ·rw [if_neg h1] at h; omega
theorem FH(hk:ws.length <= 5):(j0 op ws width).Small:=by
 refine ⟨by simp [j0],by simp [j0]; omega,by show (uT op ws.length).length <= _; rw [pL]; omega,fun c hc=>?_,?_,fun c hc=>?_,fun m hm=>by simp [j0] at hm,fun m hm=>by simp [j0] at hm,by show ws.length <= _; omega,by simp [j0],by simp [j0],by simp [j0],by simp [j0],by simp [j0]⟩
 ·simp only [j0,uT,DE,List.mem_append,List.mem_map,List.mem_range,List.mem_singleton] at hc
  rcases hc with (⟨j,_,rfl⟩ | rfl) | rfl
  ·simp
  ·simp only [mM]; omega
  ·simp
 ·show ((uT op ws.length).map (fun c=>c.args.length)).sum <= _
  have h1:∀ k,((DE k).map (fun c=>c.args.length)).sum = 0:=fun k=>by
   induction k with
   | zero=>rfl
   | succ k ih=>rw [y0,List.map_append,List.sum_append,ih]; rfl
  simp only [uT,List.map_append,List.sum_append,h1,List.map_cons,List.map_nil,List.sum_cons,List.sum_nil,mM,List.length_nil]; omega
 ·simp only [j0,uT,DE,List.mem_append,List.mem_map,List.mem_range,List.mem_singleton] at hc
  rcases hc with (⟨j,_,rfl⟩ | rfl) | rfl
  ·simp only; omega
  ·simp
  ·simp
end
open Go Go.AW
def gR(ws : List Int) : Nat → Nat
  | 0=>0
  | i + 1=>gR ws i + (ws.getD i 0).toNat
theorem Cd{ws : List Int}(h : ∀ w ∈ ws, dz w) : ∀ i, i ≤ ws.length → gR ws i ≤ 64 * i
  | 0,_=>by simp [gR]
  | i + 1,hi=>by
    have h1:=Cd h i om
    have h2:=h (ws.getD i 0) (getD_in om)
    unfold dz at h2
    simp only [gR]; omega
theorem pM{ws : List Int}{i : Nat} : ∀ {j}, i ≤ j → gR ws i ≤ gR ws j
  | 0, h => by have : i = 0 := by omega
               subst this; exact Nat.le_refl _
  | j + 1,h=>by
    rcases Nat.lt_or_ge j i with h1 | h1
    · have:i = j + 1:=by omega
      subst this; exact Nat.le_refl _
    · have:=pM (ws:=ws) h1
      simp only [gR]; omega
def wL(ws:List Int)(i:Nat):List (List Int):=(List.range i).map (fun j=>pI (gR ws j) (ws.getD j 0).toNat)
theorem I8(ws:List Int)(i:Nat):wL ws (i + 1) = wL ws i ++ [pI (gR ws i) (ws.getD i 0).toNat]:=by simp [wL,List.range_succ]
theorem uU(ws:List Int)(i:Nat):(wL ws i).length = i:=by simp [wL]
theorem Ly{ws:List Int}{i j:Nat}(h:j < i):(wL ws i).getD j [] = pI (gR ws j) (ws.getD j 0).toNat:=by
  unfold wL
  rw [List.getD_eq_getElem?_getD,List.getElem?_map,List.getElem?_range h]; rfl
theorem uV{op:Int}{k:Nat}(h0:cd op ≠ 0)(hl:(k:Int) = cd op):(((2 <= op /\ op <= 3) \/ (9 <= op /\ op <= 20)) /\ k = 2) \/ (op = 21 /\ k = 3) \/ ((22 <= op /\ op <= 24) /\ k = 1):=by
  unfold cd at h0 hl
  by_cases h1:(2 <= op /\ op <= 3) \/ (9 <= op /\ op <= 20)
  · rw [if_pos h1] at hl; exact .inl ⟨h1,om⟩
  · rw [if_neg h1] at hl h0
    by_cases h2:op = 21
    · rw [if_pos h2] at hl; exact .inr (.inl ⟨h2,om⟩)
    · rw [if_neg h2] at hl h0
      by_cases h3:22 <= op /\ op <= 24
      · rw [if_pos h3] at hl; exact .inr (.inr ⟨h3,om⟩)
      · rw [if_neg h3] at h0; exact absurd rfl h0
section
variable {op width c:Int} {ws:List Int}
theorem P5(h : CZ op ws width)(hc : 0 ≤ c) :
    Ix c (pJ (gR ws ws.length)) (wL ws ws.length) op (ws.getD 0 0).toNat width.toNat (CY 0 (ws.getD 0 0).toNat) (CY (gR ws 1) (ws.getD 1 0).toNat) (CY (gR ws 2) (ws.getD 2 0).toNat) c:=by
  obtain ⟨hw,v3,h0,hl,hf⟩:=h
  have tI:=uV h0 hl
  have hg:∀ {j},j < ws.length -> dz (ws.getD j 0):=fun hj=>hw _ (getD_in hj)
  have uW:∀ {j},j < ws.length -> Wk c (pJ (gR ws ws.length)) ((wL ws ws.length).getD j []) (ws.getD j 0).toNat (CY (gR ws j) (ws.getD j 0).toNat) c:=fun {j} hj=>by
    rw [Ly hj]
    refine JS ?_
    have:=pM (ws:=ws) (i:=j + 1) (j:=ws.length) om
    simpa [gR] using this
  have w0:=hg (j:=0) om
  have hx:=uW (j:=0) om
  unfold dz at w0 v3
  unfold ek jY at hf
  rw [show gR ws 0 = 0 from rfl] at hx
  refine ⟨hx,fun h2=>?_,fun h3=>?_,?_,om,om,hc⟩
  · rw [uU] at h2
    have hy:=uW (j:=1) om
    have e:(ws.getD 1 0).toNat = if op = 21 then width.toNat else (ws.getD 0 0).toNat:=by
      by_cases KL:op = 21
      · rw [if_pos KL]; omega
      · rw [if_neg KL]; omega
    rw [<- e]; exact hy
  · rw [uU] at h3
    have hz:=uW (j:=2) om
    have e:(ws.getD 2 0).toNat = width.toNat:=by omega
    rw [e] at hz ⊢; exact hz
  · rw [uU]; omega
theorem FI(h:CZ op ws width):ws.length <= 3 /\ gR ws ws.length <= 192:=by
  have h3:=oc (op:=op)
  have h1:=Cd h.1 ws.length (Nat.le_refl _)
  have h2:=h.2.2.2.1
  omega
noncomputable instance:Decidable (CZ op ws width):=Classical.propDecidable _
def P6(op:Int)(ws:List Int)(width:Int):Prop:=Plain op /\ CZ op ws width
noncomputable instance:Decidable (P6 op ws width):=Classical.propDecidable _
def o6(op:Int)(ws:List Int)(width:Int)(l:List Gate)(out:List Int)(e:Int):Prop :=
  (¬ Plain op /\ e = 1) \/ (Plain op /\ ¬ CZ op ws width /\ e = 13) \/
  (Plain op ∧ CZ op ws width ∧ e = 0 ∧ Ext (pJ (gR ws ws.length)) l ∧ l.length ≤ 1800 ∧
    Cb 0 l out op (ws.getD 0 0).toNat width.toNat (CY 0 (ws.getD 0 0).toNat) (CY (gR ws 1) (ws.getD 1 0).toNat) (CY (gR ws 2) (ws.getD 2 0).toNat) 0)
end
open Go Go.AW
section
variable {op width:Int} {ws:List Int} {l:List Gate} {out:List Int} {e:Int}
theorem o6.e1(h:o6 op ws width l out e)(hp:¬ Plain op):e = 1:=by
 rcases h with ⟨_,h⟩ | ⟨h,_⟩ | ⟨h,_⟩
 ·exact h
 ·exact absurd h hp
 ·exact absurd h hp
theorem o6.e0(h:o6 op ws width l out e)(hp:Plain op)(hc:CZ op ws width):e = 0:=by
 rcases h with ⟨h,_⟩ | ⟨_,h,_⟩ | ⟨_,_,h,_⟩
 ·exact absurd hp h
 ·exact absurd hc h
 ·exact h
theorem FJ(h:o6 11 [1,1] 1 l out e):e = 0 /\ out.length = 1 /\ (0 <= out.getD 0 0 /\ out.getD 0 0 < l.length) /\ iZ l = 2 /\ l.length <= 1800:=by
 have hp:Plain 11:=by unfold Plain GX Seq Unary; omega
 have hc:CZ 11 [1,1] 1:=⟨ae,ae,ae,ae,by unfold ek jY; simp⟩
 rcases h with ⟨h,_⟩ | ⟨_,h,_⟩ | ⟨_,_,h0,hx,hl,hr⟩
 ·exact absurd hp h
 ·exact absurd hc h
 ·have hb:=hr.bit 0 ae
  refine ⟨h0,hr.len,⟨hb.lo,hb.hi⟩,?_,hl⟩
  rw [hx.iZ,pK]; rfl
end
theorem cJ{l:List Gate}{i:Nat}(h:i < l.length):iZ (l.take (i + 1)) = iZ (l.take i) + if (l.getD i default).kind = 3 then 1 else 0:=by
 rw [List.take_add_one,List.getElem?_eq_getElem h,kB,List.getD_eq_getElem?_getD,List.getElem?_eq_getElem h]
 exact congrArg _ (pG _)
open Go Go.AW
def Ce(l:List Gate):Prop:=∀ j,j < l.length -> lW j (l.getD j default)
noncomputable instance (l:List Gate):Decidable (Ce l):=Classical.propDecidable _
theorem getD_some{α:Type}{l:List α}{i:Nat}{g d:α}(h:l[i]? = some g):i < l.length /\ l.getD i d = g:=by
 obtain ⟨hi,rfl⟩:=List.getElem?_eq_some_iff.1 h
 exact ⟨hi,by rw [List.getD_eq_getElem?_getD,List.getElem?_eq_getElem hi]; rfl⟩
theorem Good.d{l:List Gate}(h:Good l):Ce l:=fun j hj=>h j _ (by rw [List.getD_eq_getElem?_getD,List.getElem?_eq_getElem hj]; rfl)
theorem aX{i:Nat}{g:Gate}:lW i g ↔ ((1 <= g.kind /\ g.kind <= 7) /\ (4 <= g.kind -> 0 <= g.a /\ g.a < i) /\ (¬ 4 <= g.kind -> g.a = 0) /\ (5 <= g.kind -> 0 <= g.b /\ g.b < i) /\ (¬ 5 <= g.kind -> g.b = 0)):=by
 unfold lW
 by_cases h4:4 <= g.kind
 ·by_cases h5:5 <= g.kind
  ·rw [if_pos h4,if_pos h5]
   exact ⟨fun h=>⟨h.1,fun _=>h.2.1,fun n=>absurd h4 n,fun _=>h.2.2,fun n=>absurd h5 n⟩,fun h=>⟨h.1,h.2.1 h4,h.2.2.2.1 h5⟩⟩
  ·rw [if_pos h4,if_neg h5]
   exact ⟨fun h=>⟨h.1,fun _=>h.2.1,fun n=>absurd h4 n,fun n=>absurd n h5,fun _=>h.2.2⟩,fun h=>⟨h.1,h.2.1 h4,h.2.2.2.2 h5⟩⟩
 ·have h5:¬ 5 <= g.kind:=by omega
  rw [if_neg h4,if_neg h5]
  exact ⟨fun h=>⟨h.1,fun n=>absurd n h4,fun _=>h.2.1,fun n=>absurd n h5,fun _=>h.2.2⟩,fun h=>⟨h.1,h.2.2.1 h4,h.2.2.2.2 h5⟩⟩
def mN(a:List Int)(w n:Int):Prop:=(∀ j,j < a.length -> 0 <= a.getD j 0 /\ a.getD j 0 < n) /\ (a.length:Int) = w
noncomputable instance (a:List Int) (w n:Int):Decidable (mN a w n):=Classical.propDecidable _
theorem uX{l:List Gate}{ins:List Int}{i:Nat}(h:i < l.length):fT l ins (i + 1) = fT l ins i ++ [nZ (fT l ins i) ins (iZ (l.take i)) (l.getD i default)]:=by
 unfold fT
 rw [jx _ (List.getElem?_eq_getElem h),List.getD_eq_getElem?_getD,List.getElem?_eq_getElem h]; rfl
theorem w7{l:List Gate}{ins:List Int}{i:Nat}(h:i <= l.length):(fT l ins i).length = i:=jy _ h
theorem I9{l:List Gate}{i:Nat}(h:i < l.length)(h3:(l.getD i default).kind = 3):iZ (l.take i) < iZ l:=by
 have h1:=cJ h
 rw [if_pos h3] at h1
 have h2:iZ l = iZ (l.take (i + 1)) + iZ (l.drop (i + 1)):=by rw [<- kB,List.take_append_drop]
 omega
theorem pN{o ins:List Int}{n:Nat}{g:Gate}(h:5 <= g.kind /\ g.kind <= 7):nZ o ins n g = max (o.getD g.a.toNat 0) (o.getD g.b.toNat 0) + 20:=by
 unfold nZ; rw [if_neg om,if_neg om,if_pos h]
open Go Go.AW
def y4(op:Int)(ws:List Int)(width:Int):Prop:=Plain op /\ CZ op ws width
theorem y4.len{op:Int}{ws:List Int}{width:Int}(h:y4 op ws width):1 <= ws.length /\ ws.length <= 3:=by
 have h1:=oc (op:=op)
 have h2:=h.2.2.2.2.1
 have h3:=h.2.2.2.1
 omega
theorem o6.dP{op : Int}{ws : List Int}{width : Int}{l : List Gate}{out : List Int}{e : Int}(h : o6 op ws width l out e)(hd : y4 op ws width) :
  e = 0 /\ Good l /\ mN out width l.length /\ l.length <= 1800 /\ iZ l = gR ws ws.length /\ ∀ j,j < out.length -> CS 0 l (out.getD j 0) <= aK op (if jY op then ws.getD 0 0 else width).toNat:=by
 rcases h with ⟨h,_⟩ | ⟨_,h,_⟩ | ⟨_,hc,h0,hx,hl,hr⟩
 ·exact absurd hd.1 h
 ·exact absurd hd.2 h
 ·have hw:=hc.2.1
  unfold dz at hw
  have ta:=hr.len
  refine ⟨h0,hx.dP,⟨fun j hj=>?_,om⟩,hl,by rw [hx.iZ,pK],fun j hj=>?_⟩
  ·have hb:=hr.bit j om
   exact ⟨hb.lo,hb.hi⟩
  ·have hb:=(hr.bit j om).t
   rw [Int.zero_add] at hb
   have e1:(if jY op then ws.getD 0 0 else width).toNat = if jY op then (ws.getD 0 0).toNat else width.toNat:=by split <;> rfl
   rw [e1]; exact hb
open Go Go.AW
theorem uY(l:List Int)(b:Int):gp (l ++ [b]) = gp l + 2 ^ l.length * b.toNat:=by
 induction l with
 | nil=>simp [gp]
 | cons a r ih =>
  show 2 * gp (r ++ [b]) + a.toNat = 2 * gp r + a.toNat + 2 ^ (r.length + 1) * b.toNat
  rw [ih,Nat.pow_succ,Nat.mul_add,<- Nat.mul_assoc,Nat.mul_comm 2 (2 ^ r.length)]; omega
theorem FK{f:Nat -> Bool}{w R:Nat}(hR:R < 2 ^ w)(h:∀ k,k < w -> R.testBit k = f k):tt f w = R:=by
 refine Nat.eq_of_testBit_eq fun i=>?_
 rcases Nat.lt_or_ge i w with h1 | h1
 ·rw [sM h1,h i h1]
 ·rw [Nat.testBit_lt_two_pow (Nat.lt_of_lt_of_le (rW w) (Nat.pow_le_pow_right om h1)),Nat.testBit_lt_two_pow (Nat.lt_of_lt_of_le hR (Nat.pow_le_pow_right om h1))]
theorem uZ{l:List Int}{i:Nat}(h:i < l.length):gp (l.take (i + 1)) = gp (l.take i) + 2 ^ i * (l.getD i 0).toNat:=by
 rw [List.take_succ_eq_append_getElem h,uY,List.length_take,Nat.min_eq_left om,List.getD_eq_getElem?_getD,List.getElem?_eq_getElem h]; rfl
structure Av(a b:List Int)(c0:Int)(i:Nat)(out:List Int)(c:Int):Prop where
 ol:out.length = i
 o01:∀ x ∈ out,0 <= x /\ x <= 1
 c01:0 <= c /\ c <= 1
 sum:gp out + 2 ^ i * c.toNat = gp (a.take i) + gp (b.take i) + c0.toNat
theorem Av.init{a b:List Int}{c0:Int}(h:0 <= c0 /\ c0 <= 1):Av a b c0 0 [] c0:=⟨rfl,fun _ h=>(by cases h),h,by simp [gp]⟩
theorem Av.step{a b out : List Int}{c0 c x y : Int}{i : Nat}(h : Av a b c0 i out c)(ha : i < a.length)(hb : i < b.length)(hx : a.getD i 0 = x)(hy : b.getD i 0 = y)(Wm : 0 ≤ x ∧ x ≤ 1)(hy1 : 0 ≤ y ∧ y ≤ 1) :
  Av a b c0 (i + 1) (out ++ [(x + y + c) % 2]) ((x + y + c) / 2):=by
 obtain ⟨h1,h2,h3,h4⟩:=h
 refine ⟨by simp [h1],fun z hz=>?_,om,?_⟩
 ·rcases List.mem_append.1 hz with h | h
  ·exact h2 z h
  ·rw [List.mem_singleton.1 h]; omega
 ·rw [uY,uZ ha,uZ hb,h1,hx,hy,Nat.pow_succ]
  have e:((x + y + c) % 2).toNat + 2 * ((x + y + c) / 2).toNat = x.toNat + y.toNat + c.toNat:=by omega
  have e2:2 ^ i * ((x + y + c) % 2).toNat + 2 ^ i * 2 * ((x + y + c) / 2).toNat = 2 ^ i * x.toNat + 2 ^ i * y.toNat + 2 ^ i * c.toNat:=by
   rw [Nat.mul_assoc,<- Nat.mul_add,e,Nat.mul_add,Nat.mul_add]
  omega
theorem Av.done{a b out:List Int}{c0 c:Int}{n:Nat}(h:Av a b c0 n out c)(ha:a.length = n)(hb:b.length = n):gp out = (gp a + gp b + c0.toNat) % 2 ^ n:=by
 obtain ⟨h1,h2,h3,h4⟩:=h
 rw [List.take_of_length_le om,List.take_of_length_le om] at h4
 have h5:=xS out (fun b hb=>by have:=h2 b hb; omega)
 rw [<- h4,Nat.add_mul_mod_self_left,Nat.mod_eq_of_lt (by rw [<- h1]; exact h5)]
section
variable {w width x y z:Nat}
end
open Go Go.AW Go.Proofs
end Go.Proofs.Ytlimckldnjmabaa
namespace Go.Proofs.Ytlimckldnjmabaa
open Go Go.AW Go.Proofs
open Go Go.AW Go.Proofs
end Go.Proofs.Ytlimckldnjmabaa
namespace Go.Proofs.Ytlimckldnjmabaa
open Go Go.AW Go.Proofs
open Go Go.AW
section
variable {o ins:List Bool} {n:Nat} {g:Gate}
end
open Go Go.AW Go.Proofs
end Go.Proofs.Ytlimckldnjmabaa
namespace Go.Proofs.Ytlimckldnjmabaa
open Go Go.AW
structure U3 where
 a:Nat
 b:Nat
 c:Nat
instance:Inhabited U3:=⟨⟨0,0,0⟩⟩
def U3.row(u:U3):List X:=[.v (.int .u64 (u.a:Int)),.v (.int .u64 (u.b:Int)),.v (.int .u64 (u.c:Int))]
theorem U3.bA(u:U3):X.bu u.row = true:=rfl
theorem U3.lP(u:U3):X.fw u.row:=by simp [U3.row,X.fw,X.plain]
def U3.get(u:U3)(i:Nat):Nat:=if i = 0 then u.a else if i = 1 then u.b else u.c
def U3.Ok(u:U3):Prop:=u.a < 18446744073709551616 /\ u.b < 18446744073709551616 /\ u.c < 18446744073709551616
theorem U3.Ok.get{u:U3}(h:u.Ok)(i:Nat):u.get i < 18446744073709551616:=by
 unfold U3.get; obtain ⟨h1,h2,h3⟩:=h
 split
 ·exact h1
 ·split
  ·exact h2
  ·exact h3
def bL(f:Nat -> Bool)(n:Nat):List Bool:=(List.range n).map f
theorem FL(f:Nat -> Bool)(n:Nat):(bL f n).length = n:=by simp [bL]
theorem Lz{f:Nat -> Bool}{n i:Nat}(h:i < n):(bL f n).getD i false = f i:=by
 rw [List.getD_eq_getElem?_getD,List.getElem?_eq_getElem (by rw [FL]; exact h)]; simp [bL]
def L0(tF:List Bool)(cb:List Int)(x:Nat):Prop:=∀ j,j < cb.length -> tF.getD (cb.getD j 0).toNat false = x.testBit j
noncomputable instance (tF:List Bool) (cb:List Int) (x:Nat):Decidable (L0 tF cb x):=Classical.propDecidable _
def JW(ws:List Int)(u:U3)(i:Nat):List Nat:=(List.range i).map fun j=>gK (ws.getD j 0) (u.get j)
theorem IA(ws:List Int)(u:U3)(i:Nat):(JW ws u i).length = i:=by simp [JW]
theorem ud{ws:List Int}{u:U3}{i j:Nat}(h:j < i):(JW ws u i).getD j 0 = gK (ws.getD j 0) (u.get j):=by
 rw [List.getD_eq_getElem?_getD,List.getElem?_eq_getElem (by rw [IA]; exact h)]; simp [JW]
def DF(ws : List Int)(u : U3) : Nat → List Bool
 | 0=>[]
 | i + 1=>DF ws u i ++ bL (gK (ws.getD i 0) (u.get i)).testBit (iL (ws.getD i 0))
theorem pO{w:Int}(h:dz w):iL w = w.toNat:=by unfold dz at h; unfold iL; rw [if_neg om,if_neg om]
theorem Cf{ws : List Int}{u : U3}(h : ∀ w ∈ ws, dz w) : ∀ i, i ≤ ws.length → (DF ws u i).length = gR ws i
 | 0,_=>rfl
 | i + 1,hi=>by
  have h1:=pO (h (ws.getD i 0) (getD_in om))
  rw [DF,List.length_append,Cf h i om,FL,gR,h1]
theorem Cg{ws : List Int}{u : U3}(h : ∀ w ∈ ws, dz w){j k : Nat}(hk : k < (ws.getD j 0).toNat) : ∀ i, j < i → i ≤ ws.length → (DF ws u i).getD (gR ws j + k) false = (gK (ws.getD j 0) (u.get j)).testBit k
 | 0,h0,_=>by omega
 | i + 1,hj,hi=>by
  have hl:=Cf (u:=u) h i om
  rw [DF]
  rcases Nat.lt_or_ge j i with h1 | h1
  ·have hm:=pM (ws:=ws) (i:=j + 1) (j:=i) om
   simp only [gR] at hm
   rw [List.getD_eq_getElem?_getD,List.getElem?_append_left om,<- List.getD_eq_getElem?_getD]
   exact Cg h hk i h1 om
  ·obtain rfl:j = i:=by omega
   have R6:=pO (h (ws.getD j 0) (getD_in om))
   rw [List.getD_eq_getElem?_getD,List.getElem?_append_right om,hl,show gR ws j + k - gR ws j = k by omega,<- List.getD_eq_getElem?_getD]
   exact Lz om
theorem IB{ws:List Int}{u:U3}(h:∀ w ∈ ws,dz w){j:Nat}(hj:j < ws.length):CY (gR ws j) (ws.getD j 0).toNat (DF ws u ws.length) = gK (ws.getD j 0) (u.get j):=by
 have R6:=pO (h (ws.getD j 0) (getD_in hj))
 have gQ:=wP (ws.getD j 0) (u.get j)
 rw [R6] at gQ
 exact FK gQ fun k hk=>(Cg h hk ws.length hj (Nat.le_refl _)).symm
def P7(op width:Int)(ws:List Int)(a:List Nat):Nat:=so op (ws.getD 0 0).toNat width.toNat (a.getD 0 0) (a.getD 1 0) (a.getD 2 0)
theorem IC{op:Int}{w width x y z z':Nat}(h:(2 <= op /\ op <= 3) \/ (9 <= op /\ op <= 20)):so op w width x y z = so op w width x y z':=by
 unfold so
 simp only [show ¬ op = 21 by omega,if_false]
theorem ID{op:Int}{w width x y y' z z':Nat}(h:22 <= op /\ op <= 24):so op w width x y z = so op w width x y' z':=by
 have:op = 22 \/ op = 23 \/ op = 24:=by omega
 rcases this with rfl | rfl | rfl <;> simp [so]
theorem o6.num{op : Int}{ws : List Int}{width : Int}{l : List Gate}{out : List Int}{e : Int}{u : U3}(h : o6 op ws width l out e)(hd : y4 op ws width) :
  ∀ j,j < out.length -> (outs l (DF ws u ws.length) l.length).getD (out.getD j 0).toNat false = (P7 op width ws (JW ws u ws.length)).testBit j /\ P7 op width ws (JW ws u ws.length) < 2 ^ width.toNat:=by
 rcases h with ⟨h,_⟩ | ⟨_,h,_⟩ | ⟨_,hc,_,_,_,hr⟩
 ·exact absurd hd.1 h
 ·exact absurd hd.2 h
 ·intro j hj
  have ta:=hr.len
  have hb:=(hr.bit j om).v (DF ws u ws.length)
  have gQ:=hr.lt (DF ws u ws.length)
  unfold val at hb
  rw [hb]
  obtain ⟨hw,v3,h0,hl,hf⟩:=hc
  have tI:=uV h0 hl
  have nK:=fun {j:Nat} (hj:j < ws.length)=>IB (u:=u) hw hj
  have e0:=nK (j:=0) om
  rw [show gR ws 0 = 0 from rfl] at e0
  have e1:so op (ws.getD 0 0).toNat width.toNat (CY 0 (ws.getD 0 0).toNat (DF ws u ws.length)) (CY (gR ws 1) (ws.getD 1 0).toNat (DF ws u ws.length)) (CY (gR ws 2) (ws.getD 2 0).toNat (DF ws u ws.length)) = P7 op width ws (JW ws u ws.length):=by
   unfold P7
   rw [e0,ud om]
   rcases tI with ⟨h1,h2⟩ | ⟨h1,h2⟩ | ⟨h1,h2⟩
   ·rw [nK (j:=1) om,ud (j:=1) om]; exact IC h1
   ·rw [nK (j:=1) om,ud (j:=1) om,nK (j:=2) om,ud (j:=2) om]
   ·exact ID h1
  rw [e1] at gQ ⊢
  exact ⟨rfl,gQ⟩
theorem o6.small{op : Int}{ws : List Int}{width : Int}{l : List Gate}{out : List Int}{e : Int}{u : U3}(h : o6 op ws width l out e)(hd : y4 op ws width)(ho : (out.length : Int) = width) :
  P7 op width ws (JW ws u ws.length) < 18446744073709551616:=by
 have hw:=hd.2.2.1
 unfold dz at hw
 have h1:=(h.num (u:=u) hd 0 om).2
 have h2:=oS width.toNat om
 omega
open Go Go.AW Go.Proofs
end Go.Proofs.Ytlimckldnjmabaa
namespace Go.Proofs.Ytlimckldnjmabaa
open Go Go.AW
def Ch(n:ab)(k:Nat)(kn:List Bool):Prop:=∀ w:Int,In w n.aa.length -> (kn.getD w.toNat false = true ↔ ∃ j,bH n j w /\ j < k /\ ¬ bR (n.cell j).kind)
theorem Ch.init(n:ab):Ch n 0 (List.replicate n.aa.length false):=by
 intro w hw
 unfold In at hw
 rw [List.getD_eq_getElem?_getD,List.getElem?_replicate,if_pos om]
 exact ⟨fun h=>(by cases h),fun ⟨j,h1,h2,_⟩=>(by have:=h1.1; omega)⟩
theorem Ch.skip{n:ab}{k:Nat}{l:List Bool}(h:Ch n k l)(hc:bR (n.cells.getD k default).kind \/ (n.cells.getD k default).kind = 7):Ch n (k + 1) l:=by
 intro w hw
 rw [h w hw]
 constructor
 ·rintro ⟨j,h1,h2,h3⟩; exact ⟨j,h1,om,h3⟩
 ·rintro ⟨j,h1,h2,h3⟩
  refine ⟨j,h1,?_,h3⟩
  rcases Int.lt_or_eq_of_le (show j <= k by omega) with h' | h'
  ·exact h'
  ·subst h'
   rcases hc with hc | hc
   ·exact absurd hc h3
   ·exact absurd hc h1.2.1
theorem Ch.step{n : ab}{k : Nat}{l : List Bool}(h : Ch n k l)(hk : k < n.cells.length)(hl : l.length = n.aa.length)(hc : ¬ bR (n.cells.getD k default).kind)(h7 : (n.cells.getD k default).kind ≠ 7)(ho : In (n.cells.getD k default).out n.aa.length) :
  Ch n (k + 1) (l.set (n.cells.getD k default).out.toNat true):=by
 intro w hw
 unfold In at ho
 have rq:=hw
 unfold In at rq
 rw [bx]
 by_cases e:(n.cells.getD k default).out = w
 ·rw [if_pos ⟨om,om⟩]
  exact ⟨fun _=>⟨(k:Int),⟨⟨om,om⟩,h7,e⟩,om,hc⟩,fun _=>rfl⟩
 ·rw [if_neg om,h w hw]
  constructor
  ·rintro ⟨j,h1,h2,h3⟩; exact ⟨j,h1,om,h3⟩
  ·rintro ⟨j,h1,h2,h3⟩
   refine ⟨j,h1,?_,h3⟩
   rcases Int.lt_or_eq_of_le (show j <= k by omega) with h' | h'
   ·exact h'
   ·subst h'; exact absurd h1.2.2 e
structure LD(n:ab)(done:List Int)(kn:List Bool)(left:Int):Prop where
 nd:done.Nodup
 cm:∀ x ∈ done,bD n x
 kn:∀ w,In w n.aa.length -> (kn.getD w.toNat false = true ↔ ¬ Open n done w)
 left:left = (n.cells.length:Int) - ((j6 n n.cells.length).length:Int) - (done.length:Int)
 oC:∀ p i s,done = p ++ i :: s -> dB n p i = 0
section
variable {n:ab} (hf:bh n)
include hf
theorem LD.init{kn:List Bool}(h:Ch n n.cells.length kn):LD n [] kn ((n.cells.length:Int) - ((j6 n n.cells.length).length:Int)) where
 nd:=List.nodup_nil
 cm:=fun _ h=>(by cases h)
 kn:=fun w hw=>by
  rw [h w hw]
  constructor
  ·rintro ⟨j,h1,h2,h3⟩ ⟨⟨i,hi,e⟩,_⟩
   have:=hf.unique h1 (e ▸ hi.la)
   subst this; exact h3 hi.2
  ·intro ho
   obtain ⟨j,hj⟩:=hf.kg hw
   refine ⟨j,hj,by have:=hj.1; omega,fun hc=>ho ⟨⟨j,⟨hj.1,hc⟩,hj.2.2⟩,fun _ h=>(by cases h)⟩⟩
 left:=by simp
 oC:=fun p i s h=>by simp at h
theorem LD.step{done : List Int}{kn : List Bool}{left i : Int}(h : LD n done kn left)(hl : kn.length = n.aa.length)(hi : bD n i)(hk : kn.getD (n.cell i).out.toNat false = false)(hz : dB n done i = 0) :
  LD n (done ++ [i]) (kn.set (n.cell i).out.toNat true) (left - 1):=by
 have IF:=hf.fS hi.la
 have KH:Open n done (n.cell i).out:=Classical.byContradiction fun hh=>by
  have:=(h.kn _ IF).2 hh
  rw [hk] at this; cases this
 have Rj:i ∉ done:=fun hm=>KH.2 i hm rfl
 refine ⟨?_,fun x hx=>?_,fun w hw=>?_,?_,fun p j s e=>?_⟩
 ·rw [List.nodup_append]
  exact ⟨h.nd,by simp,fun a ha b hb e=>Rj (by rw [<- List.mem_singleton.1 hb,<- e]; exact ha)⟩
 ·rcases List.mem_append.1 hx with hx | hx
  ·exact h.cm x hx
  ·rw [List.mem_singleton.1 hx]; exact hi
 ·unfold In at IF
  have rq:=hw
  unfold In at rq
  have ho:Open n (done ++ [i]) w ↔ Open n done w /\ (n.cell i).out ≠ w:=by
   constructor
   ·rintro ⟨a,b⟩
    exact ⟨⟨a,fun j hj=>b j (by simp [hj])⟩,b i (by simp)⟩
   ·rintro ⟨⟨a,b⟩,c⟩
    refine ⟨a,fun j hj=>?_⟩
    rcases List.mem_append.1 hj with hj | hj
    ·exact b j hj
    ·rw [List.mem_singleton.1 hj]; exact c
  rw [bx,ho]
  by_cases e:(n.cell i).out = w
  ·rw [if_pos ⟨om,om⟩]
   exact ⟨fun _ h=>h.2 e,fun _=>rfl⟩
  ·rw [if_neg om,h.kn w hw]
   exact ⟨fun h1 h2=>h1 h2.1,fun h1 h2=>h1 ⟨h2,e⟩⟩
 ·rw [h.left,List.length_append]; simp; omega
 ·rcases List.eq_nil_or_concat s with rfl | ⟨s',x,rfl⟩
  ·obtain ⟨rfl,e3⟩:=List.append_inj' (t₁:=[i]) (t₂:=[j]) e rfl
   cases e3
   exact hz
  ·have e2:=List.append_inj' (s₁:=done) (s₂:=p ++ j :: s') (t₁:=[i]) (t₂:=[x]) (by rw [e]; simp) rfl
   exact h.oC p j s' e2.1
theorem LD.known{done:List Int}{kn:List Bool}{left:Int}(h:LD n done kn left){i:Int}(hi:0 <= i /\ i < n.cells.length):(∀ x ∈ (n.cell i).args,kn.getD x.toNat false = true) ↔ dB n done i = 0:=by
 unfold dB
 rw [List.countP_eq_zero]
 constructor
 ·intro hh x hx ho
  exact (h.kn x (hf.kJ hi hx)).1 (hh x hx) (of_decide_eq_true ho)
 ·intro hh x hx
  exact (h.kn x (hf.kJ hi hx)).2 (fun ho=>hh x hx (decide_eq_true ho))
def FM(n:ab)(k:Int)(done:List Int):Prop:=∀ i,bD n i -> i < k -> Open n done (n.cell i).out -> dB n done i ≠ 0
theorem LD.ki{done:List Int}{kn:List Bool}{left:Int}(h:LD n done kn left)(hs:FM n n.cells.length done):KI n done [] ((List.range n.cells.length).map (fun (i:Nat)=>(dB n done (i:Int):Int))) where
 nd:=by simpa using h.nd
 cm:=fun x hx=>h.cm x (by simpa using hx)
 nw:=fun i hi=>by
  have hb:=hi.1
  rw [List.getD_eq_getElem?_getD,List.getElem?_map,List.getElem?_range om]
  simp only [Option.map_some,Option.getD_some]
  rw [show (i.toNat:Int) = i by omega]
 full:=fun i hi=>by
  rw [List.append_nil]
  constructor
  ·intro hm
   obtain ⟨p,s,e⟩:=List.append_of_mem hm
   have:=h.oC p i s e
   rw [pA] at this ⊢
   intro x hx hc
   obtain ⟨j,hj,e2⟩:=this x hx hc
   exact ⟨j,by rw [e]; simp [hj],e2⟩
  ·intro hz
   refine Classical.byContradiction fun hn=>hs i hi hi.1.2 ⟨⟨i,hi,rfl⟩,fun j hj e=>hn ?_⟩ hz
   have:=hf.unique (h.cm j hj).la (e ▸ hi.la)
   exact this ▸ hj
 oC:=h.oC
theorem LD.res{done:List Int}{kn:List Bool}{left:Int}(h:LD n done kn left)(hs:FM n n.cells.length done):0 < left ↔ ¬ Acyclic n:=by
 have hk:=h.ki hf hs
 have hl:=h.left
 constructor
 ·intro h0
  exact hk.J0 (by rw [List.length_append]; omega)
 ·intro ha
  refine Classical.byContradiction fun h0=>ha (hk.ok hf (by rw [List.length_append]; omega)).1
end
theorem LD.pos{n:ab}{done:List Int}{kn:List Bool}{left:Int}(h:LD n done kn left):0 <= left /\ left <= n.cells.length:=by
 have jB:(j6 n n.cells.length ++ done).Nodup:=by
  rw [List.nodup_append]
  refine ⟨u9 _ _,h.nd,fun a ha b hb e=>?_⟩
  subst e
  exact (kK.1 ha).2 (h.cm a hb).2
 have:=length_le_of_subset (m:=(List.range n.cells.length).map (fun (i:Nat)=>(i:Int))) jB (fun x hx=>by
  have j8:0 <= x /\ x < n.cells.length:=by
   rcases List.mem_append.1 hx with hx | hx
   ·exact (kK.1 hx).1
   ·exact (h.cm x hx).1
  exact List.mem_map.2 ⟨x.toNat,List.mem_range.2 om,om⟩)
 rw [List.length_append,List.length_map,List.length_range] at this
 have hl:=h.left
 omega
def FN(n:ab)(k o7:Int)(kn:List Bool)(left:Int)(more:Bool):Prop:=∃ done,LD n done kn left /\ left <= o7 /\ (more = true -> left < o7) /\ (more = false -> FM n k done)
theorem FN.seq{n:ab}{k:Nat}{o7 left:Int}{kn:List Bool}{more:Bool}(h:FN n k o7 kn left more)(hc:¬ bR (n.cells.getD k default).kind):FN n ((k + 1:Nat):Int) o7 kn left more:=by
 obtain ⟨done,h1,h2,h3,h4⟩:=h
 refine ⟨done,h1,h2,h3,fun hm i hi h0=>h4 hm i hi (nX hc hi h0)⟩
section
variable {n:ab} (hf:bh n) {k:Nat} {o7 left:Int} {kn:List Bool} {more:Bool}
include hf
theorem FN.skip(h:FN n k o7 kn left more)(hk:k < n.cells.length)(hc:kn.getD (n.cells.getD k default).out.toNat false = true \/ ¬ ∀ x ∈ (n.cells.getD k default).args,kn.getD x.toNat false = true)(DC:bR (n.cells.getD k default).kind):FN n ((k + 1:Nat):Int) o7 kn left more:=by
 obtain ⟨done,h1,h2,h3,h4⟩:=h
 have hi:bD n (k:Int):=⟨⟨om,om⟩,DC⟩
 refine ⟨done,h1,h2,h3,fun hm i Y9 h0=>?_⟩
 by_cases e:i = k
 ·subst e
  intro ho hz
  rcases hc with hc | hc
  ·exact (h1.kn _ (hf.fS hi.la)).1 hc ho
  ·exact hc ((h1.known hf hi.1).2 hz)
 ·exact h4 hm i Y9 om
theorem FN.step(h : FN n k o7 kn left more)(hk : k < n.cells.length)(hl : kn.length = n.aa.length)(h1 : kn.getD (n.cells.getD k default).out.toNat false = false)(h2 : ∀ x ∈ (n.cells.getD k default).args, kn.getD x.toNat false = true)(DC : bR (n.cells.getD k default).kind) :
  FN n ((k + 1:Nat):Int) o7 (kn.set (n.cells.getD k default).out.toNat true) (left - 1) true:=by
 obtain ⟨done,a1,a2,a3,a4⟩:=h
 have hi:bD n (k:Int):=⟨⟨om,om⟩,DC⟩
 refine ⟨done ++ [(k:Int)],a1.step hf hl hi h1 ((a1.known hf hi.1).1 h2),om,fun _=>by omega,fun h=>(by cases h)⟩
end
theorem Ch.next{n : ab}(hf : bh n){k : Nat}{kn : List Bool}(h : Ch n k kn)(hk : k < n.cells.length)(hl : kn.length = n.aa.length) :
  (¬ bR (n.cells.getD k default).kind -> 0 <= (n.cells.getD k default).out -> Ch n (k + 1) (kn.set (n.cells.getD k default).out.toNat true)) /\ (bR (n.cells.getD k default).kind -> Ch n (k + 1) kn /\ 0 <= (n.cells.getD k default).out) /\
  (¬ 0 <= (n.cells.getD k default).out -> Ch n (k + 1) kn) /\ (0 <= (n.cells.getD k default).out -> (n.cells.getD k default).out < n.aa.length):=by
 obtain ⟨_,_,a3,a4⟩:=hf.cells k hk
 refine ⟨fun hc ho=>?_,fun hc=>⟨h.skip (.inl hc),?_⟩,fun ho=>?_,fun ho=>?_⟩
 ·have h7:(n.cells.getD k default).kind ≠ 7:=fun h7=>by have:=a3 h7; omega
  exact h.step hk hl hc h7 (a4 h7)
 ·have h7:(n.cells.getD k default).kind ≠ 7:=fun h7=>by rw [h7] at hc; revert hc; unfold bR; omega
  exact (a4 h7).1
 ·have h7:(n.cells.getD k default).kind = 7:=Classical.byContradiction fun h7=>ho (a4 h7).1
  exact h.skip (.inr h7)
 ·have h7:(n.cells.getD k default).kind ≠ 7:=fun h7=>by have:=a3 h7; omega
  exact (a4 h7).2
theorem FN.bd{n:ab}(hf:bh n){k o7 left:Int}{kn:List Bool}{more:Bool}(h:FN n k o7 kn left more):0 <= left /\ left <= n.cells.length:=by
 obtain ⟨done,b1,b2,b3,b4⟩:=h
 exact b1.pos
open Go Go.AW
end Go.Proofs.Ytlimckldnjmabaa
namespace Go.Proofs.Ytlimckldnjmabaa
open Go Go.AW Go.Proofs
open Go Go.AW Go.Proofs
end Go.Proofs.Ytlimckldnjmabaa
namespace Go.Proofs.Ytlimckldnjmabaa
open Go Go.AW Go.Proofs
theorem y5{n:ab}{c:Cell}(hs:n.Small)(hc:c.args.length <= 17592186043904):aw Try.prog 160 [.agg (ab.row n),.agg (Cell.row c)] [] [] (fun r o=>r = .v (.bool (decide (Shaped n c))) /\ o = []):=by
 refine aw.of Try.func160 U U U (n:=132) ae (aH U) ?_
 have R7:=hs.ins; have R8:=hs.aD; have T4:=hs.streams
 refine .sr (.box 102 U U U U U ae (.box 103 U U U U U ae ?_))
 refine .an (.nil (.sr ?_))
 refine .an ?_
 refine .an ?_
 refine .an ?_
 refine .an ?_
 refine .nil (.seq (.sr (.fa dC ?_)))
 refine .ld bj ?_
 refine .nil (.block (.sr (.vl (Y.ql U U) (.an (.nil ?_)))))
 refine .aA U (fun JX=>?_) (fun JX=>?_)
 refine .region (.an (.nil ?_))
 refine .ux (⟨[(2,.ptr 102 0 0 0),(3,.ptr 103 0 0 0),(8,vi (-1))],[(102,.cells (ab.row n)),(103,.cells (Cell.row c))]⟩) (((¬ ((c.args.length:Int) ≠ 0)) /\ (¬ (c.op ≠ 0)) /\ ((c.num:Int) ≠ 0)) \/ ((¬ ((c.args.length:Int) ≠ 0)) /\ (¬ (c.op ≠ 0)) /\ (¬ ((c.num:Int) ≠ 0)))) ?_ (fun FO=>?_)
 refine .sr (.fa bU ?_)
 refine .ld bt ?_
 refine .vl (Y.qx (n:=c.args.length) a7 U fV) (.mv ?_)
 refine .vl (Y.zl U U) (.mv ?_)
 refine .aC (d:=88) U (fun pd=>?_) (fun pd=>?_)
 refine .gz 88 (.gz 88 (.gz 88 (.gz 88 (.pk ?_))))
 refine .mv ?_
 refine .gz 94 (.gz 94 (.gz 94 (.gz 94 (.gz 98 (.gz 98 (.gz 94 (.pk ?_)))))))
 refine .nil (.aO U (.sr (.an (.nil (.ret ?_)))))
 exact .rb rfl (df iq)
 refine .gw 88 (Y.qp fc U U) (.gw 88 (Y.za bj U U U U) (.gw 88 (Y.zh U U) (.gw 88 (Y.zl U U) (.pk ?_))))
 refine .mv ?_
 refine .aC (d:=94) U (fun pY=>?_) (fun pY=>?_)
 refine .gz 94 (.gz 94 (.gz 94 (.gz 94 (.gz 98 (.gz 98 (.gz 94 (.pk ?_)))))))
 refine .nil (.aO U (.sr (.an (.nil (.ret ?_)))))
 exact .rb rfl (df iq)
 refine .gw 94 (Y.qp eB U U) (.gw 94 (Y.za iY U U U U) (.gw 94 (Y.zl U U) (.gw 94 (Y.zh U U) (.aC (d:=98) U (fun nz=>?_) (fun nz=>?_)))))
 refine .gw 98 (Y.zh U U) (.gw 98 (Y.zn U) (.gw 94 (Y.zo U U U) (.pk ?_)))
 exact .nil (.cZ U (.skip (⟨.inl ⟨pd,pY,nz⟩,Le.mk (.c2 (.c .nil)) (.c (.c .nil))⟩)))
 refine .gz 98 (.gz 98 (.gw 94 (Y.zo U U U) (.pk ?_)))
 exact .nil (.cZ U (.skip (⟨.inr (⟨pd,pY,nz⟩),Le.mk (.c2 (.c .nil)) (.c (.c .nil))⟩)))
 refine .seq (.sr (.mv ?_))
 refine .vl (Y.zc U U) (.nil (.aO U ?_))
 refine .sr (.fa dv ?_)
 refine .ld bj ?_
 refine .vl (Y.ql U U) (.an (.nil (.ret ?_)))
 exact .rb rfl (dd iq)
 refine .sr (.vl (Y.ql U U) (.an (.nil ?_)))
 refine .aA U (fun xy=>?_) (fun xy=>?_)
 refine .seq (.dZ U (.blind 0 U au (ax.fieldAddr fc U U) ae ?_))
 refine .blind 3 U au (ax.fieldAddr fc U U) ae ?_
 refine .two 1 4 U U au ?_ ?_
 refine .ld bj ?_
 refine .nil ⟨U,(.two 2 4 U U au ?_ ?_)⟩
 refine .aZ EO (mY (op:=c.op)) U (.aj U U .nil) ae U ?_
 refine .nil ⟨U,(.bP (n:=0) [4,5,6] [] 0 U au (.cn 4 U (Y.za bj U U U U) (.cn 5 U (Y.qf U U) (.cn 6 U (Y.qf U U) (.nil (.done au (.sr (.mv ?_))))))))⟩
 refine .vl (Y.ql U U) (.nil (.aA U (fun Fb=>?_) (fun Fb=>?_)))
 refine .sr (.an (.nil (.ret ?_)))
 exact .rb rfl (df iq)
 refine .skip (.seq (.sr (.fa bU ?_)))
 refine .ld bt ?_
 refine .vl (Y.qx (n:=c.args.length) a7 U fV) (.mv ?_)
 refine .vl (Y.zl U U) (.mv ?_)
 refine .aC (d:=88) U (fun pd=>?_) (fun pd=>?_)
 refine .gz 88 (.gz 88 (.gz 88 (.gz 88 (.pk ?_))))
 refine .mv ?_
 refine .gz 94 (.gz 94 (.gz 94 (.gz 94 (.gz 98 (.gz 98 (.gz 94 (.pk ?_)))))))
 refine .nil (.aO U (.sr (.an (.nil (.ret ?_)))))
 exact .rb rfl (df iq)
 refine .gw 88 (Y.qp fc U U) (.gw 88 (Y.za bj U U U U) (.gw 88 (Y.zh U U) (.gw 88 (Y.zl U U) (.pk ?_))))
 refine .mv ?_
 refine .aC (d:=94) U (fun pY=>?_) (fun pY=>?_)
 refine .gz 94 (.gz 94 (.gz 94 (.gz 94 (.gz 98 (.gz 98 (.gz 94 (.pk ?_)))))))
 refine .nil (.aO U (.sr (.an (.nil (.ret ?_)))))
 exact .rb rfl (df iq)
 refine .gw 94 (Y.qp eB U U) (.gw 94 (Y.za iY U U U U) (.gw 94 (Y.zl U U) (.gw 94 (Y.zh U U) (.aC (d:=98) U (fun nz=>?_) (fun nz=>?_)))))
 refine .gw 98 (Y.zh U U) (.gw 98 (Y.zn U) (.gw 94 (Y.zo U U U) (.pk ?_)))
 refine .nil (.aO U (.sr (.an (.nil (.ret ?_)))))
 exact .rb rfl (df iq)
 refine .gz 98 (.gz 98 (.gw 94 (Y.zo U U U) (.pk ?_)))
 refine .nil (.cZ U (.skip (.seq (.sr (.mv ?_)))))
 refine .vl (Y.zc U U) (.nil (.aO U ?_))
 refine .sr (.fa dv ?_)
 refine .ld bj ?_
 refine .vl (Y.ql U U) (.an (.nil (.ret ?_)))
 exact .rb rfl (dd iq)
 refine .ld bj ?_
 refine .nil ⟨U,(.one 2 U au (.aZ EO (mY (op:=c.op)) U (.aj U U .nil) ae U ?_))⟩
 refine .nil ⟨U,(.bP (n:=0) [5,6] [] 0 U au (.cn 5 U (Y.qf U U) (.cn 6 U (Y.qf U U) (.nil (.done au (.sr (.mv ?_)))))))⟩
 refine .vl (Y.ql U U) (.nil (.aA U (fun Fb=>?_) (fun Fb=>?_)))
 refine .sr (.an (.nil (.ret ?_)))
 exact .rb rfl (df iq)
 refine .skip (.seq (.sr (.fa bU ?_)))
 refine .ld bt ?_
 refine .vl (Y.qx (n:=c.args.length) a7 U fV) (.mv ?_)
 refine .vl (Y.zl U U) (.mv ?_)
 refine .aC (d:=88) U (fun pd=>?_) (fun pd=>?_)
 refine .gz 88 (.gz 88 (.gz 88 (.gz 88 (.pk ?_))))
 refine .mv ?_
 refine .gz 94 (.gz 94 (.gz 94 (.gz 94 (.gz 98 (.gz 98 (.gz 94 (.pk ?_)))))))
 refine .nil (.aO U (.sr (.an (.nil (.ret ?_)))))
 exact .rb rfl (df iq)
 refine .gw 88 (Y.qp fc U U) (.gw 88 (Y.za bj U U U U) (.gw 88 (Y.zh U U) (.gw 88 (Y.zl U U) (.pk ?_))))
 refine .mv ?_
 refine .aC (d:=94) U (fun pY=>?_) (fun pY=>?_)
 refine .gz 94 (.gz 94 (.gz 94 (.gz 94 (.gz 98 (.gz 98 (.gz 94 (.pk ?_)))))))
 refine .nil (.aO U (.sr (.an (.nil (.ret ?_)))))
 exact .rb rfl (df iq)
 refine .gw 94 (Y.qp eB U U) (.gw 94 (Y.za iY U U U U) (.gw 94 (Y.zl U U) (.gw 94 (Y.zh U U) (.aC (d:=98) U (fun nz=>?_) (fun nz=>?_)))))
 refine .gw 98 (Y.zh U U) (.gw 98 (Y.zn U) (.gw 94 (Y.zo U U U) (.pk ?_)))
 refine .nil (.aO U (.sr (.an (.nil (.ret ?_)))))
 exact .rb rfl (df iq)
 refine .gz 98 (.gz 98 (.gw 94 (Y.zo U U U) (.pk ?_)))
 refine .nil (.cZ U (.skip (.seq (.sr (.mv ?_)))))
 refine .vl (Y.zc U U) (.nil (.aO U ?_))
 refine .sr (.fa dv ?_)
 refine .ld bj ?_
 refine .vl (Y.ql U U) (.an (.nil (.ret ?_)))
 exact .rb rfl (dd iq)
 refine .ld bj ?_
 refine .nil ⟨U,(.bP (n:=3) [1] [2,5,6] 2 U au (.cn 1 U (Y.za bj U U U U) (.nil (.one 2 U au (.aZ EO (mY (op:=c.op)) U (.aj U U .nil) ae U ?_)))))⟩
 refine .nil ⟨U,(.bP (n:=0) [5,6] [] 0 U au (.cn 5 U (Y.qf U U) (.cn 6 U (Y.qf U U) (.nil (.done au (.sr (.mv ?_)))))))⟩
 refine .vl (Y.ql U U) (.nil (.aA U (fun Fb=>?_) (fun Fb=>?_)))
 refine .sr (.an (.nil (.ret ?_)))
 exact .rb rfl (df iq)
 refine .skip (.seq (.sr (.fa bU ?_)))
 refine .ld bt ?_
 refine .vl (Y.qx (n:=c.args.length) a7 U fV) (.mv ?_)
 refine .vl (Y.zl U U) (.mv ?_)
 refine .aC (d:=88) U (fun pd=>?_) (fun pd=>?_)
 refine .gz 88 (.gz 88 (.gz 88 (.gz 88 (.pk ?_))))
 refine .mv ?_
 refine .gz 94 (.gz 94 (.gz 94 (.gz 94 (.gz 98 (.gz 98 (.gz 94 (.pk ?_)))))))
 refine .nil (.aO U (.sr (.an (.nil (.ret ?_)))))
 exact .rb rfl (df iq)
 refine .gw 88 (Y.qp fc U U) (.gw 88 (Y.za bj U U U U) (.gw 88 (Y.zh U U) (.gw 88 (Y.zl U U) (.pk ?_))))
 refine .mv ?_
 refine .aC (d:=94) U (fun pY=>?_) (fun pY=>?_)
 refine .gz 94 (.gz 94 (.gz 94 (.gz 94 (.gz 98 (.gz 98 (.gz 94 (.pk ?_)))))))
 refine .nil (.aO U (.sr (.an (.nil (.ret ?_)))))
 exact .rb rfl (df iq)
 refine .gw 94 (Y.qp eB U U) (.gw 94 (Y.za iY U U U U) (.gw 94 (Y.zl U U) (.gw 94 (Y.zh U U) (.aC (d:=98) U (fun nz=>?_) (fun nz=>?_)))))
 refine .gw 98 (Y.zh U U) (.gw 98 (Y.zn U) (.gw 94 (Y.zo U U U) (.pk ?_)))
 refine .nil (.aO U (.sr (.an (.nil (.ret ?_)))))
 exact .rb rfl (df iq)
 refine .gz 98 (.gz 98 (.gw 94 (Y.zo U U U) (.pk ?_)))
 refine .nil (.cZ U (.skip (.seq (.sr (.mv ?_)))))
 refine .vl (Y.zc U U) (.nil (.aO U ?_))
 refine .sr (.fa dv ?_)
 refine .ld bj ?_
 refine .vl (Y.ql U U) (.an (.nil (.ret ?_)))
 exact .rb rfl (dd iq)
 refine .sr (.vl (Y.ql U U) (.an (.nil ?_)))
 refine .aA U (fun pa=>?_) (fun pa=>?_)
 refine .sr (.fa bU ?_)
 refine .ld bt ?_
 refine .vl (Y.qx (n:=c.args.length) a7 U fV) (.an (.nil (.sr ?_)))
 refine .mv ?_
 refine .vl (Y.zc U U) (.mv ?_)
 refine .aC (d:=29) U (fun L2=>?_) (fun L2=>?_)
 refine .gz 29 (.gz 29 (.gz 29 (.pk ?_)))
 refine .nil (.aO U (.sr (.an (.nil (.ret ?_)))))
 exact .rb rfl (df iq)
 refine .gw 29 (Y.zh U U) (.gw 29 (Y.zt U U om) (.gw 29 (Y.ql U U) (.pk ?_)))
 refine .nil (.aA U (fun Da=>?_) (fun Da=>?_))
 refine .sr (.an (.nil (.ret ?_)))
 exact .rb rfl (df iq)
 refine .skip (.seq (.sr (.fa bU ?_)))
 refine .ld bt ?_
 refine .vl (Y.qx (n:=c.args.length) a7 U fV) (.mv ?_)
 refine .vl (Y.zl U U) (.mv ?_)
 refine .aC (d:=88) U (fun pd=>?_) (fun pd=>?_)
 refine .gz 88 (.gz 88 (.gz 88 (.gz 88 (.pk ?_))))
 refine .mv ?_
 refine .gz 94 (.gz 94 (.gz 94 (.gz 94 (.gz 98 (.gz 98 (.gz 94 (.pk ?_)))))))
 refine .nil (.aO U (.sr (.an (.nil (.ret ?_)))))
 exact .rb rfl (df iq)
 refine .gw 88 (Y.qp fc U U) (.gw 88 (Y.za bj U U U U) (.gw 88 (Y.zh U U) (.gw 88 (Y.zl U U) (.pk ?_))))
 refine .mv ?_
 refine .aC (d:=94) U (fun pY=>?_) (fun pY=>?_)
 refine .gz 94 (.gz 94 (.gz 94 (.gz 94 (.gz 98 (.gz 98 (.gz 94 (.pk ?_)))))))
 refine .nil (.aO U (.sr (.an (.nil (.ret ?_)))))
 exact .rb rfl (df iq)
 refine .gw 94 (Y.qp eB U U) (.gw 94 (Y.za iY U U U U) (.gw 94 (Y.zl U U) (.gw 94 (Y.zh U U) (.aC (d:=98) U (fun nz=>?_) (fun nz=>?_)))))
 refine .gw 98 (Y.zh U U) (.gw 98 (Y.zn U) (.gw 94 (Y.zo U U U) (.pk ?_)))
 refine .nil (.aO U (.sr (.an (.nil (.ret ?_)))))
 exact .rb rfl (df iq)
 refine .gz 98 (.gz 98 (.gw 94 (Y.zo U U U) (.pk ?_)))
 refine .nil (.cZ U (.skip (.seq (.sr (.mv ?_)))))
 refine .vl (Y.zc U U) (.nil (.aO U ?_))
 refine .sr (.fa dv ?_)
 refine .ld bj ?_
 refine .vl (Y.ql U U) (.an (.nil (.ret ?_)))
 exact .rb rfl (dd iq)
 refine .sr (.vl (Y.ql U U) (.an (.nil ?_)))
 refine .aA U (fun xz=>?_) (fun xz=>?_)
 refine .region (.an ?_)
 refine .an (.nil ?_)
 refine .ux (⟨[(2,.ptr 102 0 0 0),(3,.ptr 103 0 0 0),(8,vi (-1))],[(102,.cells (ab.row n)),(103,.cells (Cell.row c))]⟩) (((¬ ((c.args.length:Int) ≠ 2)) /\ (¬ (c.op ≠ 0)) /\ ((c.num:Int) ≠ 0)) \/ ((¬ ((c.args.length:Int) ≠ 2)) /\ (¬ (c.op ≠ 0)) /\ (¬ ((c.num:Int) ≠ 0)))) ?_ (fun FO=>?_)
 refine .sr (.fa bU ?_)
 refine .ld bt ?_
 refine .vl (Y.qx (n:=c.args.length) a7 U fV) (.mv ?_)
 refine .vl (Y.zl U U) (.mv ?_)
 refine .aC (d:=88) U (fun pd=>?_) (fun pd=>?_)
 refine .gz 88 (.gz 88 (.gz 88 (.gz 88 (.pk ?_))))
 refine .mv ?_
 refine .gz 94 (.gz 94 (.gz 94 (.gz 94 (.gz 98 (.gz 98 (.gz 94 (.pk ?_)))))))
 refine .nil (.aO U (.sr (.an (.nil (.ret ?_)))))
 exact .rb rfl (df iq)
 refine .gw 88 (Y.qp fc U U) (.gw 88 (Y.za bj U U U U) (.gw 88 (Y.zh U U) (.gw 88 (Y.zl U U) (.pk ?_))))
 refine .mv ?_
 refine .aC (d:=94) U (fun pY=>?_) (fun pY=>?_)
 refine .gz 94 (.gz 94 (.gz 94 (.gz 94 (.gz 98 (.gz 98 (.gz 94 (.pk ?_)))))))
 refine .nil (.aO U (.sr (.an (.nil (.ret ?_)))))
 exact .rb rfl (df iq)
 refine .gw 94 (Y.qp eB U U) (.gw 94 (Y.za iY U U U U) (.gw 94 (Y.zl U U) (.gw 94 (Y.zh U U) (.aC (d:=98) U (fun nz=>?_) (fun nz=>?_)))))
 refine .gw 98 (Y.zh U U) (.gw 98 (Y.zn U) (.gw 94 (Y.zo U U U) (.pk ?_)))
 exact .nil (.cZ U (.skip (⟨.inl ⟨pd,pY,nz⟩,Le.mk (.c2 (.c .nil)) (.c (.c .nil))⟩)))
 refine .gz 98 (.gz 98 (.gw 94 (Y.zo U U U) (.pk ?_)))
 exact .nil (.cZ U (.skip (⟨.inr (⟨pd,pY,nz⟩),Le.mk (.c2 (.c .nil)) (.c (.c .nil))⟩)))
 refine .seq (.sr (.mv ?_))
 refine .vl (Y.zc U U) (.nil (.aO U ?_))
 refine .sr (.fa dv ?_)
 refine .ld bj ?_
 refine .vl (Y.ql U U) (.an (.nil (.ret ?_)))
 exact .rb rfl (dd iq)
 refine .sr (.vl (Y.ql U U) (.an (.nil ?_)))
 refine .aA U (fun R9=>?_) (fun R9=>?_)
 refine .seq (.gy U au (.val (Y.qp fc U U) ae (.val (Y.za bj U U U U) ae (.val (Y.qf U U) ae (.val (Y.qf U U) ae (.val (Y.qf U U) ae (.nil (.sr (.fa fc ?_)))))))))
 refine .ld bj ?_
 refine .vl (Y.zc U U) (.mv ?_)
 refine .aC (d:=43) U (fun T5=>?_) (fun T5=>?_)
 refine .gz 43 (.gz 43 (.gz 43 (.pk ?_)))
 refine .mv ?_
 refine .gz 48 (.gz 48 (.gz 48 (.pk ?_)))
 refine .mv ?_
 refine .gz 53 (.gz 53 (.gz 53 (.pk ?_)))
 refine .nil (.aO U (.sr (.an (.nil (.ret ?_)))))
 exact .rb rfl (df iq)
 refine .gw 43 (Y.qp fc U U) (.gw 43 (Y.za bj U U U U) (.gw 43 (Y.qr U U) (.pk ?_)))
 refine .mv ?_
 refine .aC (d:=48) U (fun Aw=>?_) (fun Aw=>?_)
 refine .gz 48 (.gz 48 (.gz 48 (.pk ?_)))
 refine .mv ?_
 refine .gz 53 (.gz 53 (.gz 53 (.pk ?_)))
 refine .nil (.aO U (.sr (.an (.nil (.ret ?_)))))
 exact .rb rfl (df iq)
 refine .gw 48 (Y.qp eB U U) (.gw 48 (Y.za iY U U U U) (.gw 48 (Y.zc U U) (.pk ?_)))
 refine .mv ?_
 refine .aC (d:=53) U (fun P9=>?_) (fun P9=>?_)
 refine .gz 53 (.gz 53 (.gz 53 (.pk ?_)))
 refine .nil (.aO U (.sr (.an (.nil (.ret ?_)))))
 exact .rb rfl (df iq)
 refine .gw 53 (Y.qp eB U U) (.gw 53 (Y.za iY U U U U) (.gw 53 (Y.qr U U) (.pk ?_)))
 refine .nil (.aA U (fun DG=>?_) (fun DG=>?_))
 refine .sr (.an (.nil (.ret ?_)))
 exact .rb rfl (df iq)
 refine .skip (.ux (⟨[(2,.ptr 102 0 0 0),(3,.ptr 103 0 0 0),(8,vi (-1))],[(102,.cells (ab.row n)),(103,.cells (Cell.row c))]⟩) (((¬ ((c.args.length:Int) ≠ 2)) /\ (¬ (c.op ≠ c.op)) /\ ((c.num:Int) ≠ 0)) \/ ((¬ ((c.args.length:Int) ≠ 2)) /\ (¬ (c.op ≠ c.op)) /\ (¬ ((c.num:Int) ≠ 0)))) ?_ (fun FO=>?_))
 refine .sr (.fa bU ?_)
 refine .ld bt ?_
 refine .vl (Y.qx (n:=c.args.length) a7 U fV) (.mv ?_)
 refine .vl (Y.zl U U) (.mv ?_)
 refine .aC (d:=88) U (fun pd=>?_) (fun pd=>?_)
 refine .gz 88 (.gz 88 (.gz 88 (.gz 88 (.pk ?_))))
 refine .mv ?_
 refine .gz 94 (.gz 94 (.gz 94 (.gz 94 (.gz 98 (.gz 98 (.gz 94 (.pk ?_)))))))
 refine .nil (.aO U (.sr (.an (.nil (.ret ?_)))))
 exact .rb rfl (df iq)
 refine .gw 88 (Y.qp fc U U) (.gw 88 (Y.za bj U U U U) (.gw 88 (Y.zh U U) (.gw 88 (Y.zl U U) (.pk ?_))))
 refine .mv ?_
 refine .aC (d:=94) U (fun pY=>?_) (fun pY=>?_)
 refine .gz 94 (.gz 94 (.gz 94 (.gz 94 (.gz 98 (.gz 98 (.gz 94 (.pk ?_)))))))
 refine .nil (.aO U (.sr (.an (.nil (.ret ?_)))))
 exact .rb rfl (df iq)
 refine .gw 94 (Y.qp eB U U) (.gw 94 (Y.za iY U U U U) (.gw 94 (Y.zl U U) (.gw 94 (Y.zh U U) (.aC (d:=98) U (fun nz=>?_) (fun nz=>?_)))))
 refine .gw 98 (Y.zh U U) (.gw 98 (Y.zn U) (.gw 94 (Y.zo U U U) (.pk ?_)))
 exact .nil (.cZ U (.skip (⟨.inl ⟨pd,pY,nz⟩,Le.mk (.c2 (.c .nil)) (.c (.c .nil))⟩)))
 refine .gz 98 (.gz 98 (.gw 94 (Y.zo U U U) (.pk ?_)))
 exact .nil (.cZ U (.skip (⟨.inr (⟨pd,pY,nz⟩),Le.mk (.c2 (.c .nil)) (.c (.c .nil))⟩)))
 refine .seq (.sr (.mv ?_))
 refine .vl (Y.zc U U) (.nil (.aO U ?_))
 refine .sr (.fa dv ?_)
 refine .ld bj ?_
 refine .vl (Y.ql U U) (.an (.nil (.ret ?_)))
 exact .rb rfl (dd iq)
 refine .sr (.vl (Y.ql U U) (.an (.nil ?_)))
 refine .aA U (fun RC=>?_) (fun RC=>?_)
 refine .gy U au (.val (Y.qp gZ U U) ae (.val (Y.za pW U U U U) ae (.val (Y.qx (n:=n.aD.length) mV U fV) ae (.val (Y.qf U U) ae (.val (Y.qf U U) ae (.nil (.seq (.sr (.fa bU ?_)))))))))
 refine .ld bt ?_
 refine .vl (Y.qx (n:=c.args.length) a7 U fV) (.mv ?_)
 refine .vl (Y.zl U U) (.mv ?_)
 refine .aC (d:=88) U (fun pd=>?_) (fun pd=>?_)
 refine .gz 88 (.gz 88 (.gz 88 (.gz 88 (.pk ?_))))
 refine .mv ?_
 refine .gz 94 (.gz 94 (.gz 94 (.gz 94 (.gz 98 (.gz 98 (.gz 94 (.pk ?_)))))))
 refine .nil (.aO U (.sr (.an (.nil (.ret ?_)))))
 exact .rb rfl (df iq)
 refine .gw 88 (Y.qp fc U U) (.gw 88 (Y.za bj U U U U) (.gw 88 (Y.zh U U) (.gw 88 (Y.zl U U) (.pk ?_))))
 refine .mv ?_
 refine .aC (d:=94) U (fun pY=>?_) (fun pY=>?_)
 refine .gz 94 (.gz 94 (.gz 94 (.gz 94 (.gz 98 (.gz 98 (.gz 94 (.pk ?_)))))))
 refine .nil (.aO U (.sr (.an (.nil (.ret ?_)))))
 exact .rb rfl (df iq)
 refine .gw 94 (Y.qp eB U U) (.gw 94 (Y.za iY U U U U) (.gw 94 (Y.zl U U) (.gw 94 (Y.zh U U) (.aC (d:=98) U (fun nz=>?_) (fun nz=>?_)))))
 refine .gw 98 (Y.zh U U) (.gw 98 (Y.zn U) (.gw 94 (Y.zo U U U) (.pk ?_)))
 refine .nil (.aO U (.sr (.an (.nil (.ret ?_)))))
 exact .rb rfl (df iq)
 refine .gz 98 (.gz 98 (.gw 94 (Y.zo U U U) (.pk ?_)))
 refine .nil (.cZ U (.skip (.seq (.sr (.mv ?_)))))
 refine .vl (Y.zc U U) (.nil (.aA U (fun pe=>?_) (fun pe=>?_)))
 refine .sr (.fa dv ?_)
 refine .ld bj ?_
 refine .vl (Y.ql U U) (.an (.nil (.ret ?_)))
 exact .rb rfl (dd iq)
 refine .skip (.sr (.fa dv ?_))
 refine .ld bj ?_
 refine .vl (Y.qq U U) (.mv ?_)
 refine .aC (d:=111) U (fun xf=>?_) (fun xf=>?_)
 refine .gw 111 (Y.qp dv U U) (.gw 111 (Y.za bj U U U U) (.gw 111 (Y.zh U U) (.gw 111 (Y.zc U U) (.pk ?_))))
 refine .mv ?_
 refine .aC (d:=117) U (fun n5=>?_) (fun n5=>?_)
 refine .gw 117 (Y.qp dC U U) (.gw 117 (Y.za bj U U U U) (.gw 117 (Y.zl U U) (.gw 117 (Y.zh U U) (.aC (d:=121) U (fun Ax=>?_) (fun Ax=>?_)))))
 refine .gz 121 (.gz 121 (.gz 121 (.gz 121 (.gz 121 (.gz 121 (.gz 121 (.gz 121 (.gw 117 (Y.zo U U U) (.pk ?_)))))))))
 refine .an (.nil (.ret ?_))
 exact .rb rfl (dt iq)
 refine .gw 121 (Y.qp eS U U) (.gw 121 (Y.za lT U U U U) (.gw 121 (Y.qp dv U U) (.gw 121 (Y.za bj U U U U) (.gw 121 (Y.qs (m:=(c.mem).toNat) jH U U om (ao (d:=default) om)) (.gw 121 (Y.qp k9 U U) (.gw 121 (Y.za Af U U U U) (.gw 121 (Y.zn U) (.gw 117 (Y.zo U U U) (.pk ?_)))))))))
 refine .an (.nil (.ret ?_))
 exact .rb rfl (db iq)
 refine .gz 117 (.gz 117 (.gz 117 (.gz 117 (.gz 121 (.gz 121 (.gz 121 (.gz 121 (.gz 121 (.gz 121 (.gz 121 (.gz 121 (.gz 117 (.pk ?_)))))))))))))
 refine .an (.nil (.ret ?_))
 exact .rb rfl (df iq)
 refine .gz 111 (.gz 111 (.gz 111 (.gz 111 (.pk ?_))))
 refine .mv ?_
 refine .gz 117 (.gz 117 (.gz 117 (.gz 117 (.gz 121 (.gz 121 (.gz 121 (.gz 121 (.gz 121 (.gz 121 (.gz 121 (.gz 121 (.gz 117 (.pk ?_)))))))))))))
 refine .an (.nil (.ret ?_))
 exact .rb rfl (df iq)
 refine .sr (.vl (Y.ql U U) (.an (.nil ?_)))
 refine .aA U (fun sq=>?_) (fun sq=>?_)
 refine .gy U au (.val (Y.qp gZ U U) ae (.val (Y.za pW U U U U) ae (.val (Y.qx (n:=n.aD.length) mV U fV) ae (.val (Y.qf U U) ae (.val (Y.qf U U) ae (.nil (.seq (.sr (.fa bU ?_)))))))))
 refine .ld bt ?_
 refine .vl (Y.qx (n:=c.args.length) a7 U fV) (.mv ?_)
 refine .vl (Y.zl U U) (.mv ?_)
 refine .aC (d:=88) U (fun pd=>?_) (fun pd=>?_)
 refine .gz 88 (.gz 88 (.gz 88 (.gz 88 (.pk ?_))))
 refine .mv ?_
 refine .gz 94 (.gz 94 (.gz 94 (.gz 94 (.gz 98 (.gz 98 (.gz 94 (.pk ?_)))))))
 refine .nil (.aO U (.sr (.an (.nil (.ret ?_)))))
 exact .rb rfl (df iq)
 refine .gw 88 (Y.qp fc U U) (.gw 88 (Y.za bj U U U U) (.gw 88 (Y.zh U U) (.gw 88 (Y.zl U U) (.pk ?_))))
 refine .mv ?_
 refine .aC (d:=94) U (fun pY=>?_) (fun pY=>?_)
 refine .gz 94 (.gz 94 (.gz 94 (.gz 94 (.gz 98 (.gz 98 (.gz 94 (.pk ?_)))))))
 refine .nil (.aO U (.sr (.an (.nil (.ret ?_)))))
 exact .rb rfl (df iq)
 refine .gw 94 (Y.qp eB U U) (.gw 94 (Y.za iY U U U U) (.gw 94 (Y.zl U U) (.gw 94 (Y.zh U U) (.aC (d:=98) U (fun nz=>?_) (fun nz=>?_)))))
 refine .gw 98 (Y.zh U U) (.gw 98 (Y.zn U) (.gw 94 (Y.zo U U U) (.pk ?_)))
 refine .nil (.aO U (.sr (.an (.nil (.ret ?_)))))
 exact .rb rfl (df iq)
 refine .gz 98 (.gz 98 (.gw 94 (Y.zo U U U) (.pk ?_)))
 refine .nil (.cZ U (.skip (.seq (.sr (.mv ?_)))))
 refine .vl (Y.zc U U) (.nil (.aA U (fun pe=>?_) (fun pe=>?_)))
 refine .sr (.fa dv ?_)
 refine .ld bj ?_
 refine .vl (Y.ql U U) (.an (.nil (.ret ?_)))
 exact .rb rfl (dd iq)
 refine .skip (.sr (.fa dv ?_))
 refine .ld bj ?_
 refine .vl (Y.qq U U) (.mv ?_)
 refine .aC (d:=111) U (fun xf=>?_) (fun xf=>?_)
 refine .gw 111 (Y.qp dv U U) (.gw 111 (Y.za bj U U U U) (.gw 111 (Y.zh U U) (.gw 111 (Y.zc U U) (.pk ?_))))
 refine .mv ?_
 refine .aC (d:=117) U (fun n5=>?_) (fun n5=>?_)
 refine .gw 117 (Y.qp dC U U) (.gw 117 (Y.za bj U U U U) (.gw 117 (Y.zl U U) (.gw 117 (Y.zh U U) (.aC (d:=121) U (fun Ax=>?_) (fun Ax=>?_)))))
 refine .gz 121 (.gz 121 (.gz 121 (.gz 121 (.gz 121 (.gz 121 (.gz 121 (.gz 121 (.gw 117 (Y.zo U U U) (.pk ?_)))))))))
 refine .an (.nil (.ret ?_))
 exact .rb rfl (dt iq)
 refine .gw 121 (Y.qp eS U U) (.gw 121 (Y.za lT U U U U) (.gw 121 (Y.qp dv U U) (.gw 121 (Y.za bj U U U U) (.gw 121 (Y.qs (m:=(c.mem).toNat) jH U U om (ao (d:=default) om)) (.gw 121 (Y.qp k9 U U) (.gw 121 (Y.za Af U U U U) (.gw 121 (Y.zn U) (.gw 117 (Y.zo U U U) (.pk ?_)))))))))
 refine .an (.nil (.ret ?_))
 exact .rb rfl (db iq)
 refine .gz 117 (.gz 117 (.gz 117 (.gz 117 (.gz 121 (.gz 121 (.gz 121 (.gz 121 (.gz 121 (.gz 121 (.gz 121 (.gz 121 (.gz 117 (.pk ?_)))))))))))))
 refine .an (.nil (.ret ?_))
 exact .rb rfl (df iq)
 refine .gz 111 (.gz 111 (.gz 111 (.gz 111 (.pk ?_))))
 refine .mv ?_
 refine .gz 117 (.gz 117 (.gz 117 (.gz 117 (.gz 121 (.gz 121 (.gz 121 (.gz 121 (.gz 121 (.gz 121 (.gz 121 (.gz 121 (.gz 117 (.pk ?_)))))))))))))
 refine .an (.nil (.ret ?_))
 exact .rb rfl (df iq)
 refine .sr (.vl (Y.ql U U) (.an (.nil ?_)))
 refine .aA U (fun DH=>?_) (fun DH=>?_)
 refine .sr (.an (.nil (.sr ?_)))
 refine .fa eB ?_
 refine .ld iY ?_
 refine .fa lb ?_
 refine .ld bt ?_
 refine .vl (Y.qx (n:=n.ins.length) a7 U fV) (.vl (Y.qk sD yb U (by first | rfl | exact IntWalk.u64_in _ om)) (.vl (Y.qq U U) (.nil (.aA U (fun IG=>?_) (fun IG=>?_)))))
 refine .sr (.an (.nil (.ret ?_)))
 exact .rb rfl (df iq)
 refine .skip (.ux (⟨[(2,.ptr 102 0 0 0),(3,.ptr 103 0 0 0),(8,vi (-1))],[(102,.cells (ab.row n)),(103,.cells (Cell.row c))]⟩) (((¬ ((c.args.length:Int) ≠ 0)) /\ (¬ (c.op ≠ 0)) /\ ((c.num:Int) ≠ 0)) \/ ((¬ ((c.args.length:Int) ≠ 0)) /\ (¬ (c.op ≠ 0)) /\ (¬ ((c.num:Int) ≠ 0)))) ?_ (fun FO=>?_))
 refine .sr (.fa bU ?_)
 refine .ld bt ?_
 refine .vl (Y.qx (n:=c.args.length) a7 U fV) (.mv ?_)
 refine .vl (Y.zl U U) (.mv ?_)
 refine .aC (d:=88) U (fun pd=>?_) (fun pd=>?_)
 refine .gz 88 (.gz 88 (.gz 88 (.gz 88 (.pk ?_))))
 refine .mv ?_
 refine .gz 94 (.gz 94 (.gz 94 (.gz 94 (.gz 98 (.gz 98 (.gz 94 (.pk ?_)))))))
 refine .nil (.aO U (.sr (.an (.nil (.ret ?_)))))
 exact .rb rfl (df iq)
 refine .gw 88 (Y.qp fc U U) (.gw 88 (Y.za bj U U U U) (.gw 88 (Y.zh U U) (.gw 88 (Y.zl U U) (.pk ?_))))
 refine .mv ?_
 refine .aC (d:=94) U (fun pY=>?_) (fun pY=>?_)
 refine .gz 94 (.gz 94 (.gz 94 (.gz 94 (.gz 98 (.gz 98 (.gz 94 (.pk ?_)))))))
 refine .nil (.aO U (.sr (.an (.nil (.ret ?_)))))
 exact .rb rfl (df iq)
 refine .gw 94 (Y.qp eB U U) (.gw 94 (Y.za iY U U U U) (.gw 94 (Y.zl U U) (.gw 94 (Y.zh U U) (.aC (d:=98) U (fun nz=>?_) (fun nz=>?_)))))
 refine .gw 98 (Y.zh U U) (.gw 98 (Y.zn U) (.gw 94 (Y.zo U U U) (.pk ?_)))
 exact .nil (.cZ U (.skip (⟨.inl ⟨pd,pY,nz⟩,Le.mk (.c2 (.c .nil)) (.c (.c .nil))⟩)))
 refine .gz 98 (.gz 98 (.gw 94 (Y.zo U U U) (.pk ?_)))
 exact .nil (.cZ U (.skip (⟨.inr (⟨pd,pY,nz⟩),Le.mk (.c2 (.c .nil)) (.c (.c .nil))⟩)))
 refine .seq (.sr (.mv ?_))
 refine .vl (Y.zc U U) (.nil (.aO U ?_))
 refine .sr (.fa dv ?_)
 refine .ld bj ?_
 refine .vl (Y.ql U U) (.an (.nil (.ret ?_)))
 exact .rb rfl (dd iq)
 refine .seq (.sr (.vl (Y.ql U U) (.an (.nil ?_))))
 refine .bm U (fun Ay=>?_) (fun Ay=>?_)
 refine .skip (.aO U (.region (.fa eS ?_)))
 refine .ld lT ?_
 refine .vl (Y.qx (n:=n.streams.length) jH U fV) (.an ?_)
 refine .nil (.seq (.sr (.fa bU ?_)))
 refine .ld bt ?_
 refine .vl (Y.qx (n:=c.args.length) a7 U fV) (.mv ?_)
 refine .vl (Y.zl U U) (.mv ?_)
 refine .aC (d:=88) U (fun pd=>?_) (fun pd=>?_)
 refine .gz 88 (.gz 88 (.gz 88 (.gz 88 (.pk ?_))))
 refine .mv ?_
 refine .gz 94 (.gz 94 (.gz 94 (.gz 94 (.gz 98 (.gz 98 (.gz 94 (.pk ?_)))))))
 refine .nil (.aO U (.sr (.an (.nil (.ret ?_)))))
 exact .rb rfl (df iq)
 refine .gw 88 (Y.qp fc U U) (.gw 88 (Y.za bj U U U U) (.gw 88 (Y.zh U U) (.gw 88 (Y.zl U U) (.pk ?_))))
 refine .mv ?_
 refine .aC (d:=94) U (fun pY=>?_) (fun pY=>?_)
 refine .gz 94 (.gz 94 (.gz 94 (.gz 94 (.gz 98 (.gz 98 (.gz 94 (.pk ?_)))))))
 refine .nil (.aO U (.sr (.an (.nil (.ret ?_)))))
 exact .rb rfl (df iq)
 refine .gw 94 (Y.qp eB U U) (.gw 94 (Y.za iY U U U U) (.gw 94 (Y.zl U U) (.gw 94 (Y.zh U U) (.aC (d:=98) U (fun nz=>?_) (fun nz=>?_)))))
 refine .gw 98 (Y.zh U U) (.gw 98 (Y.zn U) (.gw 94 (Y.zo U U U) (.pk ?_)))
 refine .nil (.aO U (.sr (.an (.nil (.ret ?_)))))
 exact .rb rfl (df iq)
 refine .gz 98 (.gz 98 (.gw 94 (Y.zo U U U) (.pk ?_)))
 refine .nil (.cZ U (.skip (.seq (.sr (.mv ?_)))))
 refine .vl (Y.zc U U) (.nil (.aA U (fun pe=>?_) (fun pe=>?_)))
 refine .sr (.fa dv ?_)
 refine .ld bj ?_
 refine .vl (Y.ql U U) (.an (.nil (.ret ?_)))
 exact .rb rfl (dd iq)
 refine .skip (.sr (.fa dv ?_))
 refine .ld bj ?_
 refine .vl (Y.qq U U) (.mv ?_)
 refine .aC (d:=111) U (fun xf=>?_) (fun xf=>?_)
 refine .gw 111 (Y.qp dv U U) (.gw 111 (Y.za bj U U U U) (.gw 111 (Y.zh U U) (.gw 111 (Y.zc U U) (.pk ?_))))
 refine .mv ?_
 refine .aC (d:=117) U (fun n5=>?_) (fun n5=>?_)
 refine .gw 117 (Y.qp dC U U) (.gw 117 (Y.za bj U U U U) (.gw 117 (Y.zl U U) (.gw 117 (Y.zh U U) (.aC (d:=121) U (fun Ax=>?_) (fun Ax=>?_)))))
 refine .gz 121 (.gz 121 (.gz 121 (.gz 121 (.gz 121 (.gz 121 (.gz 121 (.gz 121 (.gw 117 (Y.zo U U U) (.pk ?_)))))))))
 refine .an (.nil (.ret ?_))
 exact .rb rfl (dt iq)
 refine .gw 121 (Y.qp eS U U) (.gw 121 (Y.za lT U U U U) (.gw 121 (Y.qp dv U U) (.gw 121 (Y.za bj U U U U) (.gw 121 (Y.qs (m:=(c.mem).toNat) jH U U om (ao (d:=default) om)) (.gw 121 (Y.qp k9 U U) (.gw 121 (Y.za Af U U U U) (.gw 121 (Y.zn U) (.gw 117 (Y.zo U U U) (.pk ?_)))))))))
 refine .an (.nil (.ret ?_))
 exact .rb rfl (db iq)
 refine .gz 117 (.gz 117 (.gz 117 (.gz 117 (.gz 121 (.gz 121 (.gz 121 (.gz 121 (.gz 121 (.gz 121 (.gz 121 (.gz 121 (.gz 117 (.pk ?_)))))))))))))
 refine .an (.nil (.ret ?_))
 exact .rb rfl (df iq)
 refine .gz 111 (.gz 111 (.gz 111 (.gz 111 (.pk ?_))))
 refine .mv ?_
 refine .gz 117 (.gz 117 (.gz 117 (.gz 117 (.gz 121 (.gz 121 (.gz 121 (.gz 121 (.gz 121 (.gz 121 (.gz 121 (.gz 121 (.gz 117 (.pk ?_)))))))))))))
 refine .an (.nil (.ret ?_))
 exact .rb rfl (df iq)
 refine .region (.vl (Y.ql U U) (.an (.nil ?_)))
 refine .bm U (fun Ay=>?_) (fun Ay=>?_)
 refine .region (.fa eS ?_)
 refine .ld lT ?_
 refine .vl (Y.qx (n:=n.streams.length) jH U fV) (.an ?_)
 refine .nil (.seq (.sr (.fa bU ?_)))
 refine .ld bt ?_
 refine .vl (Y.qx (n:=c.args.length) a7 U fV) (.mv ?_)
 refine .vl (Y.zl U U) (.mv ?_)
 refine .aC (d:=88) U (fun pd=>?_) (fun pd=>?_)
 refine .gz 88 (.gz 88 (.gz 88 (.gz 88 (.pk ?_))))
 refine .mv ?_
 refine .gz 94 (.gz 94 (.gz 94 (.gz 94 (.gz 98 (.gz 98 (.gz 94 (.pk ?_)))))))
 refine .nil (.aO U (.sr (.an (.nil (.ret ?_)))))
 exact .rb rfl (df iq)
 refine .gw 88 (Y.qp fc U U) (.gw 88 (Y.za bj U U U U) (.gw 88 (Y.zh U U) (.gw 88 (Y.zl U U) (.pk ?_))))
 refine .mv ?_
 refine .aC (d:=94) U (fun pY=>?_) (fun pY=>?_)
 refine .gz 94 (.gz 94 (.gz 94 (.gz 94 (.gz 98 (.gz 98 (.gz 94 (.pk ?_)))))))
 refine .nil (.aO U (.sr (.an (.nil (.ret ?_)))))
 exact .rb rfl (df iq)
 refine .gw 94 (Y.qp eB U U) (.gw 94 (Y.za iY U U U U) (.gw 94 (Y.zl U U) (.gw 94 (Y.zh U U) (.aC (d:=98) U (fun nz=>?_) (fun nz=>?_)))))
 refine .gw 98 (Y.zh U U) (.gw 98 (Y.zn U) (.gw 94 (Y.zo U U U) (.pk ?_)))
 refine .nil (.aO U (.sr (.an (.nil (.ret ?_)))))
 exact .rb rfl (df iq)
 refine .gz 98 (.gz 98 (.gw 94 (Y.zo U U U) (.pk ?_)))
 refine .nil (.cZ U (.skip (.seq (.sr (.mv ?_)))))
 refine .vl (Y.zc U U) (.nil (.aA U (fun pe=>?_) (fun pe=>?_)))
 refine .sr (.fa dv ?_)
 refine .ld bj ?_
 refine .vl (Y.ql U U) (.an (.nil (.ret ?_)))
 exact .rb rfl (dd iq)
 refine .skip (.sr (.fa dv ?_))
 refine .ld bj ?_
 refine .vl (Y.qq U U) (.mv ?_)
 refine .aC (d:=111) U (fun xf=>?_) (fun xf=>?_)
 refine .gw 111 (Y.qp dv U U) (.gw 111 (Y.za bj U U U U) (.gw 111 (Y.zh U U) (.gw 111 (Y.zc U U) (.pk ?_))))
 refine .mv ?_
 refine .aC (d:=117) U (fun n5=>?_) (fun n5=>?_)
 refine .gw 117 (Y.qp dC U U) (.gw 117 (Y.za bj U U U U) (.gw 117 (Y.zl U U) (.gw 117 (Y.zh U U) (.aC (d:=121) U (fun Ax=>?_) (fun Ax=>?_)))))
 refine .gz 121 (.gz 121 (.gz 121 (.gz 121 (.gz 121 (.gz 121 (.gz 121 (.gz 121 (.gw 117 (Y.zo U U U) (.pk ?_)))))))))
 refine .an (.nil (.ret ?_))
 exact .rb rfl (dt iq)
 refine .gw 121 (Y.qp eS U U) (.gw 121 (Y.za lT U U U U) (.gw 121 (Y.qp dv U U) (.gw 121 (Y.za bj U U U U) (.gw 121 (Y.qs (m:=(c.mem).toNat) jH U U om (ao (d:=default) om)) (.gw 121 (Y.qp k9 U U) (.gw 121 (Y.za Af U U U U) (.gw 121 (Y.zn U) (.gw 117 (Y.zo U U U) (.pk ?_)))))))))
 refine .an (.nil (.ret ?_))
 exact .rb rfl (db iq)
 refine .gz 117 (.gz 117 (.gz 117 (.gz 117 (.gz 121 (.gz 121 (.gz 121 (.gz 121 (.gz 121 (.gz 121 (.gz 121 (.gz 121 (.gz 117 (.pk ?_)))))))))))))
 refine .an (.nil (.ret ?_))
 exact .rb rfl (df iq)
 refine .gz 111 (.gz 111 (.gz 111 (.gz 111 (.pk ?_))))
 refine .mv ?_
 refine .gz 117 (.gz 117 (.gz 117 (.gz 117 (.gz 121 (.gz 121 (.gz 121 (.gz 121 (.gz 121 (.gz 121 (.gz 121 (.gz 121 (.gz 117 (.pk ?_)))))))))))))
 refine .an (.nil (.ret ?_))
 exact .rb rfl (df iq)
 refine .sr (.an (.nil (.ret ?_)))
 exact .rb rfl (df (by (simp only [Shaped,JX,xy,pa,xz,R9,RC,sq,DH,Ay,Ay,Int.reduceEq,Bool.not_eq_true,false_and,true_and,and_true,and_false,or_false,false_or,ne_eq]) <;> (first | omega | grind)))
open Go Go.AW Go.Proofs
theorem rZ{l:List Int}{p:Int -> Bool}{g:Nat}{row:List X}(hl:l.length <= 17592186043904)(kW:aT Try.prog g = true)(hg:∀ z ∈ l,aw Try.prog g [vi z,.fp row 0] [] [] (fun r o=>r = .v (.bool (p z)) /\ o = [])):aw Try.prog 185 [.fz 1 (l.map ah),.j7 (.func g) [] [.fp row 0]] [] [] (fun r o=>r = (vi (wQ p l)) /\ o = []):=by
 refine aw.of Try.func185 U U U (n:=19) ae (aH U) (.sr (.an ?_))
 refine .nil (.seq (.sr (.mv ?_)))
 refine .vl (Y.qx (n:=l.length) a7 U fV) (.mv ?_)
 refine .nil (.block (.jt (fun (jJ:Nat)=>⟨[(0,.fz 1 (l.map ah)),(1,.j7 (.func g) [] [.fp row 0]),(7,vi l.length),(8,vi jJ)],[]⟩) (fun jJ=>((jJ:Int) <= (l.length:Int)) /\ (∀ j,j < jJ -> p (l.getD j 0) = false)) (fun jJ=>((l.length:Int) - (jJ:Int)).toNat) 0 (⟨om,fun j hj=>by omega⟩) (Le.mk (.c2 (.c (.cons (ak U bc) .nil))) .nil) (fun jJ CB=>?_)))
 obtain ⟨DX,h0⟩:=CB
 refine .sr (.vl (Y.zc U U) (.nil (.seq (.aA U (fun c9=>?_) (fun c9=>?_)))))
 refine .skip (.seq (.block (.sr (.mv ?_))))
 refine .an (.nil (.sr ?_))
 refine .mv ?_
 refine .mv ?_
 refine .mv ?_
 refine .vl (Y.qs (m:=jJ) a7 U U bc (ao (d:=0) om)) (.ld bj ?_)
 refine .nV U kW (hg _ (iw om)) U (.aj U U (.aj U U .nil)) ae U (.nil (.cond U (fun y6=>?_) (fun y6=>?_)))
 refine .sr (.mv ?_)
 refine .an (.nil (.ret ?_))
 exact .ri rfl (qN h0 om y6)
 refine .skip (.region (.vl (Y.qb U U aG) (.mv ?_)))
 refine .nil (⟨jJ + 1,⟨om,oT h0 y6⟩,om,Le.mk (.c2 (.c (.cons (ak U bc) .nil))) .nil⟩)
 refine .exit (.sr (.an (.nil (.ret ?_))))
 exact .ri rfl (s8 (fun j hj=>h0 j om))
theorem kO{l:List Int}{p:Int -> Bool}{g:Nat}{row:List X}(hl:l.length <= 17592186043904)(kW:aT Try.prog g = true)(hg:∀ z ∈ l,aw Try.prog g [vi z,.fp row 0] [] [] (fun r o=>r = .v (.bool (p z)) /\ o = [])):aw Try.prog 157 [.fz 1 (l.map ah),.j7 (.func g) [] [.fp row 0]] [] [] (fun r o=>r = .v (.bool (l.any p)) /\ o = []):=by
 refine aw.of Try.func157 U U U (n:=9) ae (aH U) (.sr (.an (.nil (.sr ?_))))
 refine .mv ?_
 refine .mv ?_
 refine .aZ O6 (rZ (l:=l) hl kW hg) U (.aj U U (.aj U U .nil)) ae U (.vl (Y.qq U U) (.an (.nil (.ret ?_))))
 exact .rb rfl (u7)
theorem qS{l:List Cell}{p:Cell -> Bool}{g:Nat}{row:List X}(hl:l.length <= 17592186043904)(kW:aT Try.prog g = true)(hg:∀ z ∈ l,aw Try.prog g [.agg (Cell.row z),.fp row 0] [] [] (fun r o=>r = .v (.bool (p z)) /\ o = [])):aw Try.prog 188 [.fz 6 (l.map Cell.row),.j7 (.func g) [] [.fp row 0]] [] [] (fun r o=>r = (vi (wQ p l)) /\ o = []):=by
 refine aw.of Try.func188 U U U (n:=19) ae (aH U) (.sr (.an ?_))
 refine .nil (.seq (.sr (.mv ?_)))
 refine .vl (Y.qx (n:=l.length) dV U fV) (.mv ?_)
 refine .nil (.block (.jt (fun (jJ:Nat)=>⟨[(0,.fz 6 (l.map Cell.row)),(1,.j7 (.func g) [] [.fp row 0]),(7,vi l.length),(8,vi jJ)],[]⟩) (fun jJ=>((jJ:Int) <= (l.length:Int)) /\ (∀ j,j < jJ -> p (l.getD j default) = false)) (fun jJ=>((l.length:Int) - (jJ:Int)).toNat) 0 (⟨om,fun j hj=>by omega⟩) (Le.mk (.c2 (.c (.cons (ak U bc) .nil))) .nil) (fun jJ CB=>?_)))
 obtain ⟨DX,h0⟩:=CB
 refine .sr (.vl (Y.zc U U) (.nil (.seq (.aA U (fun c9=>?_) (fun c9=>?_)))))
 refine .skip (.seq (.block (.sr (.mv ?_))))
 refine .an (.nil (.sr ?_))
 refine .mv ?_
 refine .mv ?_
 refine .mv ?_
 refine .vl (Y.qs (m:=jJ) dV U U bc (ao (d:=default) om)) (.vl (Y.zb fA U U (aH U) U U) (.nV U kW (hg _ (iw om)) U (.aj U U (.aj U U .nil)) ae U (.nil (.cond U (fun y6=>?_) (fun y6=>?_)))))
 refine .sr (.mv ?_)
 refine .an (.nil (.ret ?_))
 exact .ri rfl (qN h0 om y6)
 refine .skip (.region (.vl (Y.qb U U aG) (.mv ?_)))
 refine .nil (⟨jJ + 1,⟨om,oT h0 y6⟩,om,Le.mk (.c2 (.c (.cons (ak U bc) .nil))) .nil⟩)
 refine .exit (.sr (.an (.nil (.ret ?_))))
 exact .ri rfl (s8 (fun j hj=>h0 j om))
theorem oE{l:List Cell}{p:Cell -> Bool}{g:Nat}{row:List X}(hl:l.length <= 17592186043904)(kW:aT Try.prog g = true)(hg:∀ z ∈ l,aw Try.prog g [.agg (Cell.row z),.fp row 0] [] [] (fun r o=>r = .v (.bool (p z)) /\ o = [])):aw Try.prog 162 [.fz 6 (l.map Cell.row),.j7 (.func g) [] [.fp row 0]] [] [] (fun r o=>r = .v (.bool (l.any p)) /\ o = []):=by
 refine aw.of Try.func162 U U U (n:=9) ae (aH U) (.sr (.an (.nil (.sr ?_))))
 refine .mv ?_
 refine .mv ?_
 refine .aZ O8 (qS (l:=l) hl kW hg) U (.aj U U (.aj U U .nil)) ae U (.vl (Y.qq U U) (.an (.nil (.ret ?_))))
 exact .rb rfl (u7)
theorem va{l:List Bool}{b:Bool}(hl:l.length <= 140737488351232):aw Try.prog 187 [.fz 1 (l.map jT),.v (.bool b)] [] [] (fun r o=>r = (vi (wQ (fun x=>b == x) l)) /\ o = []):=by
 refine aw.of Try.func187 U U U (n:=19) ae (aH U) (.sr (.an ?_))
 refine .nil (.seq (.sr (.mv ?_)))
 refine .vl (Y.qx (n:=l.length) sE U fV) (.mv ?_)
 refine .nil (.block (.jt (fun (jJ:Nat)=>⟨[(0,.fz 1 (l.map jT)),(1,.v (.bool b)),(7,vi l.length),(8,vi jJ)],[]⟩) (fun jJ=>((jJ:Int) <= (l.length:Int)) /\ (∀ j,j < jJ -> (fun x=>b == x) (l.getD j false) = false)) (fun jJ=>((l.length:Int) - (jJ:Int)).toNat) 0 (⟨om,fun j hj=>by omega⟩) (Le.mk (.c2 (.c (.cons (ak U bc) .nil))) .nil) (fun jJ CB=>?_)))
 obtain ⟨DX,h0⟩:=CB
 refine .sr (.vl (Y.zc U U) (.nil (.seq (.aA U (fun c9=>?_) (fun c9=>?_)))))
 refine .skip (.seq (.block (.sr (.mv ?_))))
 refine .an (.nil (.sr ?_))
 refine .mv ?_
 refine .mv ?_
 refine .mv ?_
 refine .vl (Y.qs (m:=jJ) sE U U bc (ao (d:=false) om)) (.ld Af ?_)
 refine .vl (Y.qm Yz U U) (.nil (.cond U (fun y6=>?_) (fun y6=>?_)))
 refine .sr (.mv ?_)
 refine .an (.nil (.ret ?_))
 exact .ri rfl (qN (d:=false) h0 om y6)
 refine .skip (.region (.vl (Y.qb U U aG) (.mv ?_)))
 refine .nil (⟨jJ + 1,⟨om,oT h0 y6⟩,om,Le.mk (.c2 (.c (.cons (ak U bc) .nil))) .nil⟩)
 refine .exit (.sr (.an (.nil (.ret ?_))))
 exact .ri rfl (s8 (d:=false) (fun j hj=>h0 j om))
theorem sa{l:List Bool}{b:Bool}(hl:l.length <= 140737488351232):aw Try.prog 161 [.fz 1 (l.map jT),.v (.bool b)] [] [] (fun r o=>r = .v (.bool (l.any (fun x=>b == x))) /\ o = []):=by
 refine aw.of Try.func161 U U U (n:=9) ae (aH U) (.sr (.an (.nil (.sr ?_))))
 refine .mv ?_
 refine .mv ?_
 refine .aZ O7 (va (l:=l) (b:=b) (om)) U (.aj U U (.aj U U .nil)) ae U (.vl (Y.qq U U) (.an (.nil (.ret ?_))))
 exact .rb rfl (u7)
open Go Go.AW Go.Proofs
theorem Db{n:Nat}(hn:n <= 35184372088832):aw Try.prog 184 [vn,vi n] [] [] (fun r o=>r = .dH 1 (([]:List Int).map ah) /\ o = []):=by
 refine aw.of Try.func184 U U U (n:=27) ae (aH U) (.sr (.an ?_))
 refine .nil (.seq (.sr (.mv ?_)))
 refine .vl (Y.zc U U) (.nil (.aA U (fun c6=>?_) (fun c6=>?_)))
 exfalso; omega
 refine .skip (.seq (.sr (.mv ?_)))
 refine .mv ?_
 refine .vl (Y.qi a7 U) (.mv ?_)
 refine .vl (Y.qx (n:=0) a7 U U) (.vl (Y.wc U U aG) (.vl (Y.wc U U aG) (.an (.nil (.sr ?_)))))
 refine .mv ?_
 refine .vl (Y.qr U U) (.nil (.aA U (fun y6=>?_) (fun y6=>?_)))
 refine .region (.mv ?_)
 refine .mv ?_
 refine .vl (Y.qi a7 U) (.vl (Y.zz a7 U (.none _) (.some U)) (.mv ?_))
 refine .zR (n:=(((n:Int) - (0 - 0)).toNat)) a7 dD U U sD U (by first | rfl | (rw [show ((n:Int) - (0 - 0):Int) = ((((n:Int) - (0 - 0)).toNat:Nat):Int) by omega]; rfl)) om ae om om ae ?_
 refine .mv ?_
 refine .vl (Y.qx (n:=0) a7 U U) (.sh (Sh.dr (d:=22) (n:=(List.replicate (((n:Int) - (0 - 0)).toNat) 0).length) 122 ((List.replicate (((n:Int) - (0 - 0)).toNat) 0).map ah) U iJ (aU U) ae) (.vl (Y.wa (l:=0) (h:=0) a7 U (.none _) (.some U) om om) (.an (.nil (.sr ?_)))))
 refine .mv ?_
 refine .an ?_
 exact .sh (Sh.Jx (d:=4) (o:=122) (([]:List Int).map ah) U U (by simp) (by simp) ae) (.sh (Sh.dA (d:=4) (o:=122) U U (aU aG) ae) (.nil (.ret ⟨_,_,U,U,(Em (fun (z0:List Int)=>X.dH 1 (z0.map ah)) (U:([]:List Int) = ([]:List Int)):X.dH 1 (([]:List Int).map ah) = X.dH 1 (([]:List Int).map ah)),U⟩)))
 refine .skip (.sr (.mv ?_))
 refine .an ?_
 exact .nil (.sh (Sh.v9 (d:=4) 1 U) (.ret ⟨_,_,U,U,(Em (fun (z0:List Int)=>X.dH 1 (z0.map ah)) (U:([]:List Int) = ([]:List Int)):X.dH 1 (([]:List Int).map ah) = X.dH 1 (([]:List Int).map ah)),U⟩))
theorem y7{ls:List (List Int)}(h1:ls.length <= 1000)(hn:ls.flatten.length <= 17592186044416):aw Try.prog 153 [.fz 1 (ls.map dc)] [] [] (fun r o=>r = .dH 1 (ls.flatten.map ah) /\ o = []):=by
 refine aw.of Try.func153 U U U (n:=36) ae (aH U) (.sr (.an (.nil (.sr ?_))))
 refine .an ?_
 refine .nil (.seq (.sr (.mv ?_)))
 refine .vl (Y.qx (n:=ls.length) dI U fV) (.mv ?_)
 refine .nil (.block (.iD (fun (od:Nat) (eY:Nat)=>⟨[(0,.fz 1 (ls.map dc)),(3,vi od),(9,.fz 1 (ls.map dc)),(10,vi ls.length),(11,vi eY)],[]⟩) (fun od eY=>((eY:Int) <= (ls.length:Int)) /\ (od = (ls.take eY).flatten.length)) (fun od eY=>((ls.length:Int) - (eY:Int)).toNat) 0 0 (⟨om,U⟩) (Le.mk (.c (.cons (ak U bc) (.c2 (.cons (ak U bc) .nil)))) .nil) (fun od eY qR=>?_)))
 obtain ⟨Fc,hs⟩:=qR
 refine .sr (.vl (Y.zc U U) (.nil (.seq (.aA U (fun Ci=>?_) (fun Ci=>?_)))))
 refine .skip (.seq (.block (.sr ?_)))
 have hf:=congrArg List.length (vY (ls:=ls) (i:=eY) om)
 rw [List.length_append] at hf
 have RD:=rD ls (eY + 1)
 have PA:=rD ls eY
 refine .vl (Y.qs (m:=eY) dI U U bc (ao (d:=[]) om)) (.ld bt ?_)
 refine .an (.nil (.sr ?_))
 refine .mv ?_
 refine .mv ?_
 refine .vl (Y.qx (n:=(ls.getD eY []).length) a7 U fV) (.vl (Y.qb U U aG) (.an (.nil (.sr ?_))))
 refine .mv ?_
 refine .vl (Y.zc U U) (.nil (.aA U (fun PC=>?_) (fun PC=>?_)))
 exfalso; omega
 refine .skip (.region (.vl (Y.qb U U aG) (.mv ?_)))
 refine .nil (⟨od + ((ls.getD eY []).length),eY + 1,⟨om,om⟩,om,Le.mk (.c (.cons (ak U bc) (.c2 (.cons (ak U bc) .nil)))) .nil⟩)
 refine .exit (.sr ?_)
 have PA:=rD ls eY
 refine .mv ?_
 refine .aZ O5 (Db (n:=od) (om)) U (.aj U U (.aj U U .nil)) ae U ?_
 refine .bQ U ae (.sh (Sh.dr (d:=6) (n:=([]:List Int).length) 106 (([]:List Int).map ah) U iJ (aU U) ae) (.nil (.seq (.sr (.mv ?_)))))
 refine .vl (Y.qx (n:=ls.length) dI U fV) (.mv ?_)
 refine .nil (.block (.iD (fun (jn:Nat) (dX:List Int)=>⟨[(6,.aL 106 1 0 dX.length),(25,.fz 1 (ls.map dc)),(26,vi ls.length),(27,vi jn)],[(106,.rows 1 (dX.map ah))]⟩) (fun jn dX=>((jn:Int) <= (ls.length:Int)) /\ (dX = (ls.take jn).flatten)) (fun jn dX=>((ls.length:Int) - (jn:Int)).toNat) 0 ([]:List Int) (⟨om,U⟩) (Le.mk (.cons (aN U om) (.c2 (.cons (ak U bc) .nil))) (.c .nil)) (fun jn dX FP=>?_)))
 obtain ⟨YA,ht⟩:=FP
 refine .sr (.vl (Y.zc U U) (.nil (.seq (.aA U (fun PE=>?_) (fun PE=>?_)))))
 refine .skip (.seq (.block (.sr ?_)))
 have hf:=vY (ls:=ls) (i:=jn) om
 have WN:=congrArg List.length hf
 rw [List.length_append] at WN
 have RD:=rD ls (jn + 1)
 have PA:=rD ls jn
 have YB:=congrArg List.length ht
 refine .vl (Y.qs (m:=jn) dI U U bc (ao (d:=[]) om)) (.ld bt ?_)
 refine .an (.nil (.region ?_))
 refine .mv ?_
 refine .mv ?_
 refine .uw ((dX ++ (ls.getD jn [])).map ah) (dX ++ (ls.getD jn [])).length a7 dD U U U U (bg aG) (aR aG) (bz aG) aG aG ae ae ?_
 refine .an (.nil (.region ?_))
 refine .vl (Y.qb U U aG) (.mv ?_)
 refine .nil (⟨jn + 1,dX ++ (ls.getD jn []),⟨om,by rw [ht]; exact hf.symm⟩,om,Le.mk (.cons (aN U om) (.c2 (.cons (ak U bc) .nil))) (.c .nil)⟩)
 refine .exit (.sr (.mv ?_))
 refine .an ?_
 exact .sh (Sh.dA (d:=2) (o:=106) U U (aU om) ae) (.nil (.ret ⟨_,_,U,U,(Em (fun (z0:List Int)=>X.dH 1 (z0.map ah)) (by rw [ht,List.take_of_length_le om]:dX = ls.flatten):X.dH 1 (dX.map ah) = X.dH 1 (ls.flatten.map ah)),U⟩))
open Go Go.AW Go.Proofs
theorem g8{i:Int}{n:ab}:aw Try.prog 156 [vi i,.fp (ab.row n) 0] [] [] (fun r o=>r = .v (.bool (decide (In i n.aa.length))) /\ o = []):=by
 refine aw.of Try.func156 U U U (n:=13) ae (aH U) (.sr (.an (.nil (.sr ?_))))
 refine .mv ?_
 refine .vl (Y.qq U U) (.mv ?_)
 refine .aC (d:=6) U (fun c6=>?_) (fun c6=>?_)
 refine .gw 6 (Y.zh U U) (.gw 6 (Y.qp bO U U) (.gw 6 (Y.za bt U U U U) (.gw 6 (Y.qx (n:=n.aa.length) a7 U fV) (.gw 6 (Y.zc U U) (.pk ?_)))))
 refine .an (.nil (.ret ?_))
 exact .rb rfl (dd (by (simp only [In]) <;> (first | omega | grind)))
 refine .gz 6 (.gz 6 (.gz 6 (.gz 6 (.gz 6 (.pk ?_)))))
 refine .an (.nil (.ret ?_))
 exact .rb rfl (df (by (simp only [In]) <;> (first | omega | grind)))
theorem xg{i:Int}{n:ab}:aw Try.prog 158 [vi i,.fp ([.j7 (.func 156) [] [.fp (ab.row n) 0]]) 0] [] [] (fun r o=>r = .v (.bool (!decide (In i n.aa.length))) /\ o = []):=by
 refine aw.of Try.func158 U U U (n:=8) ae (aH U) (.sr (.an (.nil (.sr ?_))))
 refine .ld Ag ?_
 refine .mv ?_
 refine .nV U uE (g8 (i:=i)) U (.aj U U (.aj U U .nil)) ae U (.vl (Y.zn U) (.an (.nil (.ret ?_))))
 exact .rb rfl (rfl)
theorem xh{i:Int}{n:ab}:aw Try.prog 159 [vi i,.fp ([.j7 (.func 156) [] [.fp (ab.row n) 0]]) 0] [] [] (fun r o=>r = .v (.bool (!decide (In i n.aa.length))) /\ o = []):=by
 refine aw.of Try.func159 U U U (n:=8) ae (aH U) (.sr (.an (.nil (.sr ?_))))
 refine .ld Ag ?_
 refine .mv ?_
 refine .nV U uE (g8 (i:=i)) U (.aj U U (.aj U U .nil)) ae U (.vl (Y.zn U) (.an (.nil (.ret ?_))))
 exact .rb rfl (rfl)
theorem y8{n:ab}(hs:n.Small)(MF:n.aa.length + n.ins.length <= 17592186044416):aw Try.prog 108 [.agg (ab.row n)] [] [] (fun r o=>r = .v (.bool (decide (bh n))) /\ o = []):=by
 refine aw.of Try.func108 U U U (n:=234) ae (aH U) ?_
 have WO:=hs.name; have YC:=hs.aa; have RE:=hs.cells; have R7:=hs.ins; have R8:=hs.aD; have T4:=hs.streams; have YD:=hs.bB; have hs8:=hs.data; have hs9:=hs.cM
 have PF:([n.aa,n.ins]:List (List Int)).flatten = n.aa ++ n.ins:=by simp
 have vx:(([n.aa,n.ins]:List (List Int)).flatten).length = n.aa.length + n.ins.length:=by simp
 refine .sr (.box 101 U U U U U ae ?_)
 refine .an ?_
 refine .nil (.seq (.sr (.fa KS ?_)))
 refine .ld SP ?_
 refine .aZ EL (qQ (s:=n.name) (by first | assumption | omega)) U (.aj U U .nil) ae U (.vl (Y.zn U) (.mv ?_))
 refine .qL (d:=17) U (fun RG=>?_) (fun RG=>?_)
 refine .gz 17 (.gz 17 (.gz 17 (.gz 17 (.pk ?_))))
 refine .mv ?_
 refine .gz 23 (.gz 23 (.gz 23 (.gz 23 (.pk ?_))))
 refine .mv ?_
 refine .gz 29 (.gz 29 (.gz 29 (.gz 29 (.pk ?_))))
 refine .mv ?_
 refine .gz 35 (.gz 35 (.gz 35 (.gz 35 (.pk ?_))))
 refine .mv ?_
 refine .gz 41 (.gz 41 (.gz 41 (.gz 41 (.gz 41 (.gz 41 (.gz 41 (.pk ?_)))))))
 refine .mv ?_
 refine .gz 50 (.gz 50 (.gz 50 (.gz 50 (.gz 50 (.gz 50 (.gz 50 (.pk ?_)))))))
 refine .nil (.aO U (.sr (.an (.nil (.ret ?_)))))
 exact .rb rfl (df (fun h=>by have h1:=h.name; have h2:=h.eK; have h3:=h.ew; have h4:=h.ln; have h5:=h.dh; have h6:=h.fi; have h7:=h.kI; first | omega | contradiction))
 refine .gw 17 (Y.qp bX U U) (.gw 17 (Y.za gk U U U U) (.gw 17 (Y.qx (n:=n.cells.length) dV U fV) (.gw 17 (Y.qr U U) (.pk ?_))))
 refine .mv ?_
 refine .aC (d:=23) U (fun y9=>?_) (fun y9=>?_)
 refine .gz 23 (.gz 23 (.gz 23 (.gz 23 (.pk ?_))))
 refine .mv ?_
 refine .gz 29 (.gz 29 (.gz 29 (.gz 29 (.pk ?_))))
 refine .mv ?_
 refine .gz 35 (.gz 35 (.gz 35 (.gz 35 (.pk ?_))))
 refine .mv ?_
 refine .gz 41 (.gz 41 (.gz 41 (.gz 41 (.gz 41 (.gz 41 (.gz 41 (.pk ?_)))))))
 refine .mv ?_
 refine .gz 50 (.gz 50 (.gz 50 (.gz 50 (.gz 50 (.gz 50 (.gz 50 (.pk ?_)))))))
 refine .nil (.aO U (.sr (.an (.nil (.ret ?_)))))
 exact .rb rfl (df (fun h=>by have h1:=h.name; have h2:=h.eK; have h3:=h.ew; have h4:=h.ln; have h5:=h.dh; have h6:=h.fi; have h7:=h.kI; first | omega | contradiction))
 refine .gw 23 (Y.qp bO U U) (.gw 23 (Y.za bt U U U U) (.gw 23 (Y.qx (n:=n.aa.length) a7 U fV) (.gw 23 (Y.qr U U) (.pk ?_))))
 refine .mv ?_
 refine .aC (d:=29) U (fun L2=>?_) (fun L2=>?_)
 refine .gz 29 (.gz 29 (.gz 29 (.gz 29 (.pk ?_))))
 refine .mv ?_
 refine .gz 35 (.gz 35 (.gz 35 (.gz 35 (.pk ?_))))
 refine .mv ?_
 refine .gz 41 (.gz 41 (.gz 41 (.gz 41 (.gz 41 (.gz 41 (.gz 41 (.pk ?_)))))))
 refine .mv ?_
 refine .gz 50 (.gz 50 (.gz 50 (.gz 50 (.gz 50 (.gz 50 (.gz 50 (.pk ?_)))))))
 refine .nil (.aO U (.sr (.an (.nil (.ret ?_)))))
 exact .rb rfl (df (fun h=>by have h1:=h.name; have h2:=h.eK; have h3:=h.ew; have h4:=h.ln; have h5:=h.dh; have h6:=h.fi; have h7:=h.kI; first | omega | contradiction))
 refine .gw 29 (Y.qp gZ U U) (.gw 29 (Y.za pW U U U U) (.gw 29 (Y.qx (n:=n.aD.length) mV U fV) (.gw 29 (Y.qr U U) (.pk ?_))))
 refine .mv ?_
 refine .aC (d:=35) U (fun vE=>?_) (fun vE=>?_)
 refine .gz 35 (.gz 35 (.gz 35 (.gz 35 (.pk ?_))))
 refine .mv ?_
 refine .gz 41 (.gz 41 (.gz 41 (.gz 41 (.gz 41 (.gz 41 (.gz 41 (.pk ?_)))))))
 refine .mv ?_
 refine .gz 50 (.gz 50 (.gz 50 (.gz 50 (.gz 50 (.gz 50 (.gz 50 (.pk ?_)))))))
 refine .nil (.aO U (.sr (.an (.nil (.ret ?_)))))
 exact .rb rfl (df (fun h=>by have h1:=h.name; have h2:=h.eK; have h3:=h.ew; have h4:=h.ln; have h5:=h.dh; have h6:=h.fi; have h7:=h.kI; first | omega | contradiction))
 refine .gw 35 (Y.qp eS U U) (.gw 35 (Y.za lT U U U U) (.gw 35 (Y.qx (n:=n.streams.length) jH U fV) (.gw 35 (Y.qr U U) (.pk ?_))))
 refine .mv ?_
 refine .aC (d:=41) U (fun Az=>?_) (fun Az=>?_)
 refine .gz 41 (.gz 41 (.gz 41 (.gz 41 (.gz 41 (.gz 41 (.gz 41 (.pk ?_)))))))
 refine .mv ?_
 refine .gz 50 (.gz 50 (.gz 50 (.gz 50 (.gz 50 (.gz 50 (.gz 50 (.pk ?_)))))))
 refine .nil (.aO U (.sr (.an (.nil (.ret ?_)))))
 exact .rb rfl (df (fun h=>by have h1:=h.name; have h2:=h.eK; have h3:=h.ew; have h4:=h.ln; have h5:=h.dh; have h6:=h.fi; have h7:=h.kI; first | omega | contradiction))
 refine .gw 41 (Y.qp oW U U) (.gw 41 (Y.za bt U U U U) (.gw 41 (Y.qx (n:=n.bB.length) a7 U fV) (.gw 41 (Y.qp eS U U) (.gw 41 (Y.za lT U U U U) (.gw 41 (Y.qx (n:=n.streams.length) jH U fV) (.gw 41 (Y.zl U U) (.pk ?_)))))))
 refine .mv ?_
 refine .aC (d:=50) U (fun T6=>?_) (fun T6=>?_)
 refine .gz 50 (.gz 50 (.gz 50 (.gz 50 (.gz 50 (.gz 50 (.gz 50 (.pk ?_)))))))
 refine .nil (.aO U (.sr (.an (.nil (.ret ?_)))))
 exact .rb rfl (df (fun h=>by have h1:=h.name; have h2:=h.eK; have h3:=h.ew; have h4:=h.ln; have h5:=h.dh; have h6:=h.fi; have h7:=h.kI; first | omega | contradiction))
 refine .gw 50 (Y.qp oX U U) (.gw 50 (Y.za bt U U U U) (.gw 50 (Y.qx (n:=n.data.length) a7 U fV) (.gw 50 (Y.qp eS U U) (.gw 50 (Y.za lT U U U U) (.gw 50 (Y.qx (n:=n.streams.length) jH U fV) (.gw 50 (Y.zl U U) (.pk ?_)))))))
 refine .nil (.aA U (fun RC=>?_) (fun RC=>?_))
 refine .sr (.an (.nil (.ret ?_)))
 exact .rb rfl (df (fun h=>by have h1:=h.name; have h2:=h.eK; have h3:=h.ew; have h4:=h.ln; have h5:=h.dh; have h6:=h.fi; have h7:=h.kI; first | omega | contradiction))
 refine .skip (.seq (.sr (.fa bO ?_)))
 refine .ld bt ?_
 refine .fa lb ?_
 refine .ld bt ?_
 refine .buildSlice (([n.aa,n.ins]:List (List Int)).map dc) dI pX U U U U U (aq (s:=1) (f:=dc) (fun _=>U)) U U U ae ?_
 refine .sh (Sh.cG (d:=63) (([n.aa,n.ins]:List (List Int)).map dc) U iJ (cC.map lO)) (.aZ Ow (y7 (ls:=([n.aa,n.ins]:List (List Int))) (by simp) (by simp; omega)) U (.aj U U .nil) ae U (.vl (Y.qx (n:=(([n.aa,n.ins]:List (List Int)).flatten).length) a7 U fV) (.mv ?_)))
 refine .nil (.block (.sh (Sh.cG (d:=64) ((([n.aa,n.ins]:List (List Int)).flatten).map ah) U iJ (cC.map aI)) ?_))
 refine .jt (fun (pf:Nat)=>⟨[(1,.ptr 101 0 0 0),(64,.fz 1 ((([n.aa,n.ins]:List (List Int)).flatten).map ah)),(65,vi (((([n.aa,n.ins]:List (List Int)).flatten).length:Nat):Int)),(66,vi pf)],[(101,.cells (ab.row n))]⟩) (fun pf=>((pf:Int) <= (((([n.aa,n.ins]:List (List Int)).flatten).length:Nat):Int)) /\ (∀ j,j < pf -> dz (([n.aa,n.ins]:List (List Int)).flatten.getD j 0))) (fun pf=>((((([n.aa,n.ins]:List (List Int)).flatten).length:Nat):Int) - (pf:Int)).toNat) 0 (⟨om,fun j hj=>by omega⟩) (Le.mk (.c2 (.c (.cons (ak U bc) .nil))) (.c .nil)) (fun pf AA=>?_)
 obtain ⟨FQ,hw⟩:=AA
 refine .sr (.vl (Y.zc U U) (.nil (.seq (.aA U (fun L3=>?_) (fun L3=>?_)))))
 refine .skip (.seq (.block (.sr (.vl (Y.qs (m:=pf) a7 U U bc (ao (d:=0) om)) (.ld bj ?_)))))
 refine .an (.nil (.sr ?_))
 refine .mv ?_
 refine .aZ EM (sF (w:=((([n.aa,n.ins]:List (List Int)).flatten).getD pf 0))) U (.aj U U .nil) ae U (.vl (Y.zn U) (.nil (.lh U (fun T7=>?_) (fun T7=>?_))))
 refine .sr (.an (.nil (.ret ?_)))
 exact .rb rfl (df (fun h=>by have h1:=h.wide pf (by rw [List.length_append]; omega); rw [<- PF] at h1; contradiction))
 refine .skip (.region (.vl (Y.qb U U om) (.mv ?_)))
 refine .nil (⟨pf + 1,⟨om,gW hw ej⟩,om,Le.mk (.c2 (.c (.cons (ak U bc) .nil))) (.c .nil)⟩)
 refine .exit (.seq (.sr (.fa gZ ?_)))
 refine .ld pW ?_
 refine .vl (Y.qx (n:=n.aD.length) mV U fV) (.mv ?_)
 refine .nil (.block (.jt (fun (gM:Nat)=>⟨[(1,.ptr 101 0 0 0),(75,.fz 5 (n.aD.map eA.row)),(76,vi n.aD.length),(77,vi gM)],[(101,.cells (ab.row n))]⟩) (fun gM=>((gM:Int) <= (n.aD.length:Int)) /\ (∀ j,j < gM -> nv (n.aD.getD j default))) (fun gM=>((n.aD.length:Int) - (gM:Int)).toNat) 0 (⟨om,fun j hj=>by omega⟩) (Le.mk (.c2 (.c (.cons (ak U bc) .nil))) (.c .nil)) (fun gM L4=>?_)))
 obtain ⟨T8,hm⟩:=L4
 refine .sr (.vl (Y.zc U U) (.nil (.seq (.aA U (fun AB=>?_) (fun AB=>?_)))))
 refine .skip (.seq (.block (.sr (.vl (Y.qs (m:=gM) mV U U bc (ao (d:=default) om)) (.vl (Y.zb OF U U (aH U) U U) (.alloc 106 o4 U U ae (.ai OG U U U U U U (aH U) U ?_)))))))
 refine .nil (.sr ?_)
 have hmn:=hs.rB _ (iw (l:=n.aD) (i:=gM) (d:=default) om)
 refine .fa HP ?_
 refine .ld SP ?_
 refine .aZ EL (qQ (s:=((n.aD.getD gM default).name)) (by first | assumption | omega)) U (.aj U U .nil) ae U (.vl (Y.zn U) (.mv ?_))
 refine .qL (d:=85) U (fun YE=>?_) (fun YE=>?_)
 refine .gz 85 (.gz 85 (.gz 85 (.gz 85 (.pk ?_))))
 refine .mv ?_
 refine .gz 91 (.gz 91 (.gz 91 (.pk ?_)))
 refine .mv ?_
 refine .gz 96 (.gz 96 (.gz 96 (.pk ?_)))
 refine .mv ?_
 refine .gz 101 (.gz 101 (.gz 101 (.pk ?_)))
 refine .mv ?_
 refine .gz 106 (.gz 106 (.gz 106 (.pk ?_)))
 refine .nil (.aO U (.sr (.an (.nil (.ret ?_)))))
 exact .rb rfl (df (fun h=>by have h1:=h.aD gM om; unfold nv at h1; obtain ⟨a1,a2,a3,a4,a5,a6⟩:=h1; first | contradiction | omega))
 refine .gw 85 (Y.qp rJ U U) (.gw 85 (Y.za bj U U U U) (.bn (d:=85) U ae U ?_))
 refine .aZ EM (sF (w:=((n.aD.getD gM default).width))) U (.aj U U .nil) ae U (.gw 85 (Y.zn U) (.pk ?_))
 refine .mv ?_
 refine .qL (d:=91) U (fun YF=>?_) (fun YF=>?_)
 refine .gz 91 (.gz 91 (.gz 91 (.pk ?_)))
 refine .mv ?_
 refine .gz 96 (.gz 96 (.gz 96 (.pk ?_)))
 refine .mv ?_
 refine .gz 101 (.gz 101 (.gz 101 (.pk ?_)))
 refine .mv ?_
 refine .gz 106 (.gz 106 (.gz 106 (.pk ?_)))
 refine .nil (.aO U (.sr (.an (.nil (.ret ?_)))))
 exact .rb rfl (df (fun h=>by have h1:=h.aD gM om; unfold nv at h1; obtain ⟨a1,a2,a3,a4,a5,a6⟩:=h1; first | contradiction | omega))
 refine .gw 91 (Y.qp BG U U) (.gw 91 (Y.za bj U U U U) (.gw 91 (Y.zc U U) (.pk ?_)))
 refine .mv ?_
 refine .aC (d:=96) U (fun PG=>?_) (fun PG=>?_)
 refine .gz 96 (.gz 96 (.gz 96 (.pk ?_)))
 refine .mv ?_
 refine .gz 101 (.gz 101 (.gz 101 (.pk ?_)))
 refine .mv ?_
 refine .gz 106 (.gz 106 (.gz 106 (.pk ?_)))
 refine .nil (.aO U (.sr (.an (.nil (.ret ?_)))))
 exact .rb rfl (df (fun h=>by have h1:=h.aD gM om; unfold nv at h1; obtain ⟨a1,a2,a3,a4,a5,a6⟩:=h1; first | contradiction | omega))
 refine .gw 96 (Y.qp BG U U) (.gw 96 (Y.za bj U U U U) (.gw 96 (Y.qr U U) (.pk ?_)))
 refine .mv ?_
 refine .aC (d:=101) U (fun T9=>?_) (fun T9=>?_)
 refine .gz 101 (.gz 101 (.gz 101 (.pk ?_)))
 refine .mv ?_
 refine .gz 106 (.gz 106 (.gz 106 (.pk ?_)))
 refine .nil (.aO U (.sr (.an (.nil (.ret ?_)))))
 exact .rb rfl (df (fun h=>by have h1:=h.aD gM om; unfold nv at h1; obtain ⟨a1,a2,a3,a4,a5,a6⟩:=h1; first | contradiction | omega))
 refine .gw 101 (Y.qp HQ U U) (.gw 101 (Y.za bj U U U U) (.gw 101 (Y.zl U U) (.pk ?_)))
 refine .mv ?_
 refine .aC (d:=106) U (fun TA=>?_) (fun TA=>?_)
 refine .gz 106 (.gz 106 (.gz 106 (.pk ?_)))
 refine .nil (.aO U (.sr (.an (.nil (.ret ?_)))))
 exact .rb rfl (df (fun h=>by have h1:=h.aD gM om; unfold nv at h1; obtain ⟨a1,a2,a3,a4,a5,a6⟩:=h1; first | contradiction | omega))
 refine .gw 106 (Y.qp HR U U) (.gw 106 (Y.za bj U U U U) (.gw 106 (Y.zl U U) (.pk ?_)))
 refine .nil (.aA U (fun AD=>?_) (fun AD=>?_))
 refine .sr (.an (.nil (.ret ?_)))
 exact .rb rfl (df (fun h=>by have h1:=h.aD gM om; unfold nv at h1; obtain ⟨a1,a2,a3,a4,a5,a6⟩:=h1; first | contradiction | omega))
 refine .skip (.region (.vl (Y.qb U U om) (.mv ?_)))
 refine .nil ?_
 exact ⟨gM + 1,⟨om,gW hm (by unfold nv; refine ⟨?_,?_,?_,?_,?_,?_⟩ <;> first | assumption | omega)⟩,om,Le.mk (.c2 (.c (.cons (ak U bc) .nil))) (.c .nil)⟩
 refine .exit (.sr (.sh (Sh.eQ 101 U U) (.vl (Y.zd U U U U) (.alloc 107 SS U U ae (.ai SQ U U U U U U (aH U) U ?_)))))
 refine .nil (.seq (.seq (.sh (Sh.eQ 107 U U) (.region (.fa eS ?_)))))
 refine .ld lT ?_
 refine .vl (Y.qx (n:=n.streams.length) jH U fV) (.mv ?_)
 refine .nil (.block (.jt (fun (bs:Nat)=>⟨[(1,.fp (ab.row n) 0),(7,.fp ([.j7 (.func 156) [] [.fp (ab.row n) 0]]) 0),(114,.fz 3 (n.streams.map bE.row)),(115,vi n.streams.length),(116,vi bs)],[]⟩) (fun bs=>((bs:Int) <= (n.streams.length:Int)) /\ (∀ j,j < bs -> mG n j)) (fun bs=>((n.streams.length:Int) - (bs:Int)).toNat) 0 (⟨om,fun j hj=>by omega⟩) (Le.mk (.c4 (.cons (ak U bc) .nil)) .nil) (fun bs TB=>?_)))
 obtain ⟨YG,DS⟩:=TB
 refine .sr (.vl (Y.zc U U) (.nil (.seq (.aA U (fun n5=>?_) (fun n5=>?_)))))
 refine .skip ?_
 refine .Bt (fun (vb:Bool) (vc:Bool) (vd:Bool) (ve:Bool)=>⟨[(1,.fp (ab.row n) 0),(7,.fp ([.j7 (.func 156) [] [.fp (ab.row n) 0]]) 0),(114,.fz 3 (n.streams.map bE.row)),(115,vi n.streams.length),(116,vi bs),(126,.ptr 109 0 0 1),(127,vi ((n.streams.getD bs default).width)),(128,.v (.bool (decide (dz ((n.streams.getD bs default).width))))),(129,.v (.bool (!decide (dz ((n.streams.getD bs default).width))))),(132,.j7 (.func 156) [] [.fp (ab.row n) 0]),(133,.fp (ab.row n) 6),(134,.fz 1 (n.bB.map ah)),(135,vi bs),(136,.fp (ah (n.bB.getD bs 0)) 0),(137,vi (n.bB.getD bs 0)),(138,.v (.bool (decide (In (n.bB.getD bs 0) n.aa.length)))),(139,.v (.bool (!decide (In (n.bB.getD bs 0) n.aa.length)))),(142,.ptr 109 0 0 2),(143,.v (.bool ((n.streams.getD bs default).out))),(144,.v (.bool vb)),(153,.v (.bool vc)),(156,.ptr 109 0 0 2),(157,.v (.bool ((n.streams.getD bs default).out))),(158,.v (.bool (!((n.streams.getD bs default).out)))),(159,.v (.bool vd)),(166,.v (.bool ve))],[(109,.cells [.v (.string ((n.streams.getD bs default).name)),vi ((n.streams.getD bs default).width),.v (.bool ((n.streams.getD bs default).out))])]⟩) (fun vb vc vd ve=>mG n bs) ?_ (fun vb vc vd ve FT=>?_)
 refine .block (.sr ?_)
 have hsn:=hs.rC _ (iw (l:=n.streams) (i:=bs) (d:=default) om)
 refine .mv ?_
 refine .vl (Y.qs (m:=bs) jH U U bc (ao (d:=default) om)) (.vl (Y.zb J8 U U (aH U) U U) (.alloc 109 ny U U ae ?_))
 refine .an ?_
 refine .ai J9 U U U U U U (aH U) U (.nil (.seq (.dZ U (.bP (n:=45) [0,1] [2,3,4,5,6,7,8,9,10,11,12,13,14,15,16,17,18,19,20,21,22,23,24,25,26,27,28,29,30,31,32,33,34,35,36,37,38,39,40,41,42,43,44,45,46] 2 U au (.cn 0 U (Y.qp HS U U) (.cn 1 U (Y.za SP U U U U) (.nil (.one 2 U au (.aZ EL (qQ (s:=((n.streams.getD bs default).name)) (by first | assumption | omega)) U (.aj U U .nil) ae U ?_)))))))))
 refine .nil ⟨U,(.bP (n:=40) [3,4,5,6] [7,8,9,10,11,12,13,14,15,16,17,18,19,20,21,22,23,24,25,26,27,28,29,30,31,32,33,34,35,36,37,38,39,40,41,42,43,44,45,46] 7 U au (.cn 3 U (Y.zn U) (.cn 4 U (Y.zh U U) (.split (d:=125) U (fun AE=>?_) (fun AE=>?_)))))⟩
 replace AE:¬ (o3 ((n.streams.getD bs default).name)):=by simpa using AE
 refine .sk 5 U U U U (.sk 6 U U U U (.nil (.cQ 7 U au U ae ae U U (.cQ 8 U au U ae ae U U (.bP (n:=30) [9,10,11,12,13,14,15,16] [17,18,19,20,21,22,23,24,25,26,27,28,29,30,31,32,33,34,35,36,37,38,39,40,41,42,43,44,45,46] 17 U au ?_)))))
 refine .cn 9 U (Y.zo U U U) (.cn 10 U (Y.zh U U) (.sk 11 U U U U (.sk 12 U U U U (.sk 13 U U U U (.sk 14 U U U U (.sk 15 U U U U (.sk 16 U U U U (.nil (.cQ 17 U au U ae ae U U (.cQ 18 U au U ae ae U U (.bP (n:=17) [19,20,21,22,23,24,25,26,27,28,29] [30,31,32,33,34,35,36,37,38,39,40,41,42,43,44,45,46] 30 U au ?_)))))))))))
 refine .cn 19 U (Y.zo U U U) (.cn 20 U (Y.zh U U) (.sk 21 U U U U (.sk 22 U U U U (.sk 23 U U U U (.sk 24 U U U U (.sk 25 U U U U (.sk 26 U U U U (.sk 27 U U U U (.sk 28 U U U U (.sk 29 U U U U (.nil (.cQ 30 U au U ae ae U U (.cQ 31 U au U ae ae U U (.cQ 32 U au U ae ae U U ?_))))))))))))))
 refine .bP (n:=0) [33,34,35,36,37,38,39,40,41,42,43,44,45,46] [] 0 U au (.cn 33 U (Y.zo U U U) (.cn 34 U (Y.zh U U) (.sk 35 U U U U (.sk 36 U U U U (.sk 37 U U U U (.sk 38 U U U U (.sk 39 U U U U (.sk 40 U U U U (.sk 41 U U U U (.sk 42 U U U U (.sk 43 U U U U (.sk 44 U U U U (.sk 45 U U U U (.cn 46 U (Y.zo U U U) (.nil (.done au (.aO U ?_)))))))))))))))))
 refine .sr (.an (.nil (.ret ?_)))
 exact .rb rfl (df (fun h=>by have h1:=h.strs bs om; unfold mG at h1; obtain ⟨a1,a2,a3,a4,a5⟩:=h1; first | contradiction | grind))
 replace AE:o3 ((n.streams.getD bs default).name):=by simpa using AE
 refine .rn 5 U U U (Y.qp rK U U) (.rn 6 U U U (Y.za bj U U U U) (.nil (.one 7 U au (.bn (d:=125) U ae U (.aZ EM (sF (w:=((n.streams.getD bs default).width))) U (.aj U U .nil) ae U ?_)))))
 refine .nil ⟨U,(.bP (n:=30) [8,9,10,11,12,13,14,15,16] [17,18,19,20,21,22,23,24,25,26,27,28,29,30,31,32,33,34,35,36,37,38,39,40,41,42,43,44,45,46] 17 U au (.rn 8 U U U (Y.zn U) (.cn 9 U (Y.zo U U U) (.cn 10 U (Y.zh U U) (.split (d:=131) U (fun pg=>?_) (fun pg=>?_))))))⟩
 replace pg:¬ (dz ((n.streams.getD bs default).width)):=by simpa using pg
 refine .sk 11 U U U U (.sk 12 U U U U (.sk 13 U U U U (.sk 14 U U U U (.sk 15 U U U U (.sk 16 U U U U (.nil (.cQ 17 U au U ae ae U U (.cQ 18 U au U ae ae U U ?_))))))))
 refine .bP (n:=17) [19,20,21,22,23,24,25,26,27,28,29] [30,31,32,33,34,35,36,37,38,39,40,41,42,43,44,45,46] 30 U au (.cn 19 U (Y.zo U U U) (.cn 20 U (Y.zh U U) (.sk 21 U U U U (.sk 22 U U U U (.sk 23 U U U U (.sk 24 U U U U (.sk 25 U U U U (.sk 26 U U U U (.sk 27 U U U U (.sk 28 U U U U (.sk 29 U U U U (.nil (.cQ 30 U au U ae ae U U (.cQ 31 U au U ae ae U U ?_))))))))))))))
 refine .cQ 32 U au U ae ae U U (.bP (n:=0) [33,34,35,36,37,38,39,40,41,42,43,44,45,46] [] 0 U au (.cn 33 U (Y.zo U U U) (.cn 34 U (Y.zh U U) (.sk 35 U U U U (.sk 36 U U U U (.sk 37 U U U U (.sk 38 U U U U (.sk 39 U U U U (.sk 40 U U U U (.sk 41 U U U U (.sk 42 U U U U (.sk 43 U U U U (.sk 44 U U U U (.sk 45 U U U U (.cn 46 U (Y.zo U U U) (.nil (.done au (.aO U (.sr (.an (.nil (.ret ?_))))))))))))))))))))))
 exact .rb rfl (df (fun h=>by have h1:=h.strs bs om; unfold mG at h1; obtain ⟨a1,a2,a3,a4,a5⟩:=h1; first | contradiction | grind))
 replace pg:dz ((n.streams.getD bs default).width):=by simpa using pg
 refine .rn 11 U U U (Y.za Ag U U U U) (.rn 12 U U U (Y.qp oW U U) (.rn 13 U U U (Y.za bt U U U U) ?_))
 refine .rn 14 U U U (Y.zh U U) (.rn 15 U U U (Y.qs (m:=bs) a7 U U bc (ao (d:=0) om)) ?_)
 refine .rn 16 U U U (Y.za bj U U U U) (.nil (.one 17 U au (.bn (d:=131) U ae U (.nV U uE (g8 (i:=(n.bB.getD bs 0))) U (.aj U U (.aj U U .nil)) ae U ?_))))
 refine .nil ⟨U,(.bP (n:=17) [18,19,20,21,22,23,24,25,26,27,28,29] [30,31,32,33,34,35,36,37,38,39,40,41,42,43,44,45,46] 30 U au (.rn 18 U U U (Y.zn U) (.cn 19 U (Y.zo U U U) (.cn 20 U (Y.zh U U) (.split (d:=141) U (fun FU=>?_) (fun FU=>?_))))))⟩
 replace FU:¬ (In (n.bB.getD bs 0) n.aa.length):=by simpa using FU
 refine .sk 21 U U U U (.sk 22 U U U U (.sk 23 U U U U (.sk 24 U U U U (.sk 25 U U U U (.sk 26 U U U U (.sk 27 U U U U (.sk 28 U U U U (.sk 29 U U U U (.nil (.cQ 30 U au U ae ae U U (.cQ 31 U au U ae ae U U ?_)))))))))))
 refine .cQ 32 U au U ae ae U U (.bP (n:=0) [33,34,35,36,37,38,39,40,41,42,43,44,45,46] [] 0 U au (.cn 33 U (Y.zo U U U) (.cn 34 U (Y.zh U U) (.sk 35 U U U U (.sk 36 U U U U (.sk 37 U U U U (.sk 38 U U U U (.sk 39 U U U U (.sk 40 U U U U (.sk 41 U U U U (.sk 42 U U U U (.sk 43 U U U U (.sk 44 U U U U (.sk 45 U U U U (.cn 46 U (Y.zo U U U) (.nil (.done au (.aO U (.sr (.an (.nil (.ret ?_))))))))))))))))))))))
 exact .rb rfl (df (fun h=>by have h1:=h.strs bs om; unfold mG at h1; obtain ⟨a1,a2,a3,a4,a5⟩:=h1; first | contradiction | grind))
 replace FU:In (n.bB.getD bs 0) n.aa.length:=by simpa using FU
 refine .rn 21 U U U (Y.qp k9 U U) (.rn 22 U U U (Y.za Af U U U U) (.rn 23 U U U (Y.zh U U) ?_))
 refine .split (d:=144) U (fun IH=>?_) (fun IH=>?_)
 refine .rn 24 U U U (Y.za Ag U U U U) (.rn 25 U U U (Y.qp oX U U) (.rn 26 U U U (Y.za bt U U U U) ?_))
 refine .rn 27 U U U (Y.zh U U) (.rn 28 U U U (Y.qs (m:=bs) a7 U U bc (ao (d:=0) om)) ?_)
 refine .rn 29 U U U (Y.za bj U U U U) (.nil (.one 30 U au (.bn (d:=144) U ae U (.nV U uE (g8 (i:=(n.data.getD bs 0))) U (.aj U U (.aj U U .nil)) ae U ?_))))
 refine .nil ⟨U,(.bP (n:=0) [31,32,33,34,35,36,37,38,39,40,41,42,43,44,45,46] [] 0 U au (.rn 31 U U U (Y.zn U) (.rn 32 U U U (Y.zo U U U) ?_)))⟩
 refine .cn 33 U (Y.zo U U U) (.cn 34 U (Y.zh U U) (.split (d:=155) U (fun FV=>?_) (fun FV=>?_)))
 replace FV:¬ (In (n.data.getD bs 0) n.aa.length):=by simpa using FV
 refine .sk 35 U U U U (.sk 36 U U U U (.sk 37 U U U U (.sk 38 U U U U (.sk 39 U U U U (.sk 40 U U U U (.sk 41 U U U U (.sk 42 U U U U (.sk 43 U U U U (.sk 44 U U U U (.sk 45 U U U U (.cn 46 U (Y.zo U U U) (.nil (.done au (.aO U ?_))))))))))))))
 refine .sr (.an (.nil (.ret ?_)))
 exact .rb rfl (df (fun h=>by have h1:=h.strs bs om; unfold mG at h1; obtain ⟨a1,a2,a3,a4,a5⟩:=h1; first | contradiction | grind))
 replace FV:In (n.data.getD bs 0) n.aa.length:=by simpa using FV
 refine .rn 35 U U U (Y.qp k9 U U) (.rn 36 U U U (Y.za Af U U U U) (.rn 37 U U U (Y.zn U) ?_))
 refine .rn 38 U U U (Y.zh U U) ?_
 refine .split (d:=159) U (fun kr=>?_) (fun kr=>?_)
 replace kr:((n.streams.getD bs default).out) = false:=by simpa using kr
 refine .rn 39 U U U (Y.qp oX U U) (.rn 40 U U U (Y.za bt U U U U) (.rn 41 U U U (Y.zh U U) ?_))
 refine .rn 42 U U U (Y.qs (m:=bs) a7 U U bc (ao (d:=0) om)) ?_
 refine .rn 43 U U U (Y.za bj U U U U) (.rn 44 U U U (Y.zl U U) (.rn 45 U U U (Y.zo U U U) ?_))
 refine .cn 46 U (Y.zo U U U) (.nil (.done au (.aA U (fun FW=>?_) (fun FW=>?_))))
 refine .sr (.an (.nil (.ret ?_)))
 exact .rb rfl (df (fun h=>by have h1:=h.strs bs om; unfold mG at h1; obtain ⟨a1,a2,a3,a4,a5⟩:=h1; first | contradiction | grind))
 refine .skip ⟨true,(!decide (In (n.data.getD bs 0) n.aa.length)),true,decide ((n.data.getD bs 0) ≠ (-1)),by unfold mG; grind,Le.mk (.c8 (.c8 (.c2 (.c (.cons (a9 U eG) (.cons (a9 U eG) (.c2 (.c (.cons (a9 U eG) (.cons (a9 U eG) .nil)))))))))) (.c .nil)⟩
 replace kr:((n.streams.getD bs default).out) = true:=by simpa using kr
 exact .sk 39 U U U U (.sk 40 U U U U (.sk 41 U U U U (.sk 42 U U U U (.sk 43 U U U U (.sk 44 U U U U (.rn 45 U U U (Y.zo U U U) (.cn 46 U (Y.zo U U U) (.nil (.done au (.cZ U (.skip ⟨true,(!decide (In (n.data.getD bs 0) n.aa.length)),false,false,by unfold mG; grind,Le.mk (.c8 (.c8 (.c2 (.c (.cons (a9 U eG) (.cons (a9 U eG) (.c2 (.c (.cons (a9 U eG) (.cons (a9 U eG) .nil)))))))))) (.c .nil)⟩)))))))))))
 refine .sk 24 U U U U (.sk 25 U U U U (.sk 26 U U U U (.sk 27 U U U U (.sk 28 U U U U (.sk 29 U U U U (.nil (.cQ 30 U au U ae ae U U (.cQ 31 U au U ae ae U U ?_))))))))
 refine .bP (n:=0) [32,33,34,35,36,37,38,39,40,41,42,43,44,45,46] [] 0 U au (.rn 32 U U U (Y.zo U U U) (.cn 33 U (Y.zo U U U) (.cn 34 U (Y.zh U U) (.rn 35 U U U (Y.qp k9 U U) (.rn 36 U U U (Y.za Af U U U U) ?_)))))
 refine .rn 37 U U U (Y.zn U) (.rn 38 U U U (Y.zh U U) ?_)
 refine .split (d:=159) U (fun kr=>?_) (fun kr=>?_)
 replace kr:((n.streams.getD bs default).out) = false:=by simpa using kr
 refine .rn 39 U U U (Y.qp oX U U) (.rn 40 U U U (Y.za bt U U U U) (.rn 41 U U U (Y.zh U U) ?_))
 refine .rn 42 U U U (Y.qs (m:=bs) a7 U U bc (ao (d:=0) om)) ?_
 refine .rn 43 U U U (Y.za bj U U U U) (.rn 44 U U U (Y.zl U U) (.rn 45 U U U (Y.zo U U U) ?_))
 refine .cn 46 U (Y.zo U U U) (.nil (.done au (.aA U (fun FW=>?_) (fun FW=>?_))))
 refine .sr (.an (.nil (.ret ?_)))
 exact .rb rfl (df (fun h=>by have h1:=h.strs bs om; unfold mG at h1; obtain ⟨a1,a2,a3,a4,a5⟩:=h1; first | contradiction | grind))
 refine .skip ⟨false,false,true,decide ((n.data.getD bs 0) ≠ (-1)),by unfold mG; grind,Le.mk (.c8 (.c8 (.c2 (.c (.cons (a9 U eG) (.cons (a9 U eG) (.c2 (.c (.cons (a9 U eG) (.cons (a9 U eG) .nil)))))))))) (.c .nil)⟩
 replace kr:((n.streams.getD bs default).out) = true:=by simpa using kr
 exact .sk 39 U U U U (.sk 40 U U U U (.sk 41 U U U U (.sk 42 U U U U (.sk 43 U U U U (.sk 44 U U U U (.rn 45 U U U (Y.zo U U U) (.cn 46 U (Y.zo U U U) (.nil (.done au (.cZ U (.skip ⟨false,false,false,false,by unfold mG; grind,Le.mk (.c8 (.c8 (.c2 (.c (.cons (a9 U eG) (.cons (a9 U eG) (.c2 (.c (.cons (a9 U eG) (.cons (a9 U eG) .nil)))))))))) (.c .nil)⟩)))))))))))
 refine .region (.vl (Y.qb U U om) (.mv ?_))
 refine .nil (⟨bs + 1,⟨om,gW DS FT⟩,om,Le.mk (.c4 (.cons (ak U bc) .nil)) .nil⟩)
 refine .exit (.seq (.sr (.ld Ag ?_)))
 refine .fa sC ?_
 refine .ld bj ?_
 refine .nV U uE (g8 (i:=n.freeze)) U (.aj U U (.aj U U .nil)) ae U (.vl (Y.zn U) (.mv ?_))
 refine .qL (d:=174) U (fun TC=>?_) (fun TC=>?_)
 refine .gz 174 (.gz 174 (.gz 174 (.gz 174 (.gz 174 (.pk ?_)))))
 refine .mv ?_
 refine .gz 181 (.gz 181 (.gz 181 (.gz 181 (.pk ?_))))
 refine .nil (.aO U (.sr (.an (.nil (.ret ?_)))))
 exact .rb rfl (df (fun h=>by have h1:=h.freeze; have h2:=h.done; contradiction))
 refine .gw 174 (Y.za Ag U U U U) (.gw 174 (Y.qp wS U U) (.gw 174 (Y.za bj U U U U) (.bn (d:=174) U ae U (.nV U uE (g8 (i:=n.done)) U (.aj U U (.aj U U .nil)) ae U (.gw 174 (Y.zn U) (.pk ?_))))))
 refine .mv ?_
 refine .qL (d:=181) U (fun TD=>?_) (fun TD=>?_)
 refine .gz 181 (.gz 181 (.gz 181 (.gz 181 (.pk ?_))))
 refine .nil (.aO U (.sr (.an (.nil (.ret ?_)))))
 exact .rb rfl (df (fun h=>by have h1:=h.freeze; have h2:=h.done; contradiction))
 refine .gw 181 (Y.qp pC U U) (.gw 181 (Y.za bt U U U U) (.gw 181 (Y.zd U U U U) (.bn (d:=181) U ae U ?_)))
 refine .aZ J7 (kO (l:=n.cM) (p:=fun z=>!decide (In z n.aa.length)) (om) Ox (fun z _=>xg)) U (.aj U U (.aj U U .nil)) ae U ?_
 refine .pk ?_
 refine .nil (.cond U (fun L5=>?_) (fun L5=>?_))
 refine .sr (.an (.nil (.ret ?_)))
 exact .rb rfl (df (fun h=>absurd h.cM (p9.1 ej)))
 refine .skip (.sr (.fa bO ?_))
 refine .ld bt ?_
 refine .vl (Y.qx (n:=n.aa.length) a7 U fV) (.makeSlice (n:=n.aa.length) sE SR U U U U om om ae ?_)
 refine .bQ U ae (.sh (Sh.dr (d:=10) (n:=n.aa.length) 110 ((List.replicate n.aa.length false).map jT) U iJ (aU (by simp)) ae) (.nil (.seq (.sr (.fa bX ?_)))))
 refine .ld gk ?_
 refine .vl (Y.qx (n:=n.cells.length) dV U fV) (.mv ?_)
 refine .nil (.block (.iD (fun (cA:Nat) (eC:List Bool)=>⟨[(1,.fp (ab.row n) 0),(7,.fp ([.j7 (.func 156) [] [.fp (ab.row n) 0]]) 0),(10,.aL 110 1 0 n.aa.length),(192,.fz 6 (n.cells.map Cell.row)),(193,vi n.cells.length),(194,vi cA)],[(110,.rows 1 (eC.map jT))]⟩) (fun cA eC=>(eC.length = n.aa.length) /\ ((cA:Int) <= (n.cells.length:Int)) /\ (xw n cA eC) /\ (∀ j,j < cA -> jG n (n.cells.getD j default))) (fun cA eC=>((n.cells.length:Int) - (cA:Int)).toNat) 0 (List.replicate n.aa.length false) (⟨jR,jR,xw.init n,fun j hj=>by omega⟩) (Le.mk (.c4 (.c (.cons (ak U bc) .nil))) (.c .nil)) (fun cA eC FX=>?_)))
 obtain ⟨JY,PH,hd,hc⟩:=FX
 refine .sr (.vl (Y.zc U U) (.nil (.seq (.aA U (fun TE=>?_) (fun TE=>?_)))))
 refine .skip ?_
 refine .iC (fun (iz:List Bool)=>⟨[(1,.fp (ab.row n) 0),(7,.fp ([.j7 (.func 156) [] [.fp (ab.row n) 0]]) 0),(10,.aL 110 1 0 n.aa.length),(192,.fz 6 (n.cells.map Cell.row)),(193,vi n.cells.length),(194,vi cA),(203,.agg [.v (.string n.name),.fz 1 (n.aa.map ah),.fz 6 (n.cells.map Cell.row),.fz 1 (n.ins.map ah),.fz 5 (n.aD.map eA.row),.fz 3 (n.streams.map bE.row),.fz 1 (n.bB.map ah),.fz 1 (n.data.map ah),vi n.freeze,vi n.done,.fz 1 (n.cM.map ah)]),(204,.agg [vi ((n.cells.getD cA default).kind),vi ((n.cells.getD cA default).op),vi ((n.cells.getD cA default).out),.fz 1 (((n.cells.getD cA default).args).map ah),.v (.int .u64 (((n.cells.getD cA default).num:Nat):Int)),vi ((n.cells.getD cA default).mem)]),(205,.v (.bool (decide (Shaped n (n.cells.getD cA default))))),(206,.v (.bool (!decide (Shaped n (n.cells.getD cA default)))))],[(110,.rows 1 (iz.map jT))]⟩) (fun iz=>(iz.length = n.aa.length) /\ (jG n (n.cells.getD cA default) /\ xw n (cA + 1) iz)) ?_ (fun iz PI=>?_)
 refine .block (.sr (.vl (Y.qs (m:=cA) dV U U bc (ao (d:=default) om)) (.vl (Y.zb fA U U (aH U) U U) (.alloc 112 ez U U ae (.ai g6 U U U U U U (aH U) U ?_)))))
 refine .nil (.seq (.sr ?_))
 have YH:=hs.args (n.cells.getD cA default) (iw om)
 refine .fa bU ?_
 refine .ld bt ?_
 refine .vl (Y.zd U U U U) (.aZ J7 (kO (l:=((n.cells.getD cA default).args)) (p:=fun z=>!decide (In z n.aa.length)) (om) Oy (fun z _=>xh)) U (.aj U U (.aj U U .nil)) ae U ?_)
 refine .mv ?_
 refine .split (d:=202) U (fun TF=>?_) (fun TF=>?_)
 refine .gz 202 (.gz 202 (.gz 202 (.gz 202 (.pk ?_))))
 refine .nil (.aO U (.sr (.an (.nil (.ret ?_)))))
 exact .rb rfl (df (fun h=>by have h1:=h.cells cA om; obtain ⟨a1,a2,a3,a4⟩:=h1; first | contradiction | exact absurd a1 (p9.1 ej) | (have:=a3 ej; contradiction) | (have:=a4 ej; contradiction)))
 refine .gw 202 (Y.zb gm U U (aH U) U U) (.gw 202 (Y.zb fA U U (aH U) U U) (.bn (d:=202) U ae U ?_))
 refine .aZ Oz (y5 (n:=n) (c:=(n.cells.getD cA default)) hs (by first | assumption | omega)) U (.aj U U (.aj U U .nil)) ae U (.gw 202 (Y.zn U) (.pk ?_))
 refine .nil (.lh U (fun TG=>?_) (fun TG=>?_))
 refine .sr (.an (.nil (.ret ?_)))
 exact .rb rfl (df (fun h=>by have h1:=h.cells cA om; obtain ⟨a1,a2,a3,a4⟩:=h1; first | contradiction | exact absurd a1 (p9.1 ej) | (have:=a3 ej; contradiction) | (have:=a4 ej; contradiction)))
 refine .skip (.seq (.sr (.fa dC ?_)))
 refine .ld bj ?_
 refine .vl (Y.ql U U) (.nil (.aA U (fun TH=>?_) (fun TH=>?_)))
 refine .seq (.sr (.fa eo ?_))
 refine .ld bj ?_
 refine .vl (Y.zl U U) (.nil (.aA U (fun TI=>?_) (fun TI=>?_)))
 refine .sr (.an (.nil (.ret ?_)))
 exact .rb rfl (df (fun h=>by have h1:=h.cells cA om; obtain ⟨a1,a2,a3,a4⟩:=h1; first | contradiction | exact absurd a1 (p9.1 ej) | (have:=a3 ej; contradiction) | (have:=a4 ej; contradiction)))
 exact .skip (.exit (⟨eC,⟨om,⟨⟨mU ej,ej,fun _=>by omega,fun h=>absurd ej h⟩,hd.skip om ej⟩⟩,Le.mk (.c8 (.c (.c .nil))) (.c .nil)⟩))
 refine .skip (.seq (.sr (.ld Ag ?_)))
 refine .fa eo ?_
 refine .ld bj ?_
 refine .nV U uE (g8 (i:=((n.cells.getD cA default).out))) U (.aj U U (.aj U U .nil)) ae U (.vl (Y.zn U) (.mv ?_))
 refine .qL (d:=219) U (fun TJ=>?_) (fun TJ=>?_)
 refine .gz 219 (.gz 219 (.gz 219 (.gz 219 (.gz 219 (.pk ?_)))))
 refine .nil (.aO U (.sr (.an (.nil (.ret ?_)))))
 exact .rb rfl (df (fun h=>by have h1:=h.cells cA om; obtain ⟨a1,a2,a3,a4⟩:=h1; first | contradiction | exact absurd a1 (p9.1 ej) | (have:=a3 ej; contradiction) | (have:=a4 ej; contradiction)))
 refine .gw 219 (Y.zh U U) (.gw 219 (Y.qp eo U U) (.gw 219 (Y.za bj U U U U) (.gw 219 (Y.qt (m:=((n.cells.getD cA default).out).toNat) sE U U jR jR) (.gw 219 (Y.za Af U (aM (d:=false) jR) U U) (.pk ?_)))))
 refine .nil (.cond U (fun TK=>?_) (fun TK=>?_))
 refine .sr (.an (.nil (.ret ?_)))
 exact .rb rfl (df (fun h=>xw.dup hd om ej ej ej h))
 refine .skip (.region (.mv ?_))
 refine .fa eo ?_
 refine .ld bj ?_
 refine .vl (Y.qt (m:=((n.cells.getD cA default).out).toNat) sE U U jR jR) (.gU ((eC.set (((n.cells.getD cA default).out).toNat) true).map jT) Rn U U U U U U U (aM (d:=false) jR) (aH U) (e9 U) (.nil (⟨eC.set (((n.cells.getD cA default).out).toNat) true,⟨jR,⟨⟨mU ej,ej,fun h=>absurd h ej,fun _=>by assumption⟩,hd.step om ej ej JY ej⟩⟩,Le.mk (.c8 (.c (.c .nil))) (.c .nil)⟩)))
 obtain ⟨MG,II⟩:=PI
 refine .region (.vl (Y.qb U U om) (.mv ?_))
 refine .nil (⟨cA + 1,iz,⟨om,om,II.2,gW hc II.1⟩,om,Le.mk (.c4 (.c (.cons (ak U bc) .nil))) (.c .nil)⟩)
 refine .exit (.sr (.mv ?_))
 refine .jF [110] O0 (sa (l:=eC) (b:=false) (om)) U (.cB U U (b7 om) (b8 om) (.aj U U .nil)) (kH U (bq zU)) ae U trivial (.vl (Y.zn U) (.an (.nil (.ret ?_))))
 exact .rb rfl (db ((xw.all (d:=eC) (by rw [show n.cells.length = cA by omega]; exact hd) JY).trans ⟨fun h=>⟨ej,om,om,om,om,om,om,fun j hj=>by have:=hw j (by rw [List.length_append] at hj; omega); rw [PF] at this; exact this,fun j hj=>hm j om,fun j hj=>DS j om,ej,ej,mU ej,fun j hj=>hc j om,h⟩,fun h=>h.kZ⟩))
end Go.Proofs.Ytlimckldnjmabaa
