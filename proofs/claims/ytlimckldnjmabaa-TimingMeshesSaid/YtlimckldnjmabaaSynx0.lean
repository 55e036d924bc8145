/- Netlists as the walk sees them. -/
import Derived.Test.YtlimckldnjmabaaAWx1
import Derived.Test.YtlimckldnjmabaaAWx2
import Derived.Test.YtlimckldnjmabaaProg
import Derived.KernelRfl
import Derived.Test.YtlimckldnjmabaaRows
set_option linter.unusedSimpArgs false
set_option linter.unusedVariables false
set_option linter.unusedSectionVars false
set_option maxRecDepth 4000
set_option maxHeartbeats 8000000
namespace Go.Proofs.Ytlimckldnjmabaa
open Go Go.AW
abbrev vi(z:Int):X:=.v (.int .i64 z)
abbrev vn:X:=.v (.slice none 0 0)
theorem aL{a b:Nat}(h:Nat.ble a b = true):a <= b:=Nat.le_of_ble_eq_true h
def ag(z:Int):List X:=[.v (.int .i64 z)]
theorem ep{p:Prop}(h:p:=by first | rfl | (simp only [List.cons.injEq,X.v.injEq,X.aR.injEq,Value.int.injEq,and_true,true_and]; omega) | simp_all):p:=h
theorem Ai{p:Prop}(h:p:=by first | rfl | exact IntWalk.i64_in _ (by omega)):p:=h
theorem aE(z:Int):X.b5 (ag z) = true:=rfl
theorem oK(z:Int):X.fj (ag z):=⟨trivial,trivial⟩
def oo(b:Bool):List X:=[.v (.bool b)]
theorem Aj(b:Bool):X.b5 (oo b) = true:=rfl
def uj(n:Nat):List X:=[.v (.int .u8 (n:Int))]
def KN(n:Nat):List X:=[.v (.int .u64 (n:Int))]
def bG(l:List Int):List X:=[.fz 1 (l.map ag)]
def iw(l:List Int):List X:=[.dn 1 (l.map ag)]
theorem eb(l:List Int):X.b5 (bG l) = true:=rfl
theorem xS(l:List Int):X.jt (iw l) = bG l:=by
 show [X.fz 1 (X.lv (l.map ag))] = _
 rw [X.rh (g:=ag) (fun _=>rfl)]; rfl
structure Cell where
 kind:Int
 op:Int
 out:Int
 args:List Int
 num:Nat
 mem:Int
instance:Inhabited Cell:=⟨⟨0,0,0,[],0,0⟩⟩
def Cell.row(c:Cell):List X:=[.v (.int .i64 c.kind),.v (.int .i64 c.op),.v (.int .i64 c.out),.fz 1 (c.args.map ag),.v (.int .u64 (c.num:Int)),.v (.int .i64 c.mem)]
theorem Cell.bx(c:Cell):X.b5 c.row = true:=rfl
structure dW where
 name:ByteArray
 width:Int
 len:Int
 kind:Int
 uk:Int
instance:Inhabited dW:=⟨⟨ByteArray.empty,0,0,0,0⟩⟩
def dW.row(a:dW):List X:=[.v (.string a.name),.v (.int .i64 a.width),.v (.int .i64 a.len),.v (.int .i64 a.kind),.v (.int .i64 a.uk)]
theorem dW.bx(c:dW):X.b5 c.row = true:=rfl
theorem dW.lz(c:dW):X.fj c.row:=⟨trivial,trivial,trivial,trivial,trivial,trivial⟩
structure b8 where
 name:ByteArray
 width:Int
 out:Bool
instance:Inhabited b8:=⟨⟨ByteArray.empty,0,false⟩⟩
def b8.row(a:b8):List X:=[.v (.string a.name),.v (.int .i64 a.width),.v (.bool a.out)]
theorem b8.bx(c:b8):X.b5 c.row = true:=rfl
theorem b8.lz(c:b8):X.fj c.row:=⟨trivial,trivial,trivial,trivial⟩
structure ab where
 name:ByteArray
 aa:List Int
 cells:List Cell
 ins:List Int
 aA:List dW
 streams:List b8
 ba:List Int
 data:List Int
 freeze:Int
 done:Int
 bF:List Int
def ab.row(n : ab) : List X := [.v (.string n.name), .fz 1 (n.aa.map ag), .fz 6 (n.cells.map Cell.row), .fz 1 (n.ins.map ag), .fz 5 (n.aA.map dW.row), .fz 3 (n.streams.map b8.row),
 .fz 1 (n.ba.map ag),.fz 1 (n.data.map ag),.v (.int .i64 n.freeze),.v (.int .i64 n.done),.fz 1 (n.bF.map ag)]
structure ab.Small(n:ab):Prop where
 name:n.name.size <= 140737488351232
 aa:n.aa.length <= 17592186043904
 cells:n.cells.length <= 2199023255488
 args:∀ c ∈ n.cells,c.args.length <= 17592186043904
 DW:(n.cells.map (fun c=>c.args.length)).sum <= 8796093022208
 Ak:∀ c ∈ n.cells,c.num < 18446744073709551616
 mK:∀ m ∈ n.aA,m.name.size <= 140737488351232
 mL:∀ m ∈ n.streams,m.name.size <= 140737488351232
 ins:n.ins.length <= 17592186043904
 aA:n.aA.length <= 2932031007317
 streams:n.streams.length <= 4398046510976
 ba:n.ba.length <= 17592186043904
 data:n.data.length <= 17592186043904
 bF:n.bF.length <= 17592186043904
open Go Go.AW Go.Proofs
section
variable {H:Type} {enc:TypeId × Value -> H} {W:World} {base:Nat}
theorem HW:Reads enc Try.prog W base 66 KN (fun z=>z < 18446744073709551616) (fun _=>1):=Reads.Og Try.underlying66
theorem ss:Reads enc Try.prog W base 5 uj (fun z=>z < 256) (fun _=>1):=Reads.SH Try.underlying5
theorem Ol:Try.prog.cellsOf 66 = 1:=by kernel_rfl
structure ab.Xa(n:ab):Prop where
 name:n.name.size <= 140737488351232
 aa:n.aa.length <= 17592186043904
 cells:n.cells.length <= 2199023255488
 args:∀ c ∈ n.cells,c.args.length <= 17592186043904
 Ak:∀ c ∈ n.cells,c.num < 18446744073709551616
 mK:∀ m ∈ n.aA,m.name.size <= 140737488351232
 mL:∀ m ∈ n.streams,m.name.size <= 140737488351232
 ins:n.ins.length <= 17592186043904
 aA:n.aA.length <= 2932031007317
 streams:n.streams.length <= 4398046510976
 ba:n.ba.length <= 17592186043904
 data:n.data.length <= 17592186043904
 bF:n.bF.length <= 17592186043904
theorem ab.Xa.small{n:ab}(h:n.Xa)(ht:(n.cells.map (fun c=>c.args.length)).sum <= 8796093022208):n.Small:=⟨h.name,h.aa,h.cells,h.args,ht,h.Ak,h.mK,h.mL,h.ins,h.aA,h.streams,h.ba,h.data,h.bF⟩
end
open Go Go.AW
def jb(x:Nat):Prop:=(97 <= x /\ x <= 122) \/ (65 <= x /\ x <= 90) \/ (48 <= x /\ x <= 57) \/ x = 95
def nW(s:ByteArray):Prop:=(∀ i,i < s.size -> jb (bA s i)) /\ s.size <= 64
def dO(w:Int):Prop:=1 <= w /\ w <= 64
def cA(op:Int):Int:=if (2 <= op /\ op <= 3) \/ (9 <= op /\ op <= 20) then 2 else if op = 21 then 3 else if 22 <= op /\ op <= 24 then 1 else 0
theorem sho{p:Prop}(h:p:=by ((simp only [Shaped,cA,Int.reduceEq,Bool.not_eq_true,false_and,true_and,and_true,and_false,or_false,false_or,ne_eq]) <;> (first | omega | grind))):p:=h
def Shaped(n:ab)(c:Cell):Prop :=
 (c.kind = 1 /\ c.args.length = 0 /\ c.op = 0 /\ c.mem = 0) \/
 (c.kind = 2 /\ cA c.op ≠ 0 /\ (c.args.length:Int) = cA c.op /\ c.num = 0 /\ c.mem = 0) \/
 (c.kind = 3 /\ 2 <= c.args.length /\ c.args.length % 2 = 0 /\ c.op = 0 /\ c.num = 0 /\ c.mem = 0) \/
 (c.kind = 4 /\ c.args.length = 2 /\ c.op = 0 /\ c.mem = 0) \/
 (c.kind = 5 /\ c.args.length = 2 /\ (4 <= c.op /\ c.op <= 8) /\ (1 <= c.num /\ c.num <= 4096) /\ c.mem = 0) \/
 (c.kind = 6 /\ c.args.length = 2 /\ c.op = 0 /\ c.num = 0 /\ 0 <= c.mem /\ c.mem < n.aA.length) \/
 (c.kind = 7 /\ c.args.length = 3 /\ c.op = 0 /\ c.num = 0 /\ 0 <= c.mem /\ c.mem < n.aA.length) \/
 (c.kind = 8 /\ c.args.length = 0 /\ c.op = 0 /\ c.num < n.ins.length /\ c.mem = 0) \/
 (c.kind = 9 /\ c.args.length = 0 /\ c.op = 0 /\ c.num = 0 /\ 0 <= c.mem /\ c.mem < n.streams.length) \/
 (c.kind = 10 /\ c.args.length = 0 /\ c.op = 0 /\ c.num = 0 /\ (0 <= c.mem /\ c.mem < n.streams.length) /\ (n.streams.getD c.mem.toNat default).out = false)
theorem shq{p:Prop}(h:p:=by ((simp only [Shaped,Int.reduceEq,Bool.not_eq_true,false_and,true_and,and_true,and_false,or_false,false_or,ne_eq]) <;> (first | omega | grind))):p:=h
theorem gX{p:Prop}(h:p:=by ((simp only [Shaped, *,Int.reduceEq,Bool.not_eq_true,false_and,true_and,and_true,and_false,or_false,false_or,ne_eq]) <;> (first | omega | grind))):p:=h
noncomputable instance (s:ByteArray):Decidable (nW s):=Classical.propDecidable _
instance (w:Int):Decidable (dO w):=by unfold dO; infer_instance
noncomputable instance (n:ab) (c:Cell):Decidable (Shaped n c):=Classical.propDecidable _
theorem dt{p:Prop}[Decidable p](h:p):true = decide p:=(decide_eq_true h).symm
theorem df{p:Prop}[Decidable p](h:¬ p):false = decide p:=(decide_eq_false h).symm
theorem dd{p q:Prop}[Decidable p][Decidable q](h:p ↔ q):decide p = decide q:=by
 by_cases hq:q
 ·rw [decide_eq_true hq,decide_eq_true (h.2 hq)]
 ·rw [decide_eq_false hq,decide_eq_false (fun hp=>hq (h.1 hp))]
theorem db{b:Bool}{q:Prop}[Decidable q](h:b = true ↔ q):b = decide q:=by
 cases b
 ·exact df (fun hq=>by have:=h.2 hq; cases this)
 ·exact dt (h.1 rfl)
open Go Go.AW
def iy(w:Int):Nat:=if w < 0 then 0 else if 64 < w then 64 else w.toNat
theorem n8(w:Int):iy w <= 64:=by unfold iy; (repeat' split) <;> omega
def jM(w:Int)(x:Nat):Nat:=x % 2 ^ iy w
theorem Al:∀ k:Nat,k < 65 -> 18446744073709551615 / 2 ^ (64 - k) = 2 ^ k - 1:=by decide +kernel
theorem oL:∀ k:Nat,k < 65 -> 1 <= 2 ^ k /\ 2 ^ k <= 18446744073709551616:=by decide +kernel
theorem HX(w:Int):18446744073709551615 / 2 ^ (64 - iy w) = 2 ^ iy w - 1:=Al _ (by have:=n8 w; omega)
theorem HY(w:Int):2 ^ iy w - 1 < 18446744073709551616:=by have:=oL (iy w) (by have:=n8 w; omega); omega
theorem EM(w:Int)(x:Nat):x &&& (2 ^ iy w - 1) = jM w x:=Nat.and_two_pow_sub_one_eq_mod x (iy w)
theorem w5(w:Int)(x:Nat):jM w x < 2 ^ iy w:=Nat.mod_lt _ (by have:=oL (iy w) (by have:=n8 w; omega); omega)
theorem vA(w:Int)(x:Nat):jM w x < 18446744073709551616:=by have:=w5 w x; have:=oL (iy w) (by have:=n8 w; omega); omega
def jI(k x:Nat):List Int:=(List.range k).map fun i=>((x / 2 ^ i % 2:Nat):Int)
theorem CU(k x:Nat):(jI k x).length = k:=by simp [jI]
theorem Am(k x:Nat):jI (k + 1) x = jI k x ++ [((x / 2 ^ k % 2:Nat):Int)]:=by
 simp [jI,List.range_succ]
def gg(l:List Int):Nat:=l.foldr (fun b a=>2 * a + b.toNat) 0
theorem An(l:List Int)(i:Nat)(h:i < l.length):gg (l.drop i) = 2 * gg (l.drop (i + 1)) + (l.getD i 0).toNat:=by
 rw [List.drop_eq_getElem_cons h,List.getD_eq_getElem?_getD,List.getElem?_eq_getElem h]; rfl
theorem xT(l:List Int)(h:∀ b ∈ l,b.toNat <= 1):gg l < 2 ^ l.length:=by
 induction l with
 | nil=>simp [gg]
 | cons b r ih =>
  have h1:=ih (fun x hx=>h x (List.mem_cons_of_mem _ hx)); have h2:=h b (List.mem_cons_self ..)
  show 2 * gg r + b.toNat < 2 ^ (r.length + 1)
  rw [Nat.pow_succ]; omega
theorem CV{l : List Int}{i : Int}{x : Nat}(h1 : ∀ b ∈ l, 0 ≤ b ∧ b ≤ 1)(h2 : l.length ≤ 64)(hi : 0 ≤ i ∧ i < (l.length : Int))(hx : x = gg (l.drop (i + 1).toNat)) :
  ((2 * x % 18446744073709551616) + (l.getD i.toNat 0).toNat) % 18446744073709551616 = gg (l.drop (i - 1 + 1).toNat):=by
 have hs:=An l i.toNat om
 have hl:=xT (l.drop i.toNat) (fun b hb=>by have:=h1 b (List.mem_of_mem_drop hb); omega)
 have hp:=oL (l.drop i.toNat).length (by rw [List.length_drop]; omega)
 rw [show (i + 1).toNat = i.toNat + 1 by omega] at hx
 rw [show i - 1 + 1 = i by omega,hs,<- hx]
 rw [hs,<- hx] at hl
 omega
theorem bQ{l:List Int}{i:Nat}(h:i < l.length):l.getD i 0 ∈ l:=by
 rw [List.getD_eq_getElem?_getD,List.getElem?_eq_getElem h]; exact List.getElem_mem h
theorem EN(k x:Nat):∀ b ∈ jI k x,0 <= b /\ b <= 1:=by
 intro b hb
 obtain ⟨i,_,rfl⟩:=List.mem_map.1 hb
 omega
theorem Ao(k x:Nat):gg (jI k x) = x % 2 ^ k:=by
 induction k generalizing x with
 | zero=>simp [gg,jI,Nat.mod_one]
 | succ k ih =>
  have e:jI (k + 1) x = ((x % 2:Nat):Int) :: jI k (x / 2):=by
   unfold jI
   rw [List.range_succ_eq_map,List.map_cons,List.map_map]
   congr 1
   ·simp
   ·apply List.map_congr_left
    intro i _
    show (((x / 2 ^ (i + 1) % 2:Nat)):Int) = _
    rw [Nat.pow_succ,Nat.mul_comm,<- Nat.div_div_eq_div_mul]
  rw [e]
  show 2 * gg (jI k (x / 2)) + (((x % 2:Nat):Int)).toNat = _
  rw [ih,Int.toNat_natCast,Nat.pow_succ,Nat.mul_comm (2 ^ k) 2,Nat.mod_mul]; omega
def km(op:Int):Prop:=15 <= op /\ op <= 20
def KO(op:Int):Prop:=2 <= op /\ op <= 20
def Seq(op:Int):Prop:=4 <= op /\ op <= 8
def Unary(op:Int):Prop:=op = 22 \/ op = 23 \/ op = 24
def Plain(op:Int):Prop:=(KO op /\ ¬ Seq op) \/ op = 21 \/ Unary op
def cT(k:Int):Prop:=k = 1 \/ k = 2 \/ k = 3
def In(i n:Int):Prop:=0 <= i /\ i < n
theorem jE{p:Prop}(h:p:=by first | omega | (simp [-List.getD_eq_getElem?_getD]; done) | (simp [-List.getD_eq_getElem?_getD]; omega) | (unfold In at *; omega)):p:=h
instance (w:Int):Decidable (km w):=by unfold km; infer_instance
instance (w:Int):Decidable (KO w):=by unfold KO; infer_instance
instance (w:Int):Decidable (Seq w):=by unfold Seq; infer_instance
instance (w:Int):Decidable (Unary w):=by unfold Unary; infer_instance
instance (w:Int):Decidable (Plain w):=by unfold Plain; infer_instance
instance (w:Int):Decidable (cT w):=by unfold cT; infer_instance
instance (i n:Int):Decidable (In i n):=by unfold In; infer_instance
theorem Ap(op:Int):cA op ≠ 0 ↔ Plain op:=by unfold cA Plain KO Seq Unary; (repeat' split) <;> omega
open Go Go.AW
def ab.wd(n:ab)(x:Int):Int:=n.aa.getD x.toNat 0
def ab.ow(n:ab)(c:Cell):Int:=if 0 <= c.out then n.wd c.out else 0
def ab.av(n:ab)(c:Cell)(k:Nat):Int:=n.wd (c.args.getD k 0)
def fU(op a b d w:Int):Prop :=
 (op = 21 /\ a = 1 /\ b = w /\ d = w) \/ ((op = 22 \/ op = 23) /\ a <= w) \/ (op = 24 /\ w <= a) \/ (km op /\ w = 1 /\ a = b) \/ (¬ km op /\ (op < 21 \/ 24 < op) /\ a = w /\ b = w)
def jN(n:ab)(c:Cell)(k:Nat):Prop:=(k % 2 = 0 /\ n.av c k = 1) \/ (k % 2 = 1 /\ n.av c k = n.ow c)
def Fits(n:ab)(c:Cell):Prop :=
 (c.kind = 1 /\ jM (n.ow c) c.num = c.num) \/
 (c.kind = 2 /\ fU c.op (n.av c 0) (n.av c 1) (n.av c 2) (n.ow c)) \/
 (c.kind = 3 /\ ∀ k,k < c.args.length -> jN n c k) \/
 (c.kind = 4 /\ n.av c 0 = 1 /\ n.av c 1 = n.ow c /\ jM (n.ow c) c.num = c.num) \/
 (c.kind = 5 /\ n.av c 0 = n.ow c /\ n.av c 1 = n.ow c) \/
 (c.kind = 6 /\ n.av c 0 = 1 /\ (n.aA.getD c.mem.toNat default).width = n.ow c) \/
 (c.kind = 7 /\ n.av c 0 = 1 /\ (n.aA.getD c.mem.toNat default).width = n.av c 2) \/
 (c.kind = 8 /\ n.ins.getD c.num 0 = n.ow c) \/
 (c.kind = 9 /\ n.ow c = 1) \/
 (c.kind = 10 /\ (n.streams.getD c.mem.toNat default).width = n.ow c)
theorem zE{p:Prop}(h:p:=by ((simp only [Fits,fU,km, *,Int.reduceEq,Bool.not_eq_true,false_and,true_and,and_true,and_false,or_false,false_or,ne_eq]) <;> omega)):p:=h
instance (op a b d w:Int):Decidable (fU op a b d w):=by unfold fU; infer_instance
noncomputable instance (n:ab) (c:Cell):Decidable (Fits n c):=Classical.propDecidable _
structure BN(n:ab)(c:Cell):Prop where
 out:c.out = -1 /\ c.kind = 7 \/ (0 <= c.out /\ c.out < n.aa.length) /\ c.kind ≠ 7
 args:∀ x ∈ c.args,0 <= x /\ x < n.aa.length
theorem BN.arg{n:ab}{c:Cell}(h:BN n c){k:Nat}(hk:k < c.args.length):0 <= c.args.getD k 0 /\ c.args.getD k 0 < n.aa.length:=h.args _ (bQ hk)
section
variable {n:ab} {c:Cell} (h:Shaped n c)
include h
theorem Shaped.k2(k:c.kind = 2):((2 <= c.op /\ c.op <= 3 \/ 9 <= c.op /\ c.op <= 20) /\ c.args.length = 2) \/ (c.op = 21 /\ c.args.length = 3) \/ (22 <= c.op /\ c.op <= 24 /\ c.args.length = 1):=by
 simp only [Shaped,k,Int.reduceEq,false_and,true_and,false_or,or_false] at h
 obtain ⟨h1,h2,_⟩:=h
 unfold cA at h1 h2
 split at h2
 ·omega
 ·split at h2
  ·omega
  ·split at h2 <;> omega
theorem Shaped.k3(k:c.kind = 3):2 <= c.args.length /\ c.args.length % 2 = 0:=by simp only [Shaped,k,Int.reduceEq,false_and,true_and,false_or,or_false] at h; omega
theorem Shaped.k4(k:c.kind = 4):c.args.length = 2:=by simp only [Shaped,k,Int.reduceEq,false_and,true_and,false_or,or_false] at h; omega
theorem Shaped.k5(k:c.kind = 5):c.args.length = 2 /\ 4 <= c.op /\ c.op <= 8 /\ 1 <= c.num /\ c.num <= 4096:=by simp only [Shaped,k,Int.reduceEq,false_and,true_and,false_or,or_false] at h; omega
theorem Shaped.k6(k:c.kind = 6):c.args.length = 2 /\ 0 <= c.mem /\ c.mem < n.aA.length:=by simp only [Shaped,k,Int.reduceEq,false_and,true_and,false_or,or_false] at h; omega
theorem Shaped.k7(k:c.kind = 7):c.args.length = 3 /\ 0 <= c.mem /\ c.mem < n.aA.length:=by simp only [Shaped,k,Int.reduceEq,false_and,true_and,false_or,or_false] at h; omega
theorem Shaped.k8(k:c.kind = 8):c.num < n.ins.length:=by simp only [Shaped,k,Int.reduceEq,false_and,true_and,false_or,or_false] at h; omega
theorem Shaped.Rw(k:c.kind = 10):0 <= c.mem /\ c.mem < n.streams.length:=by simp only [Shaped,k,Int.reduceEq,false_and,true_and,false_or,or_false] at h; omega
theorem Shaped.kind:1 <= c.kind /\ c.kind <= 10:=by unfold Shaped at h; omega
end
theorem bR{α:Type}(l:List α)(i j:Nat)(v d:α):(l.set i v).getD j d = if i = j /\ i < l.length then v else l.getD j d:=by
 rw [List.getD_eq_getElem?_getD,List.getD_eq_getElem?_getD,List.getElem?_set]
 by_cases h:i = j
 ·subst h
  by_cases h2:i < l.length
  ·simp [h2]
  ·simp [h2]
 ·simp [h]
theorem CW{α:Type}{l:List α}{i:Nat}{d v:α}{f:Nat -> α}(h:∀ j,j < i -> l.getD j d = f j)(hv:v = f i)(hi:i < l.length):∀ j,j < i + 1 -> (l.set i v).getD j d = f j:=by
 intro j hj
 rw [bR]
 split
 ·next e=>rw [<- e.1]; exact hv
 ·exact h j om
theorem EO{n:ab}{c:Cell}{i:Nat}(h:∀ k,k < i -> jN n c k)(hi:jN n c i):∀ k,k < i + 1 -> jN n c k:=by
 intro k hk
 rcases Nat.lt_succ_iff_lt_or_eq.1 hk with h1 | h1
 ·exact h k h1
 ·exact h1 ▸ hi
open Go Go.AW
section
variable {α:Type} {d:α} {p:α -> Bool} {l:List α}
def w6(p:α -> Bool)(l:List α):Int:=if l.any p then (l.findIdx p:Int) else -1
theorem qH{i:Nat}(h0:∀ j,j < i -> p (l.getD j d) = false)(hi:i < l.length)(h:p (l.getD i d) = true):(i:Int) = w6 p l:=by
 have e:l.findIdx p = i:=by
  rw [List.findIdx_eq hi]
  rw [List.getD_eq_getElem?_getD,List.getElem?_eq_getElem hi] at h
  refine ⟨h,fun j hj=>?_⟩
  have:=h0 j hj
  rw [List.getD_eq_getElem?_getD,List.getElem?_eq_getElem om] at this
  exact this
 have ha:l.any p = true:=by
  rw [List.any_eq_true]
  refine ⟨l.getD i d,?_,h⟩
  rw [List.getD_eq_getElem?_getD,List.getElem?_eq_getElem hi]; exact List.getElem_mem hi
 unfold w6; rw [if_pos ha,e]
theorem su(h0:∀ j,j < l.length -> p (l.getD j d) = false):-1 = w6 p l:=by
 have ha:¬ (l.any p = true):=by
  rw [List.any_eq_true]
  rintro ⟨x,hx,hp⟩
  obtain ⟨i,hi,rfl⟩:=List.mem_iff_getElem.1 hx
  have:=h0 i hi
  rw [List.getD_eq_getElem?_getD,List.getElem?_eq_getElem hi] at this
  exact absurd (hp.symm.trans this) ae
 unfold w6; rw [if_neg ha]
theorem um:decide (0 <= w6 p l) = l.any p:=by
 unfold w6
 by_cases h:l.any p = true
 ·rw [if_pos h,h]; simp
 ·rw [if_neg h]; simp only [Bool.not_eq_true] at h; rw [h]; rfl
theorem oM{i:Nat}(h:∀ j,j < i -> p (l.getD j d) = false)(hi:p (l.getD i d) = false):∀ j,j < i + 1 -> p (l.getD j d) = false:=by
 intro k hk
 rcases Nat.lt_succ_iff_lt_or_eq.1 hk with h1 | h1
 ·exact h k h1
 ·exact h1 ▸ hi
theorem ic{i:Nat}(h:i < l.length):l.getD i d ∈ l:=by
 rw [List.getD_eq_getElem?_getD,List.getElem?_eq_getElem h]; exact List.getElem_mem h
theorem p3{ls:List (List α)}{i:Nat}(hi:i < ls.length):(ls.take (i + 1)).flatten = (ls.take i).flatten ++ ls.getD i []:=by
 rw [List.take_add_one,List.flatten_append,List.getD_eq_getElem?_getD,List.getElem?_eq_getElem hi]; simp
theorem ke(ls:List (List α))(i:Nat):(ls.take i).flatten.length <= ls.flatten.length:=by
 conv=>rhs; rw [<- List.take_append_drop i ls,List.flatten_append,List.length_append]
 omega
end
open Go Go.AW
def mM(m:dW):Prop:=nW m.name /\ dO m.width /\ 1 <= m.len /\ m.len <= 4096 /\ m.kind = 0 /\ m.uk = 0
def lV(n:ab)(i:Nat):Prop :=
 nW (n.streams.getD i default).name /\ dO (n.streams.getD i default).width /\ In (n.ba.getD i 0) n.aa.length /\
 ((n.streams.getD i default).out = true -> In (n.data.getD i 0) n.aa.length) /\ ((n.streams.getD i default).out = false -> n.data.getD i 0 = -1)
def jO(n:ab)(c:Cell):Prop:=(∀ x ∈ c.args,In x n.aa.length) /\ Shaped n c /\ (c.kind = 7 -> c.out = -1) /\ (c.kind ≠ 7 -> In c.out n.aa.length)
def dC(l:List Cell)(w:Nat):Nat:=l.countP (fun c=>decide (c.kind ≠ 7 /\ c.out = (w:Int)))
structure bg(n:ab):Prop where
 name:nW n.name
 dH:n.cells.length <= 65536
 dr:n.aa.length <= 65536
 kq:n.aA.length <= 64
 cG:n.streams.length <= 64
 dM:n.ba.length = n.streams.length
 gM:n.data.length = n.streams.length
 wide:∀ j,j < (n.aa ++ n.ins).length -> dO ((n.aa ++ n.ins).getD j 0)
 aA:∀ j,j < n.aA.length -> mM (n.aA.getD j default)
 strs:∀ j,j < n.streams.length -> lV n j
 freeze:In n.freeze n.aa.length
 done:In n.done n.aa.length
 bF:∀ r ∈ n.bF,In r n.aa.length
 cells:∀ j,j < n.cells.length -> jO n (n.cells.getD j default)
 jP:∀ w,w < n.aa.length -> dC n.cells w = 1
noncomputable instance (n:ab):Decidable (bg n):=Classical.propDecidable _
theorem eK{p:Nat -> Prop}{i:Nat}(h:∀ j,j < i -> p j)(hi:p i):∀ j,j < i + 1 -> p j:=by
 intro k hk
 rcases Nat.lt_succ_iff_lt_or_eq.1 hk with h1 | h1
 ·exact h k h1
 ·exact h1 ▸ hi
theorem gN{l:List Cell}{i:Nat}(hi:i < l.length)(w:Nat):dC (l.take (i + 1)) w = dC (l.take i) w + if (l.getD i default).kind ≠ 7 /\ (l.getD i default).out = (w:Int) then 1 else 0:=by
 rw [List.take_add_one,List.getElem?_eq_getElem hi,List.getD_eq_getElem?_getD,List.getElem?_eq_getElem hi]
 simp only [dC,List.countP_append,Option.toList_some,List.countP_cons,List.countP_nil,Option.getD_some,Nat.zero_add,decide_eq_true_eq]
theorem sv(l:List Cell)(i w:Nat):dC (l.take i) w <= dC l w:=by
 conv=>rhs; rw [<- List.take_append_drop i l]
 simp only [dC,List.countP_append]; omega
def xv(n:ab)(i:Nat)(d:List Bool):Prop:=∀ w,w < n.aa.length -> dC (n.cells.take i) w <= 1 /\ (d.getD w false = true ↔ dC (n.cells.take i) w = 1)
theorem xv.init(n:ab):xv n 0 (List.replicate n.aa.length false):=by
 intro w hw
 refine ⟨by simp [dC],?_⟩
 rw [List.getD_eq_getElem?_getD,List.getElem?_replicate,if_pos hw]; simp [dC]
theorem xv.skip{n:ab}{i:Nat}{d:List Bool}(h:xv n i d)(hi:i < n.cells.length)(h7:(n.cells.getD i default).kind = 7):xv n (i + 1) d:=by
 intro w hw
 rw [gN hi,if_neg (fun h=>h.1 h7)]
 exact h w hw
theorem xv.step{n : ab}{i : Nat}{d : List Bool}(h : xv n i d)(hi : i < n.cells.length)(h7 : (n.cells.getD i default).kind ≠ 7)(ho : In (n.cells.getD i default).out n.aa.length)
  (hl:d.length = n.aa.length) (hn:d.getD (n.cells.getD i default).out.toNat false = false):xv n (i + 1) (d.set (n.cells.getD i default).out.toNat true):=by
 intro w hw
 have hh:=h w hw
 rw [gN hi,bR]
 unfold In at ho
 by_cases e:(n.cells.getD i default).out = (w:Int)
 ·rw [if_pos ⟨h7,e⟩,if_pos ⟨om,om⟩]
  have e2:(n.cells.getD i default).out.toNat = w:=by omega
  rw [e2] at hn
  have h0:dC (n.cells.take i) w ≠ 1:=fun h1=>by have:=hh.2.2 h1; rw [hn] at this; cases this
  have Om:=hh.1
  exact ⟨om,by simp; omega⟩
 ·rw [if_neg (fun h=>e h.2),if_neg om]
  exact hh
theorem xv.dup{n : ab}{i : Nat}{d : List Bool}(h : xv n i d)(hi : i < n.cells.length)(h7 : (n.cells.getD i default).kind ≠ 7)(ho : In (n.cells.getD i default).out n.aa.length)
  (hn:d.getD (n.cells.getD i default).out.toNat false = true) (hf:bg n):False:=by
 unfold In at ho
 have hh:=h (n.cells.getD i default).out.toNat om
 have h1:=hh.2.1 hn
 have h2:=gN hi (n.cells.getD i default).out.toNat
 rw [if_pos ⟨h7,om⟩,h1] at h2
 have h3:=sv n.cells (i + 1) (n.cells.getD i default).out.toNat
 have h4:=hf.jP (n.cells.getD i default).out.toNat om
 omega
theorem xv.all{n:ab}{d:List Bool}(h:xv n n.cells.length d)(hl:d.length = n.aa.length):(!(d.any (fun x=>false == x))) = true ↔ ∀ w,w < n.aa.length -> dC n.cells w = 1:=by
 unfold xv at h
 rw [List.take_length] at h
 rw [Bool.not_eq_true',List.any_eq_false]
 constructor
 ·intro ha w hw
  refine (h w hw).2.1 ?_
  have:=ha (d.getD w false) (ic om)
  cases hd:d.getD w false
  ·rw [hd] at this; exact absurd rfl this
  ·rfl
 ·intro ha x hx
  obtain ⟨w,hw,rfl⟩:=List.mem_iff_getElem.1 hx
  have:=(h w om).2.2 (ha w om)
  rw [List.getD_eq_getElem?_getD,List.getElem?_eq_getElem hw] at this
  have t:d[w] = true:=this
  rw [t]; decide
theorem p4{l:List Int}{p:Int -> Prop}[DecidablePred p]:(l.any (fun z=>!decide (p z))) = true ↔ ¬ ∀ z ∈ l,p z:=by
 rw [List.any_eq_true]
 constructor
 ·rintro ⟨x,hx,hp⟩ h
  simp [h x hx] at hp
 ·intro h
  refine Classical.byContradiction fun hh=>h fun z hz=>Classical.byContradiction fun hp=>hh ⟨z,hz,by simp [hp]⟩
theorem mq{l:List Int}{p:Int -> Prop}[DecidablePred p](h:(l.any (fun z=>!decide (p z))) = false):∀ z ∈ l,p z:=by
 refine Classical.byContradiction fun hh=>?_
 rw [p4.2 hh] at h; cases h
open Go Go.AW
def oN(n:ab)(i:Nat):Prop:=n.wd (n.ba.getD i 0) = 1 /\ ((n.streams.getD i default).out = true -> n.wd (n.data.getD i 0) = (n.streams.getD i default).width)
structure Fit(n:ab):Prop where
 freeze:n.wd n.freeze = 1
 done:n.wd n.done = 1
 strs:∀ j,j < n.streams.length -> oN n j
 cells:∀ j,j < n.cells.length -> Fits n (n.cells.getD j default)
noncomputable instance (n:ab):Decidable (Fit n):=Classical.propDecidable _
theorem jO.Oo{n:ab}{c:Cell}(h:jO n c):BN n c:=by
 obtain ⟨h1,h2,h3,h4⟩:=h
 refine ⟨?_,h1⟩
 by_cases h7:c.kind = 7
 ·exact .inl ⟨h3 h7,h7⟩
 ·exact .inr ⟨h4 h7,h7⟩
theorem bg.cell{n:ab}(h:bg n){c:Cell}(hc:c ∈ n.cells):jO n c:=by
 obtain ⟨i,hi,rfl⟩:=List.mem_iff_getElem.1 hc
 have:=h.cells i hi
 rw [List.getD_eq_getElem?_getD,List.getElem?_eq_getElem hi] at this
 exact this
theorem EP{α:Type}{l:List α}{p:α -> Prop}[DecidablePred p]:(l.any (fun z=>!decide (p z))) = true ↔ ¬ ∀ z ∈ l,p z:=by
 rw [List.any_eq_true]
 constructor
 ·rintro ⟨x,hx,hp⟩ h
  simp [h x hx] at hp
 ·intro h
  refine Classical.byContradiction fun hh=>h fun z hz=>Classical.byContradiction fun hp=>hh ⟨z,hz,by simp [hp]⟩
theorem xU{α:Type}{l:List α}{p:α -> Prop}{d:α}:(∀ j,j < l.length -> p (l.getD j d)) ↔ ∀ z ∈ l,p z:=by
 constructor
 ·intro h z hz
  obtain ⟨i,hi,rfl⟩:=List.mem_iff_getElem.1 hz
  have:=h i hi
  rw [List.getD_eq_getElem?_getD,List.getElem?_eq_getElem hi] at this
  exact this
 ·exact fun h j hj=>h _ (ic hj)
theorem xV{n:ab}(h1:n.wd n.freeze = 1)(h2:n.wd n.done = 1)(h3:∀ j,j < n.streams.length -> oN n j):(!(n.cells.any (fun z=>!decide (Fits n z)))) = true ↔ Fit n:=by
 rw [Bool.not_eq_true',<- Bool.not_eq_true,EP,Classical.not_not,<- xU (d:=default)]
 exact ⟨fun h=>⟨h1,h2,h3,h⟩,fun h=>h.cells⟩
open Go Go.AW
theorem length_le_of_subset{α : Type}[DecidableEq α] : ∀ {l m : List α}, l.Nodup → (∀ x ∈ l, x ∈ m) → l.length ≤ m.length
 | [],_,_,_=>Nat.zero_le _
 | a :: t,m,hn,hs=>by
  have ha:=hs a (List.mem_cons_self ..)
  obtain ⟨h1,h2⟩:=List.nodup_cons.1 hn
  have:=length_le_of_subset (l:=t) (m:=m.erase a) h2 (fun x hx=>(List.mem_erase_of_ne (by rintro rfl; exact h1 hx)).2 (hs x (List.mem_cons_of_mem _ hx)))
  have hm:0 < m.length:=List.length_pos_of_mem ha
  rw [List.length_erase_of_mem ha] at this
  simp only [List.length_cons]; omega
def ab.cell(n:ab)(i:Int):Cell:=n.cells.getD i.toNat default
def cJ(n:ab)(i w:Int):Prop:=(0 <= i /\ i < n.cells.length) /\ (n.cell i).kind ≠ 7 /\ (n.cell i).out = w
def bD(n:ab)(i:Int):Prop:=(0 <= i /\ i < n.cells.length) /\ cT (n.cell i).kind
def BO(n:ab)(w:Int):Prop:=∃ j,bD n j /\ (n.cell j).out = w
noncomputable instance (n:ab):DecidablePred (BO n):=fun _=>Classical.propDecidable _
noncomputable instance (n:ab) (i:Int):Decidable (bD n i):=Classical.propDecidable _
theorem bD.kG{n:ab}{i:Int}(h:bD n i):cJ n i (n.cell i).out:=⟨h.1,fun h7=>by have:=h.2; rw [h7] at this; revert this; unfold cT; omega,rfl⟩
theorem oO(n:ab)(i:Nat):n.cell (i:Int) = n.cells.getD i default:=rfl
theorem xW{l:List Cell}{i j w:Nat}(h:i <= j):dC (l.take i) w <= dC (l.take j) w:=by
 have:=sv (l.take j) i w
 rwa [List.take_take,Nat.min_eq_left h] at this
section
variable {n:ab} (hf:bg n)
include hf
theorem bg.cellAt{i:Int}(h:0 <= i /\ i < n.cells.length):jO n (n.cell i):=hf.cells i.toNat om
theorem bg.jh{i w:Int}(h:cJ n i w):In w n.aa.length:=h.2.2 ▸ (hf.cellAt h.1).2.2.2 h.2.1
theorem bg.pR{i x:Int}(h:0 <= i /\ i < n.cells.length)(hx:x ∈ (n.cell i).args):In x n.aa.length:=(hf.cellAt h).1 x hx
theorem bg.unique{i j w:Int}(h1:cJ n i w)(h2:cJ n j w):i = j:=by
 have key:∀ {i j:Int},cJ n i w -> cJ n j w -> i < j -> False:=by
  intro i j h1 h2 gG
  have hw:=hf.jh h1
  unfold In at hw
  obtain ⟨a1,a2,a3⟩:=h1
  obtain ⟨b1,b2,b3⟩:=h2
  have e1:=gN (l:=n.cells) (i:=i.toNat) om w.toNat
  have e2:=gN (l:=n.cells) (i:=j.toNat) om w.toNat
  rw [if_pos ⟨a2,by show (n.cell i).out = _; omega⟩] at e1
  rw [if_pos ⟨b2,by show (n.cell j).out = _; omega⟩] at e2
  have e3:=xW (l:=n.cells) (i:=i.toNat + 1) (j:=j.toNat) (w:=w.toNat) om
  have e4:=sv n.cells (j.toNat + 1) w.toNat
  have e5:=hf.jP w.toNat om
  omega
 rcases Int.lt_trichotomy i j with h | h | h
 ·exact (key h1 h2 h).elim
 ·exact h
 ·exact (key h2 h1 h).elim
theorem bg.kH{w:Int}(hw:In w n.aa.length):∃ i,cJ n i w:=by
 unfold In at hw
 have h:=hf.jP w.toNat om
 have hp:0 < dC n.cells w.toNat:=by omega
 unfold dC at hp
 obtain ⟨c,hc,hp⟩:=List.countP_pos_iff.1 hp
 obtain ⟨i,hi,rfl⟩:=List.mem_iff_getElem.1 hc
 simp only [decide_eq_true_eq] at hp
 have e:n.cell (i:Int) = n.cells[i]:=by rw [oO,List.getD_eq_getElem?_getD,List.getElem?_eq_getElem hi]; rfl
 refine ⟨(i:Int),⟨om,om⟩,?_⟩
 rw [e]; exact ⟨hp.1,om⟩
end
def fK(n:ab)(k:Nat)(l:List Bool):Prop:=∀ w:Int,In w n.aa.length -> (l.getD w.toNat false = true ↔ ∃ j,bD n j /\ j < k /\ (n.cell j).out = w)
theorem fK.init(n:ab):fK n 0 (List.replicate n.aa.length false):=by
 intro w hw
 unfold In at hw
 rw [List.getD_eq_getElem?_getD,List.getElem?_replicate,if_pos om]
 exact ⟨fun h=>(by cases h),fun ⟨j,h1,h2,_⟩=>(by have:=h1.1; omega)⟩
theorem fK.skip{n:ab}{k:Nat}{l:List Bool}(h:fK n k l)(hc:¬ cT (n.cells.getD k default).kind):fK n (k + 1) l:=by
 intro w hw
 rw [h w hw]
 constructor
 ·rintro ⟨j,h1,h2,h3⟩; exact ⟨j,h1,om,h3⟩
 ·rintro ⟨j,h1,h2,h3⟩
  refine ⟨j,h1,?_,h3⟩
  rcases Int.lt_or_eq_of_le (show j <= k by omega) with h' | h'
  ·exact h'
  ·subst h'; exact absurd h1.2 hc
theorem fK.step{n : ab}{k : Nat}{l : List Bool}(h : fK n k l)(hk : k < n.cells.length)(hl : l.length = n.aa.length)(hc : cT (n.cells.getD k default).kind)(ho : In (n.cells.getD k default).out n.aa.length) :
  fK n (k + 1) (l.set (n.cells.getD k default).out.toNat true):=by
 intro w hw
 unfold In at ho
 have rZ:=hw
 unfold In at rZ
 rw [bR]
 by_cases e:(n.cells.getD k default).out = w
 ·rw [if_pos ⟨om,om⟩]
  exact ⟨fun _=>⟨(k:Int),⟨⟨om,om⟩,hc⟩,om,e⟩,fun _=>rfl⟩
 ·rw [if_neg om,h w hw]
  constructor
  ·rintro ⟨j,h1,h2,h3⟩; exact ⟨j,h1,om,h3⟩
  ·rintro ⟨j,h1,h2,h3⟩
   refine ⟨j,h1,?_,h3⟩
   rcases Int.lt_or_eq_of_le (show j <= k by omega) with h' | h'
   ·exact h'
   ·subst h'; exact absurd h3 e
theorem fK.all{n:ab}{l:List Bool}(h:fK n n.cells.length l){w:Int}(hw:In w n.aa.length):l.getD w.toNat false = true ↔ BO n w:=by
 rw [h w hw]
 exact ⟨fun ⟨j,h1,_,h3⟩=>⟨j,h1,h3⟩,fun ⟨j,h1,h3⟩=>⟨j,h1,by have:=h1.1; omega,h3⟩⟩
def ju(n:ab)(k:Nat):List Int:=((List.range k).filter (fun i=>!decide (cT (n.cells.getD i default).kind))).map (fun (i:Nat)=>(i:Int))
theorem vB(n:ab)(k:Nat):ju n (k + 1) = ju n k ++ if cT (n.cells.getD k default).kind then [] else [(k:Int)]:=by
 unfold ju
 rw [List.range_succ,List.filter_append,List.map_append]
 congr 1
 by_cases h:cT (n.cells.getD k default).kind
 ·rw [if_pos h]; simp [-List.getD_eq_getElem?_getD,h]
 ·rw [if_neg h]; simp [-List.getD_eq_getElem?_getD,h]
theorem kr{n:ab}{k:Nat}{x:Int}:x ∈ ju n k ↔ (0 <= x /\ x < k) /\ ¬ cT (n.cell x).kind:=by
 unfold ju
 rw [List.mem_map]
 constructor
 ·rintro ⟨i,h,rfl⟩
  rw [List.mem_filter,List.mem_range] at h
  exact ⟨⟨om,om⟩,by rw [oO]; simpa [-List.getD_eq_getElem?_getD] using h.2⟩
 ·rintro ⟨h1,h2⟩
  refine ⟨x.toNat,?_,om⟩
  rw [List.mem_filter,List.mem_range]
  have h3:¬ cT (n.cells.getD x.toNat default).kind:=h2
  exact ⟨om,by simpa [-List.getD_eq_getElem?_getD] using h3⟩
theorem uo(n:ab)(k:Nat):(ju n k).Nodup:=by
 unfold ju
 rw [List.Nodup,List.pairwise_map]
 refine List.Pairwise.imp (fun {a b} h=>?_) (List.Pairwise.filter _ List.nodup_range)
 omega
theorem ER(n:ab)(k:Nat):(ju n k).length <= k:=by
 unfold ju
 rw [List.length_map]
 exact Nat.le_trans (List.length_filter_le ..) (by simp)
def Open(n:ab)(done:List Int)(x:Int):Prop:=BO n x /\ ∀ j ∈ done,(n.cell j).out ≠ x
noncomputable instance (n:ab) (done:List Int):DecidablePred (Open n done):=fun _=>Classical.propDecidable _
noncomputable def ef(n:ab)(done:List Int)(i:Int):Nat:=(n.cell i).args.countP (fun x=>decide (Open n done x))
theorem ES(n:ab)(i:Int):ef n [] i = (n.cell i).args.countP (fun x=>decide (BO n x)):=by
 unfold ef
 apply List.countP_congr
 intro x _
 simp [Open]
theorem p5{n:ab}{done:List Int}{i:Int}:ef n done i = 0 ↔ ∀ x ∈ (n.cell i).args,BO n x -> ∃ j ∈ done,(n.cell j).out = x:=by
 unfold ef
 rw [List.countP_eq_zero]
 constructor
 ·intro h x hx hc
  refine Classical.byContradiction fun hh=>h x hx (decide_eq_true ?_)
  exact ⟨hc,fun j hj e=>hh ⟨j,hj,e⟩⟩
 ·intro h x hx hh
  have hh:=of_decide_eq_true hh
  obtain ⟨j,hj,e⟩:=h x hx hh.1
  exact hh.2 j hj e
theorem CX{n:ab}(hf:bg n){done:List Int}{i0:Int}(h0:bD n i0)(hd:∀ j ∈ done,bD n j)(hn:i0 ∉ done)(i:Int):ef n done i = ef n (done ++ [i0]) i + (n.cell i).args.count (n.cell i0).out:=by
 unfold ef
 generalize (n.cell i).args = l
 induction l with
 | nil=>rfl
 | cons x r ih =>
  rw [List.countP_cons,List.countP_cons,List.count_cons,ih]
  simp only [decide_eq_true_eq,beq_iff_eq]
  by_cases e:x = (n.cell i0).out
  ·have h1:Open n done x:=by
    refine ⟨⟨i0,h0,e.symm⟩,fun j hj e'=>hn ?_⟩
    have:=hf.unique (hd j hj).kG (by rw [e',e]; exact h0.kG)
    exact this ▸ hj
   have h2:¬ Open n (done ++ [i0]) x:=fun h=>h.2 i0 (by simp) e.symm
   rw [if_pos h1,if_neg h2,if_pos e]; omega
  ·have h1:Open n done x ↔ Open n (done ++ [i0]) x:=by
    constructor
    ·rintro ⟨a,b⟩
     refine ⟨a,fun j hj=>?_⟩
     rcases List.mem_append.1 hj with h | h
     ·exact b j h
     ·rw [List.mem_singleton.1 h]; exact fun h=>e h.symm
    ·rintro ⟨a,b⟩
     exact ⟨a,fun j hj=>b j (List.mem_append.2 (.inl hj))⟩
   rw [if_neg e]
   by_cases hh:Open n done x
   ·rw [if_pos hh,if_pos (h1.1 hh)]; omega
   ·rw [if_neg hh,if_neg (fun h=>hh (h1.2 h))]; omega
open Go Go.AW
theorem jQ{α:Type}{l:List α}{q:Nat}{d:α}(h:q < l.length):l.take (q + 1) = l.take q ++ [l.getD q d]:=by
 rw [List.take_add_one,List.getElem?_eq_getElem h,List.getD_eq_getElem?_getD,List.getElem?_eq_getElem h]; rfl
def DW(n:ab)(k:Nat):Nat:=((n.cells.take k).map (fun c=>c.args.length)).sum
theorem uq{n:ab}{k:Nat}(h:k < n.cells.length):DW n (k + 1) = DW n k + (n.cells.getD k default).args.length:=by
 unfold DW
 rw [jQ (d:=default) h,List.map_append,List.sum_append]; simp
theorem ET{n:ab}(hs:n.Small)(k:Nat):DW n k <= 8796093022208:=by
 refine Nat.le_trans ?_ hs.DW
 conv=>rhs; rw [<- List.take_append_drop k n.cells,List.map_append,List.sum_append]
 exact Nat.le_add_right ..
structure BI(n:ab)(k:Nat)(rem:List Int)(eP:List (List Int))(ready:List Int):Prop where
 mN:∀ i,bD n i -> i < k -> rem.getD i.toNat 0 = (ef n [] i:Int)
 zero:∀ i:Int,(k:Int) <= i -> i < n.cells.length -> rem.getD i.toNat 0 = 0
 J8:∀ w x,In w n.aa.length -> x ∈ eP.getD w.toNat [] -> bD n x /\ x < k
 Oq:∀ w x,In w n.aa.length -> BO n w -> bD n x -> x < k -> (eP.getD w.toNat []).count x = (n.cell x).args.count w
 nd:ready.Nodup
 rd:∀ x,x ∈ ready ↔ bD n x /\ x < k /\ ef n [] x = 0
 ul:∀ w,In w n.aa.length -> (eP.getD w.toNat []).length <= DW n k
 rl:ready.length <= k
theorem BI.init(n:ab):BI n 0 (List.replicate n.cells.length 0) (List.replicate n.aa.length []) [] where
 mN:=fun i h h0=>by have:=h.1; omega
 zero:=fun i h1 h2=>by rw [List.getD_eq_getElem?_getD,List.getElem?_replicate]; split <;> rfl
 J8:=fun w x hw hx=>by
  rw [List.getD_eq_getElem?_getD,List.getElem?_replicate] at hx
  split at hx <;> cases hx
 Oq:=fun w x hw _ h h0=>by have:=h.1; omega
 nd:=List.nodup_nil
 rd:=fun x=>⟨fun h=>(by cases h),fun ⟨h,h0,_⟩=>by have:=h.1; omega⟩
 ul:=fun w hw=>by rw [List.getD_eq_getElem?_getD,List.getElem?_replicate]; split <;> exact Nat.zero_le _
 rl:=Nat.le_refl _
theorem n9{n:ab}{k:Nat}{x:Int}(hc:¬ cT (n.cells.getD k default).kind)(h:bD n x)(hx:x < ((k + 1:Nat):Int)):x < k:=by
 rcases Int.lt_or_eq_of_le (show x <= k by omega) with h' | h'
 ·exact h'
 ·subst h'; exact absurd h.2 hc
theorem BI.skip{n:ab}{k:Nat}{rem:List Int}{eP:List (List Int)}{ready:List Int}(h:BI n k rem eP ready)(hk:k < n.cells.length)(hc:¬ cT (n.cells.getD k default).kind):BI n (k + 1) rem eP ready where
 mN:=fun i hi h0=>h.mN i hi (n9 hc hi h0)
 zero:=fun i h1 h2=>h.zero i om h2
 J8:=fun w x hw hx=>⟨(h.J8 w x hw hx).1,by have:=(h.J8 w x hw hx).2; omega⟩
 Oq:=fun w x hw hC hx h0=>h.Oq w x hw hC hx (n9 hc hx h0)
 nd:=h.nd
 rd:=fun x=>by
  rw [h.rd x]
  exact ⟨fun ⟨a,b,c⟩=>⟨a,om,c⟩,fun ⟨a,b,c⟩=>⟨a,n9 hc a b,c⟩⟩
 ul:=fun w hw=>by have:=h.ul w hw; rw [uq hk]; omega
 rl:=by have:=h.rl; omega
structure BJ(n:ab)(k q:Nat)(rem:List Int)(eP:List (List Int))(l3:List Int)(gO:List (List Int)):Prop where
 KP:∀ i:Int,0 <= i -> i ≠ k -> l3.getD i.toNat 0 = rem.getD i.toNat 0
 own:l3.getD k 0 = ((((n.cells.getD k default).args.take q).countP (fun x=>decide (BO n x)):Nat):Int)
 us:∀ w,In w n.aa.length -> gO.getD w.toNat [] = eP.getD w.toNat [] ++ List.replicate (if BO n w then ((n.cells.getD k default).args.take q).count w else 0) (k:Int)
theorem BJ.init{n:ab}{k:Nat}{rem:List Int}{eP:List (List Int)}{ready:List Int}(h:BI n k rem eP ready)(hk:k < n.cells.length):BJ n k 0 rem eP rem eP where
 KP:=fun _ _ _=>rfl
 own:=h.zero k (Int.le_refl _) om
 us:=fun w _=>by simp
section
variable {n:ab} {k q:Nat} {rem l3:List Int} {eP gO:List (List Int)}
theorem BJ.skip(h:BJ n k q rem eP l3 gO)(hq:q < (n.cells.getD k default).args.length)(hx:¬ BO n ((n.cells.getD k default).args.getD q 0)):BJ n k (q + 1) rem eP l3 gO where
 KP:=h.KP
 own:=by rw [h.own,jQ (d:=0) hq,List.countP_append,List.countP_cons,decide_eq_false hx]; simp
 us:=fun w hw=>by
  rw [h.us w hw]
  by_cases hC:BO n w
  ·rw [if_pos hC,if_pos hC,jQ (d:=0) hq,List.count_append,List.count_cons]
   have:((n.cells.getD k default).args.getD q 0 == w) = false:=by
    rw [beq_eq_false_iff_ne]; rintro rfl; exact hx hC
   rw [this]; simp
  ·rw [if_neg hC,if_neg hC]
theorem BJ.step(h : BJ n k q rem eP l3 gO)(hk : k < n.cells.length)(hl : l3.length = n.cells.length)(hlu : gO.length = n.aa.length)(hq : q < (n.cells.getD k default).args.length)
  (hi:In ((n.cells.getD k default).args.getD q 0) n.aa.length) (hx:BO n ((n.cells.getD k default).args.getD q 0)) :
  BJ n k (q + 1) rem eP (l3.set k (l3.getD k 0 + 1)) (gO.set ((n.cells.getD k default).args.getD q 0).toNat (gO.getD ((n.cells.getD k default).args.getD q 0).toNat [] ++ [(k:Int)])) where
 KP:=fun i h0 h1=>by rw [bR,if_neg om]; exact h.KP i h0 h1
 own:=by
  rw [bR,if_pos ⟨rfl,om⟩,h.own,jQ (d:=0) hq,List.countP_append,List.countP_cons,decide_eq_true hx]; simp
 us:=fun w hw=>by
  unfold In at hi
  have rZ:=hw
  unfold In at rZ
  rw [bR,jQ (d:=0) hq,List.count_append,List.count_cons]
  by_cases e:(n.cells.getD k default).args.getD q 0 = w
  ·rw [e] at hx hi ⊢
   rw [if_pos ⟨rfl,om⟩,h.us w hw,if_pos hx,if_pos hx,List.append_assoc]
   congr 1
   rw [beq_self_eq_true,if_pos rfl]
   show _ = List.replicate (_ + 1) _
   rw [List.replicate_succ']
  ·have:((n.cells.getD k default).args.getD q 0 == w) = false:=by rw [beq_eq_false_iff_ne]; exact e
   rw [if_neg om,h.us w hw,this]; simp
theorem BJ.KQ(h:BJ n k q rem eP l3 gO):0 <= l3.getD k 0 /\ l3.getD k 0 <= (q:Int):=by
 rw [h.own]
 have:=Nat.le_trans (List.countP_le_length (p:=fun x=>decide (BO n x)) (l:=(n.cells.getD k default).args.take q)) (List.length_take_le ..)
 omega
variable {ready:List Int}
theorem BJ.len(hb:BI n k rem eP ready)(h:BJ n k q rem eP l3 gO){w:Int}(hw:In w n.aa.length):(gO.getD w.toNat []).length <= DW n k + q:=by
 rw [h.us w hw,List.length_append,List.length_replicate]
 have:=hb.ul w hw
 have h2:((n.cells.getD k default).args.take q).count w <= q:=Nat.le_trans List.count_le_length (by rw [List.length_take]; omega)
 split <;> omega
theorem BJ.fin(hb : BI n k rem eP ready)(hk : k < n.cells.length)(hc : cT (n.cells.getD k default).kind)(h : BJ n k (n.cells.getD k default).args.length rem eP l3 gO) :
  (l3.getD k 0 = 0 -> BI n (k + 1) l3 gO (ready ++ [(k:Int)])) /\ (l3.getD k 0 ≠ 0 -> BI n (k + 1) l3 gO ready):=by
 have hn:l3.getD k 0 = (ef n [] (k:Int):Int):=by rw [h.own,List.take_length,ES]; rfl
 have DX:bD n (k:Int):=⟨⟨om,om⟩,hc⟩
 have mN:∀ i,bD n i -> i < ((k + 1:Nat):Int) -> l3.getD i.toNat 0 = (ef n [] i:Int):=by
  intro i hi h0
  by_cases e:i = k
  ·subst e; exact hn
  ·rw [h.KP i hi.1.1 e]; exact hb.mN i hi om
 have hzero:∀ i:Int,(((k + 1:Nat)):Int) <= i -> i < n.cells.length -> l3.getD i.toNat 0 = 0:=by
  intro i h1 h2
  rw [h.KP i om om]; exact hb.zero i om h2
 have Ot:∀ w x,In w n.aa.length -> x ∈ gO.getD w.toNat [] -> bD n x /\ x < ((k + 1:Nat):Int):=by
  intro w x hw hx
  rw [h.us w hw] at hx
  rcases List.mem_append.1 hx with hx | hx
  ·exact ⟨(hb.J8 w x hw hx).1,by have:=(hb.J8 w x hw hx).2; omega⟩
  ·rw [List.eq_of_mem_replicate hx]; exact ⟨DX,om⟩
 have Ou:∀ w x,In w n.aa.length -> BO n w -> bD n x -> x < ((k + 1:Nat):Int) -> (gO.getD w.toNat []).count x = (n.cell x).args.count w:=by
  intro w x hw hC hx h0
  rw [h.us w hw,if_pos hC,List.take_length,List.count_append]
  by_cases e:x = k
  ·subst e
   have h0:(eP.getD w.toNat []).count (k:Int) = 0:=List.count_eq_zero.2 (fun hm=>by have:=(hb.J8 w _ hw hm).2; omega)
   rw [h0,List.count_replicate_self,Nat.zero_add]; rfl
  ·rw [hb.Oq w x hw hC hx om,List.count_replicate,if_neg (by simpa using fun h=>e h.symm)]; rfl
 have Xb:∀ w,In w n.aa.length -> (gO.getD w.toNat []).length <= DW n (k + 1):=fun w hw=>by rw [uq hk]; exact BJ.len hb h hw
 have Jv:=hb.rl
 constructor
 ·intro h0
  refine ⟨mN,hzero,Ot,Ou,?_,fun x=>?_,Xb,by rw [List.length_append]; exact Nat.succ_le_succ Jv⟩
  ·rw [List.nodup_append]
   refine ⟨hb.nd,by simp,fun a ha b gY=>?_⟩
   rw [List.mem_singleton.1 gY]
   have:=((hb.rd a).1 ha).2.1; omega
  ·rw [List.mem_append,hb.rd x,List.mem_singleton]
   constructor
   ·rintro (⟨a,b,c⟩ | rfl)
    ·exact ⟨a,om,c⟩
    ·exact ⟨DX,om,om⟩
   ·rintro ⟨a,b,c⟩
    by_cases e:x = k
    ·exact .inr e
    ·exact .inl ⟨a,om,c⟩
 ·intro h0
  refine ⟨mN,hzero,Ot,Ou,hb.nd,fun x=>?_,Xb,om⟩
  rw [hb.rd x]
  constructor
  ·rintro ⟨a,b,c⟩; exact ⟨a,om,c⟩
  ·rintro ⟨a,b,c⟩
   refine ⟨a,?_,c⟩
   by_cases e:x = k
   ·subst e; omega
   ·omega
end
structure KI(n:ab)(done ready rem:List Int):Prop where
 nd:(done ++ ready).Nodup
 cm:∀ x ∈ done ++ ready,bD n x
 mN:∀ i,bD n i -> rem.getD i.toNat 0 = (ef n done i:Int)
 full:∀ i,bD n i -> (i ∈ done ++ ready ↔ ef n done i = 0)
 oq:∀ p i s,done = p ++ i :: s -> ef n p i = 0
structure US(n:ab)(eP:List (List Int)):Prop where
 mem:∀ w x,In w n.aa.length -> x ∈ eP.getD w.toNat [] -> bD n x
 YH:∀ w x,In w n.aa.length -> BO n w -> bD n x -> (eP.getD w.toNat []).count x = (n.cell x).args.count w
theorem BI.us{n:ab}{rem:List Int}{eP:List (List Int)}{ready:List Int}(h:BI n n.cells.length rem eP ready):US n eP :=
 ⟨fun w x hw hx=>(h.J8 w x hw hx).1,fun w x hw hC hx=>h.Oq w x hw hC hx (by have:=hx.1; omega)⟩
theorem BI.ki{n:ab}{rem:List Int}{eP:List (List Int)}{ready:List Int}(h:BI n n.cells.length rem eP ready):KI n [] ready rem where
 nd:=h.nd
 cm:=fun x hx=>((h.rd x).1 hx).1
 mN:=fun i hi=>h.mN i hi (by have:=hi.1; omega)
 full:=fun i hi=>by
  show i ∈ ready ↔ _
  rw [h.rd i]
  exact ⟨fun h=>h.2.2,fun h=>⟨hi,by have:=hi.1; omega,h⟩⟩
 oq:=fun p i s h=>by simp at h
structure KJ(n:ab)(done:List Int)(i0:Int)(u:List Int)(q:Nat)(ready rem:List Int):Prop where
 nd:(done ++ [i0] ++ ready).Nodup
 cm:∀ x ∈ done ++ [i0] ++ ready,bD n x
 mN:∀ i,bD n i -> rem.getD i.toNat 0 = (ef n done i:Int) - ((u.take q).count i:Int)
 full:∀ i,bD n i -> (i ∈ done ++ [i0] ++ ready ↔ ef n done i <= (u.take q).count i)
theorem KJ.init{n:ab}{done ready rem u:List Int}(h:KI n done ready rem)(h0:0 < ready.length):KJ n done (ready.getD 0 0) u 0 (ready.drop 1) rem:=by
 have e:done ++ [ready.getD 0 0] ++ ready.drop 1 = done ++ ready:=by
  cases ready with
  | nil=>simp at h0
  | cons a r=>simp
 refine ⟨by rw [e]; exact h.nd,by rw [e]; exact h.cm,fun i hi=>by rw [h.mN i hi]; simp,fun i hi=>by rw [e,h.full i hi]; simp⟩
section
variable {n:ab} (hf:bg n) {done ready rem u EU l3:List Int} {i0:Int} {q:Nat}
include hf
theorem KJ.count(h:KJ n done i0 u q ready rem)(hu:∀ x,bD n x -> u.count x = (n.cell x).args.count (n.cell i0).out){x:Int}(hx:bD n x):ef n done x = ef n (done ++ [i0]) x + u.count x:=by
 have js:=(List.nodup_append.1 h.nd).1
 have Ov:i0 ∉ done:=fun hm=>(List.nodup_append.1 js).2.2 i0 hm i0 (by simp) rfl
 rw [hu x hx]
 exact CX hf (h.cm i0 (by simp)) (fun j hj=>h.cm j (by simp [hj])) Ov x
theorem KJ.step(h : KJ n done i0 u q ready rem)(hl : rem.length = n.cells.length)(hq : q < u.length)(hu : ∀ x, bD n x → u.count x = (n.cell x).args.count (n.cell i0).out)(hm : ∀ x ∈ u, bD n x) :
  (rem.getD (u.getD q 0).toNat 0 - 1 = 0 -> KJ n done i0 u (q + 1) (ready ++ [u.getD q 0]) (rem.set (u.getD q 0).toNat (rem.getD (u.getD q 0).toNat 0 - 1))) /\
  (rem.getD (u.getD q 0).toNat 0 - 1 ≠ 0 -> KJ n done i0 u (q + 1) ready (rem.set (u.getD q 0).toNat (rem.getD (u.getD q 0).toNat 0 - 1))):=by
 have hk:bD n (u.getD q 0):=hm _ (bQ hq)
 have SN:=hk.1
 have ht:=jQ (d:=0) hq
 have Ow:∀ i,(u.take (q + 1)).count i = (u.take q).count i + if u.getD q 0 = i then 1 else 0:=by
  intro i
  rw [ht,List.count_append,List.count_cons]; simp
 have hle:(u.take (q + 1)).count (u.getD q 0) <= u.count (u.getD q 0):=by
  have e:=congrArg (List.count (u.getD q 0)) (List.take_append_drop (q + 1) u)
  rw [List.count_append] at e; omega
 have hc:=KJ.count hf h hu hk
 have YI:=Ow (u.getD q 0)
 rw [if_pos rfl] at YI
 have Xc:=h.mN _ hk
 have mN:∀ i,bD n i -> (rem.set (u.getD q 0).toNat (rem.getD (u.getD q 0).toNat 0 - 1)).getD i.toNat 0 = (ef n done i:Int) - ((u.take (q + 1)).count i:Int):=by
  intro i hi
  have YJ:=hi.1
  rw [bR,Ow i]
  by_cases e:u.getD q 0 = i
  ·rw [if_pos ⟨om,om⟩,if_pos e,Xc,e]; omega
  ·rw [if_neg om,if_neg e,h.mN i hi]; omega
 have sj:u.getD q 0 ∉ done ++ [i0] ++ ready:=fun og=>by
  have:=(h.full _ hk).1 og; omega
 constructor
 ·intro h0
  refine ⟨?_,?_,mN,fun i hi=>?_⟩
  ·rw [<- List.append_assoc,List.nodup_append]
   refine ⟨h.nd,by simp,fun a ha b hb e=>sj ?_⟩
   rw [<- List.mem_singleton.1 hb,<- e]; exact ha
  ·intro x hx
   rw [<- List.append_assoc] at hx
   rcases List.mem_append.1 hx with hx | hx
   ·exact h.cm x hx
   ·rw [List.mem_singleton.1 hx]; exact hk
  ·rw [<- List.append_assoc,List.mem_append,h.full i hi,List.mem_singleton,Ow i]
   by_cases e:u.getD q 0 = i
   ·rw [if_pos e]
    subst e
    exact ⟨fun _=>by omega,fun _=>.inr rfl⟩
   ·rw [if_neg e]
    exact ⟨fun h=>by rcases h with h | h; omega; exact absurd h.symm e,fun h=>.inl om⟩
 ·intro h0
  refine ⟨h.nd,h.cm,mN,fun i hi=>?_⟩
  rw [h.full i hi,Ow i]
  by_cases e:u.getD q 0 = i
  ·rw [if_pos e]
   subst e
   omega
  ·rw [if_neg e]; rfl
theorem KJ.bound(hs : n.Small)(h : KJ n done i0 u q ready rem)(hq : q < u.length)(hu : ∀ x, bD n x → u.count x = (n.cell x).args.count (n.cell i0).out)(hm : ∀ x ∈ u, bD n x) :
  1 <= rem.getD (u.getD q 0).toNat 0 /\ rem.getD (u.getD q 0).toNat 0 <= 17592186043904 /\ ready.length < n.cells.length:=by
 have hk:bD n (u.getD q 0):=hm _ (bQ hq)
 have ht:=jQ (d:=0) hq
 have Ow:(u.take (q + 1)).count (u.getD q 0) = (u.take q).count (u.getD q 0) + 1:=by
  rw [ht,List.count_append,List.count_cons]; simp
 have e:=congrArg (List.count (u.getD q 0)) (List.take_append_drop (q + 1) u)
 rw [List.count_append] at e
 have hc:=KJ.count hf h hu hk
 have Xc:=h.mN _ hk
 have hn:ef n done (u.getD q 0) <= (n.cell (u.getD q 0)).args.length:=List.countP_le_length
 have ha:(n.cell (u.getD q 0)).args.length <= 17592186043904:=hs.args _ (ic (by have:=hk.1; omega))
 refine ⟨om,om,?_⟩
 have:=length_le_of_subset (m:=(List.range n.cells.length).map (fun (i:Nat)=>(i:Int))) h.nd (fun x hx=>by
  have:=(h.cm x hx).1
  exact List.mem_map.2 ⟨x.toNat,List.mem_range.2 om,om⟩)
 rw [List.length_append,List.length_append,List.length_map,List.length_range] at this
 simp only [List.length_cons,List.length_nil] at this
 omega
theorem KJ.fin(hk:KI n done EU l3)(h0:i0 ∈ EU)(h:KJ n done i0 u u.length ready rem)(hu:∀ x,bD n x -> u.count x = (n.cell x).args.count (n.cell i0).out):KI n (done ++ [i0]) ready rem:=by
 have hc:∀ {x},bD n x -> ef n done x = ef n (done ++ [i0]) x + u.count x:=fun hx=>KJ.count hf h hu hx
 refine ⟨h.nd,h.cm,fun i hi=>?_,fun i hi=>?_,fun p i s e=>?_⟩
 ·rw [h.mN i hi,List.take_length,hc hi]; omega
 ·rw [h.full i hi,List.take_length,hc hi]; omega
 ·rcases List.eq_nil_or_concat s with rfl | ⟨s',x,rfl⟩
  ·have e2:=List.append_inj' (t₁:=[i0]) (t₂:=[i]) e rfl
   obtain ⟨rfl,e3⟩:=e2
   cases e3
   have q7:bD n i0:=hk.cm i0 (List.mem_append.2 (.inr h0))
   exact (hk.full i0 q7).1 (List.mem_append.2 (.inr h0))
  ·have e2:=List.append_inj' (s₁:=done) (s₂:=p ++ i :: s') (t₁:=[i0]) (t₂:=[x]) (by rw [e]; simp) rfl
   exact hk.oq p i s' e2.1
end
def Acyclic(n:ab):Prop:=∃ r:Int -> Nat,∀ i j,bD n i -> bD n j -> (n.cell j).out ∈ (n.cell i).args -> r j < r i
noncomputable instance (n:ab):Decidable (Acyclic n):=Classical.propDecidable _
structure Ord(n:ab)(l:List Int):Prop where
 len:l.length = n.cells.length
 nd:l.Nodup
 p6:∀ x ∈ l,0 <= x /\ x < n.cells.length
 oq:∀ p i s,l = p ++ i :: s -> cT (n.cell i).kind -> ∀ x ∈ (n.cell i).args,∃ j ∈ p,cJ n j x
theorem KI.all{n:ab}{done ready rem:List Int}(h:KI n done ready rem):(ju n n.cells.length ++ done ++ ready).Nodup /\ ∀ x ∈ ju n n.cells.length ++ done ++ ready,0 <= x /\ x < n.cells.length:=by
 rw [List.append_assoc]
 refine ⟨?_,fun x hx=>?_⟩
 ·rw [List.nodup_append]
  refine ⟨uo _ _,h.nd,fun a ha b hb e=>?_⟩
  subst e
  exact (kr.1 ha).2 (h.cm a hb).2
 ·rcases List.mem_append.1 hx with h' | h'
  ·have:=(kr.1 h').1; omega
  ·exact (h.cm x h').1
theorem KI.len{n:ab}{done ready rem:List Int}(h:KI n done ready rem):(ju n n.cells.length ++ done).length + ready.length <= n.cells.length:=by
 obtain ⟨h1,h2⟩:=h.all
 have:=length_le_of_subset (m:=(List.range n.cells.length).map (fun (i:Nat)=>(i:Int))) h1 (fun x hx=>by
  have:=h2 x hx
  exact List.mem_map.2 ⟨x.toNat,List.mem_range.2 om,om⟩)
 rw [List.length_append,List.length_map,List.length_range] at this
 exact this
theorem KI.mem{n : ab}{done rem : List Int}(h : KI n done [] rem){r : Int → Nat}(hr : ∀ i j, bD n i → bD n j → (n.cell j).out ∈ (n.cell i).args → r j < r i) : ∀ (m : Nat) (i : Int), bD n i → r i < m → i ∈ done
 | 0,_,_,hm=>by omega
 | m + 1,i,hi,hm=>by
  have hz:ef n done i = 0:=by
   rw [p5]
   rintro x hx ⟨j,hj,rfl⟩
   exact ⟨j,KI.mem h hr m j hj (by have:=hr i j hi hj hx; omega),rfl⟩
  have:=(h.full i hi).2 hz
  simpa using this
theorem CY(M:Nat):((List.range M).map (fun (i:Nat)=>(i:Int))).Nodup:=by
 rw [List.Nodup,List.pairwise_map]
 exact List.Pairwise.imp (fun {a b} h=>by omega) List.nodup_range
theorem KI.J9{n:ab}{done rem:List Int}(h:KI n done [] rem)(hl:(ju n n.cells.length ++ done).length < n.cells.length):¬ Acyclic n:=by
 rintro ⟨r,hr⟩
 have:=length_le_of_subset (m:=ju n n.cells.length ++ done) (CY n.cells.length) (fun x hx=>by
  obtain ⟨i,hi,rfl⟩:=List.mem_map.1 hx
  rw [List.mem_range] at hi
  by_cases hc:cT (n.cell (i:Int)).kind
  ·exact List.mem_append.2 (.inr (KI.mem h hr _ (i:Int) ⟨⟨om,om⟩,hc⟩ (Nat.lt_succ_self _)))
  ·exact List.mem_append.2 (.inl (kr.2 ⟨⟨om,om⟩,hc⟩)))
 rw [List.length_map,List.length_range] at this
 omega
theorem rj{l p s:List Int}{i j:Int}(hn:l.Nodup)(e:l = p ++ i :: s)(hj:j ∈ p):l.idxOf j < l.idxOf i:=by
 subst e
 have hi:i ∉ p:=fun h=>(List.nodup_append.1 hn).2.2 i h i (by simp) rfl
 rw [List.idxOf_append,if_pos hj,List.idxOf_append,if_neg hi]
 have:=List.idxOf_lt_length_of_mem hj
 omega
theorem KI.ok{n:ab}(hf:bg n){done rem:List Int}(h:KI n done [] rem)(hl:¬ (ju n n.cells.length ++ done).length < n.cells.length):Acyclic n /\ Ord n (ju n n.cells.length ++ done):=by
 obtain ⟨h1,h2⟩:=h.all
 rw [List.append_nil] at h1 h2
 have hle:=h.len
 simp only [List.length_nil,Nat.add_zero] at hle
 have Ox:∀ i:Int,(0 <= i /\ i < n.cells.length) -> i ∈ ju n n.cells.length ++ done:=by
  intro i hi
  refine Classical.byContradiction fun hn=>?_
  have:=length_le_of_subset (l:=i :: (ju n n.cells.length ++ done)) (m:=(List.range n.cells.length).map (fun (i:Nat)=>(i:Int))) (List.nodup_cons.2 ⟨hn,h1⟩) (fun x hx=>by
   have jw:0 <= x /\ x < n.cells.length:=by
    rcases List.mem_cons.1 hx with rfl | hx
    ·exact hi
    ·exact h2 x hx
   exact List.mem_map.2 ⟨x.toNat,List.mem_range.2 om,om⟩)
  rw [List.length_cons,List.length_map,List.length_range] at this
  omega
 have Kt:∀ i,bD n i -> i ∈ done:=by
  intro i hi
  rcases List.mem_append.1 (Ox i hi.1) with h' | h'
  ·exact absurd hi.2 (kr.1 h').2
  ·exact h'
 have Rz:done.Nodup:=(List.nodup_append.1 h1).2.1
 refine ⟨⟨fun i=>done.idxOf i,fun i j hi hj hx=>?_⟩,om,h1,h2,fun p i s e hc x hx=>?_⟩
 ·obtain ⟨p,s,e⟩:=List.append_of_mem (Kt i hi)
  obtain ⟨j',vy,e'⟩:=p5.1 (h.oq p i s e) _ hx ⟨j,hj,rfl⟩
  have KR:bD n j':=h.cm j' (by rw [e]; simp [vy])
  have:=hf.unique KR.kG (e' ▸ hj.kG)
  subst this
  exact rj Rz e vy
 ·have hi:bD n i:=⟨h2 i (by rw [e]; simp),hc⟩
  obtain ⟨j,hj⟩:=hf.kH (hf.pR hi.1 hx)
  by_cases Xd:cT (n.cell j).kind
  ·-- the kH is combinational
   obtain ⟨p',s',e'⟩:=List.append_of_mem (Kt i hi)
   obtain ⟨j',vy,e2⟩:=p5.1 (h.oq p' i s' e') x hx ⟨j,⟨hj.1,Xd⟩,hj.2.2⟩
   have KR:bD n j':=h.cm j' (by rw [e']; simp [vy])
   have e3:p ++ i :: s = (ju n n.cells.length ++ p') ++ i :: s':=by rw [<- e,e',List.append_assoc]
   have hp:p = ju n n.cells.length ++ p':=by
    have MM:i ∉ p:=by
     rw [e] at h1
     exact fun h=>(List.nodup_append.1 h1).2.2 i h i (by simp) rfl
    have lM:i ∉ ju n n.cells.length ++ p':=by
     rw [e,e3] at h1
     exact fun h=>(List.nodup_append.1 h1).2.2 i h i (by simp) rfl
    have:=congrArg (fun l=>l.idxOf i) e3
    simp only [List.idxOf_append,if_neg MM,if_neg lM,List.idxOf_cons_self,Nat.add_zero] at this
    exact (List.append_inj e3 om).1
   exact ⟨j',by rw [hp]; exact List.mem_append.2 (.inr vy),e2 ▸ KR.kG⟩
  ·-- it comes first
   refine ⟨j,?_,hj⟩
   have MG:j ∈ ju n n.cells.length:=kr.2 ⟨hj.1,Xd⟩
   have Rm:i ∉ ju n n.cells.length:=fun h=>(kr.1 h).2 hc
   have:ju n n.cells.length ++ done = p ++ i :: s:=e
   rcases List.append_eq_append_iff.1 this with ⟨a,ha,hb⟩ | ⟨a,ha,hb⟩
   ·rw [ha]; exact List.mem_append.2 (.inl MG)
   ·cases a with
    | nil=>rw [List.append_nil] at ha; rw [<- ha]; exact MG
    | cons b t =>
     rw [List.cons_append] at hb
     cases hb
     exact absurd (by rw [ha]; simp) Rm
def l4(n:ab)(l:List Int)(e:Int):Prop :=
 (¬ bg n /\ l = [] /\ e = 3) \/ (bg n /\ ¬ Fit n /\ l = [] /\ e = 13) \/ (bg n /\ Fit n /\ ¬ Acyclic n /\ l = [] /\ e = 12) \/ (bg n /\ Fit n /\ Acyclic n /\ Ord n l /\ e = 0)
theorem cea{p:Prop}(h:p:=by ((try unfold Plain at *); (try unfold Unary at *); (try unfold KO at *); (try unfold Seq at *); (try unfold In at *); first | (intro h; simp only [Shaped] at h; rcases h with h | h | h | h | h | h | h | h | h | h <;> omega) | (subst_vars; simp only [Shaped,Int.reduceEq,Bool.not_eq_true,false_and,true_and,and_true,and_false,or_false,false_or,ne_eq]; first | omega | grind | (unfold cA; grind)))):p:=h
theorem cle{p:Prop}(h:p:=by ((try unfold Plain at *); (try unfold Unary at *); (try unfold KO at *); (try unfold Seq at *); (try unfold In at *); (subst_vars; simp only [Shaped,Int.reduceEq,Bool.not_eq_true,false_and,true_and,and_true,and_false,or_false,false_or,ne_eq]; first | omega | grind | (unfold cA; grind)))):p:=h
noncomputable def fg(n:ab):Int:=if bg n then if Fit n then if Acyclic n then 0 else 12 else 13 else 3
theorem l4.err{n:ab}{l:List Int}{e:Int}(h:l4 n l e):e = fg n:=by
 unfold fg
 rcases h with ⟨h1,_,h⟩ | ⟨h1,h2,_,h⟩ | ⟨h1,h2,h3,_,h⟩ | ⟨h1,h2,h3,_,h⟩
 ·rw [if_neg h1,h]
 ·rw [if_pos h1,if_neg h2,h]
 ·rw [if_pos h1,if_pos h2,if_neg h3,h]
 ·rw [if_pos h1,if_pos h2,if_pos h3,h]
open Go Go.AW
structure U2 where
 a:Nat
 b:Nat
instance:Inhabited U2:=⟨⟨0,0⟩⟩
def U2.row(x:U2):List X:=[.v (.int .u8 (x.a:Int)),.v (.int .u8 (x.b:Int))]
theorem U2.bx(c:U2):X.b5 c.row = true:=rfl
structure sb where
 kind:Nat
 op:Nat
 width:Nat
 a:Nat
 b:Nat
 d:Nat
 num:Nat
instance:Inhabited sb:=⟨⟨0,0,0,0,0,0,0⟩⟩
def sb.row(x:sb):List X:=[.v (.int .u8 (x.kind:Int)),.v (.int .u8 (x.op:Int)),.v (.int .u8 (x.width:Int)),.v (.int .u8 (x.a:Int)),.v (.int .u8 (x.b:Int)),.v (.int .u8 (x.d:Int)),.v (.int .u64 (x.num:Int))]
theorem sb.bx(c:sb):X.b5 c.row = true:=rfl
structure nt where
 aA:List U2
 streams:List U2
 ins:List Nat
 parts:List sb
 bF:List Nat
def nt.row(n:nt):List X:=[.fz 2 (n.aA.map U2.row),.fz 2 (n.streams.map U2.row),.fz 1 (n.ins.map uj),.fz 7 (n.parts.map sb.row),.fz 1 (n.bF.map uj)]
def ab.rm(n : ab) : List X := [.v (.string n.name), .fz 1 (n.aa.map ag), .fz 6 (n.cells.map Cell.row), .fz 1 (n.ins.map ag), .fz 5 (n.aA.map dW.row), .fz 3 (n.streams.map b8.row),
 .v (.slice none 0 0),.v (.slice none 0 0),.v (.int .i64 n.freeze),.v (.int .i64 n.done),.v (.slice none 0 0)]
def Cell.iw(c:Cell):List X:=[.v (.int .i64 c.kind),.v (.int .i64 c.op),.v (.int .i64 c.out),.dn 1 (c.args.map ag),.v (.int .u64 (c.num:Int)),.v (.int .i64 c.mem)]
def ab.iw(n : ab) : List X := [.v (.string n.name), .dn 1 (n.aa.map ag), .dn 6 (n.cells.map Cell.row), .fz 1 (n.ins.map ag), .fz 5 (n.aA.map dW.row), .fz 3 (n.streams.map b8.row),
 .fz 1 (n.ba.map ag),.fz 1 (n.data.map ag),.v (.int .i64 n.freeze),.v (.int .i64 n.done),.fz 1 (n.bF.map ag)]
def a7(k:Nat):Int:=([1,2,4,7,8,13,33,64]:List Int).getD (k % 8) 0
def opsL:List Int:=[2,3,9,10,11,12,13,14,15,16,17,18,19,20,21,22,23,24]
theorem dK(k:Nat):dO (a7 k):=by
 have h:∀ j,j < 8 -> dO (([1,2,4,7,8,13,33,64]:List Int).getD j 0):=by decide
 exact h _ (Nat.mod_lt _ ae)
def ji(ws:List Int)(w:Int)(i:Nat):List Int:=((List.range i).filter (fun j=>decide (ws.getD j 0 = w))).map (fun (j:Nat)=>(j:Int))
theorem p7{ws:List Int}{w:Int}{i:Nat}(h:ws.getD i 0 = w):ji ws w (i + 1) = ji ws w i ++ [(i:Int)]:=by
 simp only [ji,List.range_succ,List.filter_append,List.map_append,List.filter_cons,h,decide_true,if_true,List.filter_nil,List.map_cons,List.map_nil]
theorem rp{ws:List Int}{w:Int}{i:Nat}(h:ws.getD i 0 ≠ w):ji ws w (i + 1) = ji ws w i:=by
 simp only [ji,List.range_succ,List.filter_append,List.filter_cons,h,decide_false,List.filter_nil,List.append_nil,Bool.false_eq_true,if_false]
theorem vC(ws:List Int)(w:Int)(i:Nat):(ji ws w i).length <= i:=by
 have:=List.length_filter_le (fun j=>decide (ws.getD j 0 = w)) (List.range i)
 simp only [ji,List.length_map]; rw [List.length_range] at this; exact this
def aB(ws:List Int)(w:Int)(k:Nat):Int:=if (ji ws w ws.length).length = 0 then -1 else (ji ws w ws.length).getD (k % (ji ws w ws.length).length) 0
def EV(ws:List Int)(w:Int):Prop:=∃ j,j < ws.length /\ ws.getD j 0 = w
theorem dk{ws:List Int}{w:Int}(h:EV ws w)(k:Nat):In (aB ws w k) ws.length /\ ws.getD (aB ws w k).toNat 0 = w:=by
 obtain ⟨j,hj,hw⟩:=h
 have h0:(j:Int) ∈ ji ws w ws.length:=List.mem_map.2 ⟨j,List.mem_filter.2 ⟨List.mem_range.2 hj,decide_eq_true hw⟩,rfl⟩
 have hp:=List.length_pos_of_mem h0
 unfold aB
 rw [if_neg om]
 have hm:=bQ (l:=ji ws w ws.length) (i:=k % (ji ws w ws.length).length) (Nat.mod_lt _ hp)
 obtain ⟨i,hi,he⟩:=List.mem_map.1 hm
 obtain ⟨h1,h2⟩:=List.mem_filter.1 hi
 rw [<- he]
 have:=List.mem_range.1 h1
 exact ⟨⟨om,om⟩,by simpa using h2⟩
def sQ(ws:List Int)(cs:List Cell)(p:sb)(i:Nat):List Cell :=
 if (cs.getD ((((cs.length:Int) - 1) - (i:Int)).toNat) default).kind = 4 then
  cs.set ((((cs.length : Int) - 1) - (i : Int)).toNat) ⟨(cs.getD ((((cs.length : Int) - 1) - (i : Int)).toNat) default).kind, (cs.getD ((((cs.length : Int) - 1) - (i : Int)).toNat) default).op, (cs.getD ((((cs.length : Int) - 1) - (i : Int)).toNat) default).out,
   [aB ws 1 p.a,aB ws (ws.getD (cs.getD ((((cs.length:Int) - 1) - (i:Int)).toNat) default).out.toNat 0) p.d],(cs.getD ((((cs.length:Int) - 1) - (i:Int)).toNat) default).num,(cs.getD ((((cs.length:Int) - 1) - (i:Int)).toNat) default).mem⟩
 else cs
structure sb.Ok(p:sb):Prop where
 kind:p.kind < 256
 op:p.op < 256
 width:p.width < 256
 a:p.a < 256
 b:p.b < 256
 d:p.d < 256
 num:p.num < 18446744073709551616
open Go Go.AW
structure Ground(n:ab):Prop where
 has:∀ k,EV n.aa (a7 k)
 wide:∀ w ∈ n.aa,dO w
 aA:∀ m ∈ n.aA,∃ k,m.width = a7 k
 strs:∀ s ∈ n.streams,∃ k,s.width = a7 k
 ins:∀ w ∈ n.ins,∃ k,w = a7 k
def vD(n:ab)(c:Cell)(w:Int):Prop :=
 (c.kind = 1 /\ jM w c.num = c.num) \/
 (c.kind = 2 /\ fU c.op (n.av c 0) (n.av c 1) (n.av c 2) w) \/
 (c.kind = 3 /\ ∀ k,k < c.args.length -> (k % 2 = 0 /\ n.av c k = 1) \/ (k % 2 = 1 /\ n.av c k = w)) \/
 (c.kind = 4 /\ n.av c 0 = 1 /\ n.av c 1 = w /\ jM w c.num = c.num) \/
 (c.kind = 5 /\ n.av c 0 = w /\ n.av c 1 = w) \/
 (c.kind = 6 /\ n.av c 0 = 1 /\ (n.aA.getD c.mem.toNat default).width = w) \/
 (c.kind = 7 /\ n.av c 0 = 1 /\ (n.aA.getD c.mem.toNat default).width = n.av c 2) \/
 (c.kind = 8 /\ n.ins.getD c.num 0 = w) \/
 (c.kind = 9 /\ w = 1) \/
 (c.kind = 10 /\ (n.streams.getD c.mem.toNat default).width = w)
structure Aq(n:ab)(c:Cell)(w:Int):Prop where
 out:c.kind = 7 -> c.out = -1
 args:∀ x ∈ c.args,In x n.aa.length
 shaped:Shaped n c
 fits:vD n c w
 wide:dO w
 num:c.num < 18446744073709551616
 len:c.args.length <= 4
def l5(n:ab)(c:Cell)(w:Int):Prop:=c.kind = 0 \/ Aq n c w
theorem xX(w:Int)(x:Nat):jM w (jM w x) = jM w x:=Nat.mod_mod _ _
theorem xY:dO 1:=by decide
theorem EW(i:Nat):(2 <= opsL.getD (i % opsL.length) 0 /\ opsL.getD (i % opsL.length) 0 <= 3) \/ (9 <= opsL.getD (i % opsL.length) 0 /\ opsL.getD (i % opsL.length) 0 <= 24):=by
 have h:∀ j,j < 18 -> (2 <= opsL.getD j 0 /\ opsL.getD j 0 <= 3) \/ (9 <= opsL.getD j 0 /\ opsL.getD j 0 <= 24):=by decide
 exact h _ (Nat.mod_lt _ ae)
theorem getD_in{α:Type}{d:α}{l:List α}{i:Nat}(h:i < l.length):l.getD i d ∈ l:=by
 rw [List.getD_eq_getElem?_getD,List.getElem?_eq_getElem h]; exact List.getElem_mem h
section
variable {n:ab} (hg:Ground n)
include hg
theorem Ground.one:EV n.aa 1:=hg.has 0
theorem Ground.mem{i:Nat}(h:i < n.aA.length):EV n.aa (n.aA.getD i default).width /\ dO (n.aA.getD i default).width:=by
 obtain ⟨k,hk⟩:=hg.aA _ (getD_in h)
 rw [hk]; exact ⟨hg.has k,dK k⟩
theorem Ground.str{i:Nat}(h:i < n.streams.length):EV n.aa (n.streams.getD i default).width /\ dO (n.streams.getD i default).width:=by
 obtain ⟨k,hk⟩:=hg.strs _ (getD_in h)
 rw [hk]; exact ⟨hg.has k,dK k⟩
theorem Ground.YK{i:Nat}(h:i < n.ins.length):dO (n.ins.getD i 0):=by
 obtain ⟨k,hk⟩:=hg.ins _ (getD_in h)
 rw [hk]; exact dK k
theorem w7{x:Nat}(h:0 < n.aa.length):In ((x:Int) % (n.aa.length:Int)) n.aa.length:=by
 have h1:=Int.emod_nonneg (x:Int) (b:=(n.aa.length:Int)) om
 have h2:=Int.emod_lt_of_pos (x:Int) (b:=(n.aa.length:Int)) om
 exact ⟨h1,h2⟩
theorem KS{op:Int}{j a b d:Nat}(h:op = 21):l5 n ⟨2,op,0,[aB n.aa 1 a,aB n.aa (a7 j) b,aB n.aa (a7 j) d],0,0⟩ (a7 j):=by
 have h1:=dk hg.one a; have h2:=dk (hg.has j) b; have h3:=dk (hg.has j) d
 subst h
 refine .inr ⟨fun h=>by simp at h,?_,.inr (.inl ⟨rfl,(by show cA 21 ≠ 0; decide),rfl,rfl,rfl⟩),.inr (.inl ⟨rfl,.inl ⟨rfl,h1.2,h2.2,h3.2⟩⟩),dK j,by simp,by simp⟩
 intro x hx
 simp only [List.mem_cons,List.not_mem_nil,or_false] at hx
 rcases hx with rfl | rfl | rfl
 ·exact h1.1
 ·exact h2.1
 ·exact h3.1
theorem Oy{op w : Int}{j a : Nat}(h0 : 0 < n.aa.length)(hu : Unary op)(hw : (op = 24 ∧ w = if n.aa.getD (a % n.aa.length) 0 < a7 j then n.aa.getD (a % n.aa.length) 0 else a7 j) ∨ (¬ op = 24 ∧ w = if n.aa.getD (a % n.aa.length) 0 > a7 j then n.aa.getD (a % n.aa.length) 0 else a7 j)) :
  l5 n ⟨2,op,0,[(a:Int) % (n.aa.length:Int)],0,0⟩ w:=by
 have h1:=w7 (x:=a) hg h0
 have hv:n.wd ((a:Int) % (n.aa.length:Int)) = n.aa.getD (a % n.aa.length) 0:=by
  unfold ab.wd; congr 1
 have h2:=hg.wide _ (getD_in (d:=(0:Int)) (Nat.mod_lt a h0))
 have h3:=dK j
 have CG:=hu
 unfold Unary at hu
 generalize n.aa.getD (a % n.aa.length) 0 = v at *
 generalize a7 j = W at *
 have CZ:dO w:=by
  unfold dO at *
  rcases hw with ⟨_,h⟩ | ⟨_,h⟩ <;> (split at h <;> omega)
 refine .inr ⟨fun h=>by simp at h,?_,.inr (.inl ⟨rfl,?_,?_,rfl,rfl⟩),.inr (.inl ⟨rfl,?_⟩),CZ,by simp,by simp⟩
 ·intro x hx
  simp only [List.mem_cons,List.not_mem_nil,or_false] at hx
  subst hx; exact h1
 ·rcases hu with h | h | h <;> (simp only [h]; decide)
 ·rcases hu with h | h | h <;> (simp only [h]; rfl)
 ·unfold fU
  simp only [ab.av,List.getD_cons_zero,hv]
  rcases hw with ⟨h,hw⟩ | ⟨h,hw⟩
  ·right; right; left
   refine ⟨h,?_⟩
   split at hw <;> omega
  ·right; left
   refine ⟨om,?_⟩
   split at hw <;> omega
theorem EX{op w : Int}{j a b : Nat}(KT : (2 ≤ op ∧ op ≤ 3) ∨ (9 ≤ op ∧ op ≤ 24))(SR : ¬ op = 21)(hu : ¬ Unary op)(hw : (km op ∧ w = 1) ∨ (¬ km op ∧ w = a7 j)) :
  l5 n ⟨2,op,0,[aB n.aa (a7 j) a,aB n.aa (a7 j) b],0,0⟩ w:=by
 have h1:=dk (hg.has j) a; have h2:=dk (hg.has j) b
 unfold Unary at hu
 have h3:=dK j
 have CZ:dO w:=by
  rcases hw with ⟨_,rfl⟩ | ⟨_,rfl⟩
  ·exact xY
  ·exact h3
 have Xe:cA op = 2:=by unfold cA; rw [if_pos om]
 refine .inr ⟨fun h=>by simp at h,?_,.inr (.inl ⟨rfl,by simp only [Xe]; decide,by simp only [Xe]; rfl,rfl,rfl⟩),.inr (.inl ⟨rfl,?_⟩),CZ,by simp,by simp⟩
 ·intro x hx
  simp only [List.mem_cons,List.not_mem_nil,or_false] at hx
  rcases hx with rfl | rfl
  ·exact h1.1
  ·exact h2.1
 ·have e1:n.wd (aB n.aa (a7 j) a) = a7 j:=h1.2
  have e2:n.wd (aB n.aa (a7 j) b) = a7 j:=h2.2
  rcases hw with ⟨hc,rfl⟩ | ⟨hc,rfl⟩
  ·exact .inr (.inr (.inr (.inl ⟨hc,rfl,e1.trans e2.symm⟩)))
  ·exact .inr (.inr (.inr (.inr ⟨hc,by show op < 21 \/ 24 < op; omega,e1,e2⟩)))
theorem tD{o m:Int}{q:Int}{l:List Int}{nm:Nat}{w:Int}:l5 n ⟨0,o,m,l,nm,q⟩ w:=.inl rfl
theorem EY{k:Int}{j x:Nat}(hk:k = 1):l5 n ⟨k,0,-1,[],jM (a7 j) x,0⟩ (a7 j):=by
 subst hk
 exact .inr ⟨fun _=>rfl,fun x hx=>(by cases hx),.inl ⟨rfl,rfl,rfl,rfl⟩,.inl ⟨rfl,xX _ _⟩,dK j,vA _ _,by simp⟩
theorem KU{k:Int}{j a b d e:Nat}(hk:k = 3):l5 n ⟨k,0,-1,[aB n.aa 1 a,aB n.aa (a7 j) b,aB n.aa 1 d,aB n.aa (a7 j) e],0,0⟩ (a7 j):=by
 have h1:=dk hg.one a; have h2:=dk (hg.has j) b; have h3:=dk hg.one d; have h4:=dk (hg.has j) e
 subst hk
 refine .inr ⟨fun _=>rfl,?_,.inr (.inr (.inl ⟨rfl,(by simp),(by simp),rfl,rfl,rfl⟩)),.inr (.inr (.inl ⟨rfl,?_⟩)),dK j,by simp,by simp⟩
 ·intro x hx
  simp only [List.mem_cons,List.not_mem_nil,or_false] at hx
  rcases hx with rfl | rfl | rfl | rfl
  ·exact h1.1
  ·exact h2.1
  ·exact h3.1
  ·exact h4.1
 ·intro i hi
  have im:i < 4:=hi
  match i,im with
  | 0,_=>exact .inl ⟨rfl,h1.2⟩
  | 1,_=>exact .inr ⟨rfl,h2.2⟩
  | 2,_=>exact .inl ⟨rfl,h3.2⟩
  | 3,_=>exact .inr ⟨rfl,h4.2⟩
theorem KV{k:Int}{j a b x:Nat}(hk:k = 4):l5 n ⟨k,0,-1,[aB n.aa 1 a,aB n.aa (a7 j) b],jM (a7 j) x,0⟩ (a7 j):=by
 have h1:=dk hg.one a; have h2:=dk (hg.has j) b
 subst hk
 refine .inr ⟨fun _=>rfl,?_,.inr (.inr (.inr (.inl ⟨rfl,rfl,rfl,rfl⟩))),.inr (.inr (.inr (.inl ⟨rfl,h1.2,h2.2,xX _ _⟩))),dK j,vA _ _,by simp⟩
 intro x hx
 simp only [List.mem_cons,List.not_mem_nil,or_false] at hx
 rcases hx with rfl | rfl
 ·exact h1.1
 ·exact h2.1
theorem HZ{k o:Int}{j a b x:Nat}(hk:k = 5)(ho:4 <= o /\ o <= 8)(hx:1 <= x /\ x <= 4096):l5 n ⟨k,o,-1,[aB n.aa (a7 j) a,aB n.aa (a7 j) b],x,0⟩ (a7 j):=by
 have h1:=dk (hg.has j) a; have h2:=dk (hg.has j) b
 subst hk
 refine .inr ⟨fun _=>rfl,?_,.inr (.inr (.inr (.inr (.inl ⟨rfl,rfl,ho,hx,rfl⟩)))),.inr (.inr (.inr (.inr (.inl ⟨rfl,h1.2,h2.2⟩)))),dK j,?_,by simp⟩
 ·intro x hx
  simp only [List.mem_cons,List.not_mem_nil,or_false] at hx
  rcases hx with rfl | rfl
  ·exact h1.1
  ·exact h2.1
 ·show x < _; omega
theorem ur{x m:Nat}:((x:Int) % (m:Int)).toNat = x % m:=by rw [<- Int.natCast_emod,Int.toNat_natCast]
theorem tE{x m:Nat}(h:0 < m):0 <= (x:Int) % (m:Int) /\ (x:Int) % (m:Int) < (m:Int):=by
 rw [<- Int.natCast_emod]
 have:=Nat.mod_lt x h
 omega
theorem BP{k : Int}{a b x : Nat}(h0 : 0 < n.aa.length)(hk : k = 6)(hm : 0 < n.aA.length) :
  l5 n ⟨k,0,-1,[aB n.aa 1 a,(b:Int) % (n.aa.length:Int)],0,(x:Int) % (n.aA.length:Int)⟩ (n.aA.getD (x % n.aA.length) default).width:=by
 have h1:=dk hg.one a; have h2:=w7 (x:=b) hg h0; have h3:=tE (x:=x) hg hm; have h4:=ur (x:=x) (m:=n.aA.length) hg
 have h5:=hg.mem (Nat.mod_lt x hm)
 subst hk
 refine .inr ⟨fun _=>rfl,?_,.inr (.inr (.inr (.inr (.inr (.inl ⟨rfl,rfl,rfl,rfl,h3.1,h3.2⟩))))),.inr (.inr (.inr (.inr (.inr (.inl ⟨rfl,h1.2,by simp only [h4]⟩))))),h5.2,by simp,by simp⟩
 intro x hx
 simp only [List.mem_cons,List.not_mem_nil,or_false] at hx
 rcases hx with rfl | rfl
 ·exact h1.1
 ·exact h2
theorem xZ{k : Int}{a b d x : Nat}(h0 : 0 < n.aa.length)(hk : k = 7)(hm : 0 < n.aA.length) :
  l5 n ⟨k,0,-1,([aB n.aa 1 a,(b:Int) % (n.aa.length:Int)]:List Int) ++ ([aB n.aa ((n.aA.getD (x % n.aA.length) default).width) d]:List Int),0,(x:Int) % (n.aA.length:Int)⟩ (n.aA.getD (x % n.aA.length) default).width:=by
 have h5:=hg.mem (Nat.mod_lt x hm)
 have h1:=dk hg.one a; have h2:=w7 (x:=b) hg h0; have h3:=tE (x:=x) hg hm; have h4:=ur (x:=x) (m:=n.aA.length) hg
 have h6:=dk h5.1 d
 subst hk
 refine .inr ⟨fun _=>rfl,?_,.inr (.inr (.inr (.inr (.inr (.inr (.inl ⟨rfl,rfl,rfl,rfl,h3.1,h3.2⟩)))))),.inr (.inr (.inr (.inr (.inr (.inr (.inl ⟨rfl,h1.2,?_⟩)))))),h5.2,by simp,by simp⟩
 ·intro x hx
  simp only [List.cons_append,List.nil_append,List.mem_cons,List.not_mem_nil,or_false] at hx
  rcases hx with rfl | rfl | rfl
  ·exact h1.1
  ·exact h2
  ·exact h6.1
 ·simp only [h4]; exact h6.2.symm
theorem EZ{k:Int}{x:Nat}(hk:k = 8)(hm:0 < n.ins.length)(hl:n.ins.length <= 1048576):l5 n ⟨k,0,-1,[],x % n.ins.length,0⟩ (n.ins.getD (x % n.ins.length) 0):=by
 have h1:=Nat.mod_lt x hm
 subst hk
 exact .inr ⟨fun _=>rfl,fun x hx=>(by cases hx),.inr (.inr (.inr (.inr (.inr (.inr (.inr (.inl ⟨rfl,rfl,rfl,h1,rfl⟩))))))),.inr (.inr (.inr (.inr (.inr (.inr (.inr (.inl ⟨rfl,rfl⟩))))))),hg.YK h1,by show x % _ < _; omega,by simp⟩
theorem Ia{k:Int}{x:Nat}(hk:k = 9)(hm:0 < n.streams.length):l5 n ⟨k,0,-1,[],0,(x:Int) % (n.streams.length:Int)⟩ 1:=by
 have h3:=tE (x:=x) hg hm
 subst hk
 exact .inr ⟨fun _=>rfl,fun x hx=>(by cases hx),.inr (.inr (.inr (.inr (.inr (.inr (.inr (.inr (.inl ⟨rfl,rfl,rfl,rfl,h3.1,h3.2⟩)))))))),.inr (.inr (.inr (.inr (.inr (.inr (.inr (.inr (.inl ⟨rfl,rfl⟩)))))))),xY,by simp,by simp⟩
theorem Ib{k:Int}{x:Nat}(hk:k = 10)(hm:0 < n.streams.length)(ho:(n.streams.getD (x % n.streams.length) default).out = false):l5 n ⟨k,0,-1,[],0,(x:Int) % (n.streams.length:Int)⟩ (n.streams.getD (x % n.streams.length) default).width:=by
 have h3:=tE (x:=x) hg hm; have h4:=ur (x:=x) (m:=n.streams.length) hg
 have h5:=hg.str (Nat.mod_lt x hm)
 subst hk
 exact .inr ⟨fun _=>rfl,fun x hx=>(by cases hx),.inr (.inr (.inr (.inr (.inr (.inr (.inr (.inr (.inr ⟨rfl,rfl,rfl,rfl,⟨h3.1,h3.2⟩,by simp only [h4]; exact ho⟩)))))))),.inr (.inr (.inr (.inr (.inr (.inr (.inr (.inr (.inr ⟨rfl,by simp only [h4]⟩)))))))),h5.2,by simp,by simp⟩
end
open Go Go.AW
structure BQ(n:ab):Prop where
 name:nW n.name
 dH:n.cells.length <= 65536
 dr:n.aa.length <= 65536
 aa:∀ j,j < n.aa.length -> dO (n.aa.getD j 0)
 ins:∀ j,j < n.ins.length -> dO (n.ins.getD j 0)
 kq:n.aA.length <= 64
 cG:n.streams.length <= 64
 dM:n.ba.length = n.streams.length
 gM:n.data.length = n.streams.length
 aA:∀ j,j < n.aA.length -> mM (n.aA.getD j default)
 strs:∀ j,j < n.streams.length -> lV n j
noncomputable instance (n:ab):Decidable (BQ n):=Classical.propDecidable _
theorem pS{α:Type}{l m:List α}{j:Nat}{d:α}(h:j < l.length):(l ++ m).getD j d = l.getD j d:=by
 rw [List.getD_eq_getElem?_getD,List.getElem?_append_left h,List.getD_eq_getElem?_getD]
theorem pT{α:Type}{l m:List α}{j:Nat}{d:α}(h:l.length <= j):(l ++ m).getD j d = m.getD (j - l.length) d:=by
 rw [List.getD_eq_getElem?_getD,List.getElem?_append_right h,List.getD_eq_getElem?_getD]
theorem bg.parts{n:ab}(h:bg n):BQ n where
 name:=h.name
 dH:=h.dH
 dr:=h.dr
 aa:=fun j hj=>by have:=h.wide j (by rw [List.length_append]; omega); rwa [pS hj] at this
 ins:=fun j hj=>by have:=h.wide (n.aa.length + j) (by rw [List.length_append]; omega); rwa [pT om,show n.aa.length + j - n.aa.length = j by omega] at this
 kq:=h.kq
 cG:=h.cG
 dM:=h.dM
 gM:=h.gM
 aA:=h.aA
 strs:=h.strs
theorem BQ.formed{n : ab}(h : BQ n)(h1 : In n.freeze n.aa.length)(h2 : In n.done n.aa.length)(h3 : ∀ j, j < n.bF.length → In (n.bF.getD j 0) n.aa.length)
  (h4:∀ j,j < n.cells.length -> jO n (n.cells.getD j default)) (h5:∀ w,w < n.aa.length -> dC n.cells w = 1):bg n where
 name:=h.name
 dH:=h.dH
 dr:=h.dr
 kq:=h.kq
 cG:=h.cG
 dM:=h.dM
 gM:=h.gM
 wide:=fun j hj=>by
  rw [List.length_append] at hj
  by_cases Kx:j < n.aa.length
  ·rw [pS Kx]; exact h.aa j Kx
  ·rw [pT om]; exact h.ins _ om
 aA:=h.aA
 strs:=h.strs
 freeze:=h1
 done:=h2
 bF:=xU.1 h3
 cells:=h4
 jP:=h5
def Hn(n:ab)(i:Nat)(d:List Int):Prop:=∀ w,w < n.aa.length -> d.getD w 0 = (dC (n.cells.take i) w:Int)
theorem Hn.init(n:ab):Hn n 0 (List.replicate n.aa.length 0):=by
 intro w hw
 rw [List.getD_eq_getElem?_getD,List.getElem?_replicate,if_pos hw]; simp [dC]
theorem Hn.skip{n:ab}{i:Nat}{d:List Int}(h:Hn n i d)(hi:i < n.cells.length)(h7:(n.cells.getD i default).kind = 7):Hn n (i + 1) d:=by
 intro w hw
 rw [gN hi,if_neg (fun h=>h.1 h7)]
 exact h w hw
theorem Hn.step{n : ab}{i : Nat}{d : List Int}(h : Hn n i d)(hi : i < n.cells.length)(h7 : (n.cells.getD i default).kind ≠ 7)(ho : In (n.cells.getD i default).out n.aa.length)
  (hl:d.length = n.aa.length):Hn n (i + 1) (d.set (n.cells.getD i default).out.toNat (d.getD (n.cells.getD i default).out.toNat 0 + 1)):=by
 intro w hw
 have hh:=h w hw
 rw [gN hi,bR]
 unfold In at ho
 by_cases e:(n.cells.getD i default).out = (w:Int)
 ·rw [if_pos ⟨om,om⟩,if_pos ⟨h7,e⟩]
  have e2:(n.cells.getD i default).out.toNat = w:=by omega
  rw [e2,hh]; omega
 ·rw [if_neg om,if_neg (fun h=>e h.2),hh]; omega
theorem Hn.le{n:ab}{i:Nat}{d:List Int}(h:Hn n i d){w:Nat}(hw:w < n.aa.length):0 <= d.getD w 0 /\ d.getD w 0 <= i:=by
 rw [h w hw]
 have:dC (n.cells.take i) w <= i:=Nat.le_trans List.countP_le_length (by rw [List.length_take]; omega)
 omega
open Go Go.AW
def nB:ByteArray:=⟨#[110]⟩
def mB:ByteArray:=⟨#[109]⟩
def sB:ByteArray:=⟨#[115]⟩
theorem sw(b:UInt8)(h:jb b.toNat):nW ⟨#[b]⟩:=by
 refine ⟨fun i hi=>?_,by show 1 <= 64; decide⟩
 have im:i < 1:=hi
 obtain rfl:i = 0:=by omega
 exact h
def pn(ws:List Int)(cs:List Cell)(ins:List Int)(aA:List dW)(streams:List b8):ab:=⟨nB,ws,cs,ins,aA,streams,[],[],0,0,[]⟩
structure Gr(n:ab):Prop where
 ground:Ground n
 cells:∀ c ∈ n.cells,jO n c /\ Fits n c /\ c.num < 18446744073709551616 /\ c.args.length <= 4
 jP:∀ w,w < n.aa.length -> dC n.cells w = 1
 oq:∀ i j,bD n i -> bD n j -> (n.cell j).out ∈ (n.cell i).args -> j < i
theorem Fits.ext{n n':ab}{c:Cell}(hm:n'.aA = n.aA)(hi:n'.ins = n.ins)(hs:n'.streams = n.streams)(ha:∀ k,n'.av c k = n.av c k)(ho:n'.ow c = n.ow c)(h:Fits n c):Fits n' c:=by
 unfold Fits jN at *
 simp only [ha,ho,hm,hi,hs]; exact h
theorem vD.fits{n n' : ab}{c c' : Cell}{w : Int}(hm : n'.aA = n.aA)(hi : n'.ins = n.ins)(hs : n'.streams = n.streams)(hk : c'.kind = c.kind)(KT : c'.op = c.op)(hr : c'.args = c.args)(hn : c'.num = c.num)(YL : c'.mem = c.mem)
  (ha:∀ k,n'.av c' k = n.av c k) (ho:c.kind ≠ 7 -> n'.ow c' = w) (h:vD n c w):Fits n' c':=by
 unfold vD at h
 unfold Fits jN
 simp only [ha,hm,hi,hs,hk,KT,hr,hn,YL]
 by_cases h7:c.kind = 7
 ·rw [h7] at h ⊢
  simp only [Int.reduceEq,false_and,true_and,or_false,false_or] at h ⊢
  exact h
 ·rw [ho h7]; exact h
theorem BR{ws Ar:List Int}{x:Int}(hs:∀ x,x < ws.length -> Ar.getD x 0 = ws.getD x 0)(hx:In x ws.length):Ar.getD x.toNat 0 = ws.getD x.toNat 0:=hs _ (by unfold In at hx; omega)
theorem As(l:List Cell)(c:Cell)(w:Nat):dC (l ++ [c]) w = dC l w + dC [c] w:=by simp only [dC,List.countP_append]
theorem ya{l:List Cell}{w:Nat}(h:∀ c ∈ l,¬ (c.kind ≠ 7 /\ c.out = (w:Int))):dC l w = 0:=by
 unfold dC
 rw [List.countP_eq_zero]
 intro c hc
 simpa using h c hc
theorem jR{α:Type}{d:α}{l r:List α}{i:Nat}(h:i < l.length):(l ++ r).getD i d = l.getD i d:=by
 rw [List.getD_eq_getElem?_getD,List.getElem?_append_left h,<- List.getD_eq_getElem?_getD]
theorem nC{α:Type}{d c:α}{l:List α}{i:Nat}(h:i = l.length):(l ++ [c]).getD i d = c:=by
 subst h
 rw [List.getD_eq_getElem?_getD,List.getElem?_append_right (Nat.le_refl _),Nat.sub_self]; rfl
section
variable {ws Ar:List Int} {cs:List Cell} {ins:List Int} {aA:List dW} {streams:List b8} {c0:Cell}
theorem Gr.push(h : Gr (pn ws cs ins aA streams))(h0 : 0 < ws.length)(hw : ∀ w ∈ Ar, dO w)(hs : ∀ x, x < ws.length → Ar.getD x 0 = ws.getD x 0)(hle : ws.length ≤ Ar.length)
  (hc:jO (pn Ar cs ins aA streams) c0) (ha:∀ x ∈ c0.args,In x ws.length) (hf:Fits (pn Ar cs ins aA streams) c0) (Oz:c0.num < 18446744073709551616) (hlen:c0.args.length <= 4)
  (YM:∀ x,x < Ar.length -> dC [c0] x = if x < ws.length then 0 else 1) (lq:cT c0.kind -> c0.out = ws.length) (Xf:Ar.length <= ws.length + 1):Gr (pn Ar (cs ++ [c0]) ins aA streams) where
 ground:=⟨fun k=>by
   obtain ⟨j,h1,h2⟩:=h.ground.has k
   exact ⟨j,Nat.lt_of_lt_of_le h1 hle,(hs j h1).trans h2⟩,hw,h.ground.aA,h.ground.strs,h.ground.ins⟩
 cells:=by
  intro c DX
  rcases List.mem_append.1 DX with h1 | h1
  ·obtain ⟨a1,a2,a3,a4⟩:=h.cells c h1
   have b1:∀ x ∈ c.args,In x ws.length:=a1.1
   refine ⟨⟨fun x hx=>?_,a1.2.1,a1.2.2.1,fun h7=>?_⟩,?_,a3,a4⟩
   ·have:=b1 x hx; unfold In at *; exact ⟨this.1,by show x < (Ar.length:Int); omega⟩
   ·have:=a1.2.2.2 h7; unfold In at *; exact ⟨this.1,by have:=this.2; show c.out < (Ar.length:Int); change c.out < (ws.length:Int) at this; omega⟩
   ·refine Fits.ext (n:=pn ws cs ins aA streams) rfl rfl rfl (fun k=>?_) ?_ a2
    ·refine BR hs ?_
     rcases Nat.lt_or_ge k c.args.length with hk | hk
     ·exact b1 _ (bQ hk)
     ·rw [List.getD_eq_getElem?_getD,List.getElem?_eq_none hk]; exact ⟨Int.le_refl 0,by show (0:Int) < (ws.length:Int); omega⟩
    ·unfold ab.ow
     split
     ·rename_i h2
      by_cases h7:c.kind = 7
      ·have:=a1.2.2.1 h7; omega
      ·exact BR hs (a1.2.2.2 h7)
     ·rfl
  ·rw [List.mem_singleton.1 h1]
   exact ⟨hc,hf,Oz,hlen⟩
 jP:=by
  intro w xC
  show dC (cs ++ [c0]) w = 1
  rw [As,YM w xC]
  by_cases h1:w < ws.length
  ·rw [if_pos h1]; have h2:=h.jP w h1; change dC cs w = 1 at h2; omega
  ·rw [if_neg h1,ya]
   rintro c DX ⟨h2,h3⟩
   have:=(h.cells c DX).1.2.2.2 h2
   unfold In at this
   have h4:=this.2
   change c.out < (ws.length:Int) at h4
   omega
 oq:=by
  intro i j hi hj ho
  have cl:∀ {k:Int},0 <= k /\ k < (cs.length:Int) -> (pn Ar (cs ++ [c0]) ins aA streams).cell k = (pn ws cs ins aA streams).cell k:=fun hk=>jR om
  have cr:∀ {k:Int},k = (cs.length:Int) -> (pn Ar (cs ++ [c0]) ins aA streams).cell k = c0:=fun hk=>nC om
  have li:0 <= i /\ i < (cs.length:Int) + 1:=by have:=hi.1; simp [pn] at this; omega
  have lj:0 <= j /\ j < (cs.length:Int) + 1:=by have:=hj.1; simp [pn] at this; omega
  by_cases e1:i = (cs.length:Int)
  ·by_cases e2:j = (cs.length:Int)
   ·exfalso
    rw [cr e1,cr e2] at ho
    have h1:=ha _ ho
    have h2:=hj.2
    rw [cr e2] at h2
    rw [lq h2] at h1
    unfold In at h1; omega
   ·omega
  ·have im:bD (pn ws cs ins aA streams) i:=⟨⟨li.1,by show i < (cs.length:Int); omega⟩,by have:=hi.2; rwa [cl ⟨li.1,om⟩] at this⟩
   rw [cl (k:=i) ⟨li.1,om⟩] at ho
   by_cases e2:j = (cs.length:Int)
   ·exfalso
    have h2:=hj.2
    rw [cr e2] at h2 ho
    rw [lq h2] at ho
    have h3:In (ws.length:Int) ws.length:=(h.cells ((pn ws cs ins aA streams).cell i) (getD_in (l:=cs) om)).1.1 _ ho
    unfold In at h3; omega
   ·have vy:bD (pn ws cs ins aA streams) j:=⟨⟨lj.1,by show j < (cs.length:Int); omega⟩,by have:=hj.2; rwa [cl ⟨lj.1,om⟩] at this⟩
    rw [cl (k:=j) ⟨lj.1,om⟩] at ho
    exact h.oq i j im vy ho
theorem KW{w:Int}{x:Int}(hx:In x ws.length):(ws ++ [w]).getD x.toNat 0 = ws.getD x.toNat 0:=jR (by unfold In at hx; omega)
theorem Gr.add{c : Cell}{w : Int}(h : Gr (pn ws cs ins aA streams))(h0 : 0 < ws.length)(hp : Aq (pn ws cs ins aA streams) c w)(h7 : c.kind ≠ 7) :
  Gr (pn (ws ++ [w]) (cs ++ [⟨c.kind,c.op,(ws.length:Int),c.args,c.num,c.mem⟩]) ins aA streams):=by
 have ha:∀ k,In (c.args.getD k 0) ws.length:=fun k=>by
  rcases Nat.lt_or_ge k c.args.length with hk | hk
  ·exact hp.args _ (bQ hk)
  ·rw [List.getD_eq_getElem?_getD,List.getElem?_eq_none hk]; exact ⟨Int.le_refl 0,by show (0:Int) < (ws.length:Int); omega⟩
 refine Gr.push h h0 (fun v hv=>?_) (fun x hx=>jR hx) (by simp) ⟨fun x hx=>?_,hp.shaped,fun h=>absurd h h7,fun _=>⟨by show (0:Int) <= (ws.length:Int); omega,by simp [pn]; omega⟩⟩ hp.args ?_ hp.num hp.len (fun x hx=>?_) (fun _=>rfl) (by simp)
 ·rcases List.mem_append.1 hv with h1 | h1
  ·exact h.ground.wide v h1
  ·rw [List.mem_singleton.1 h1]; exact hp.wide
 ·have:=hp.args x hx
  unfold In at *
  exact ⟨this.1,by have:=this.2; change x < (ws.length:Int) at this; simp [pn]; omega⟩
 ·refine vD.fits (n:=pn ws cs ins aA streams) (c:=c) (w:=w) rfl rfl rfl rfl rfl rfl rfl rfl (fun k=>KW (ha k)) (fun _=>?_) hp.fits
  show (if (0:Int) <= (ws.length:Int) then (ws ++ [w]).getD ((ws.length:Int)).toNat 0 else 0) = w
  rw [if_pos om]
  exact nC (by simp)
 ·have jw:x < ws.length + 1:=by simpa using hx
  show List.countP _ _ = _
  rw [List.countP_singleton]
  by_cases e:x < ws.length
  ·rw [if_pos e,if_neg (by simp only [decide_eq_true_eq]; rintro ⟨_,h2⟩; omega)]
  ·rw [if_neg e,if_pos (by simp only [decide_eq_true_eq]; exact ⟨h7,by show (ws.length:Int) = (x:Int); omega⟩)]
theorem Gr.tj{c : Cell}{w : Int}(h : Gr (pn ws cs ins aA streams))(h0 : 0 < ws.length)(hp : Aq (pn ws cs ins aA streams) c w)(h7 : c.kind = 7) :
  Gr (pn ws (cs ++ [c]) ins aA streams):=by
 refine Gr.push h h0 h.ground.wide (fun _ _=>rfl) (Nat.le_refl _) ⟨hp.args,hp.shaped,hp.out,fun h=>absurd h7 h⟩ hp.args ?_ hp.num hp.len (fun x hx=>?_) (fun hc=>?_) om
 ·exact vD.fits (n:=pn ws cs ins aA streams) (c:=c) (w:=w) rfl rfl rfl rfl rfl rfl rfl rfl (fun k=>rfl) (fun h=>absurd h7 h) hp.fits
 ·show List.countP _ _ = _
  rw [List.countP_singleton,if_pos hx,if_neg (by simp only [decide_eq_true_eq]; rintro ⟨h2,_⟩; exact h2 h7)]
 ·rw [h7] at hc; exact absurd hc ae
theorem Gr.setArgs{k : Nat}{args : List Int}(h : Gr (pn ws cs ins aA streams))(hk : k < cs.length)(h4 : (cs.getD k default).kind = 4)(ha : ∀ x ∈ args, In x ws.length)
  (hl:args.length = 2) (h1:ws.getD (args.getD 0 0).toNat 0 = 1) (h2:ws.getD (args.getD 1 0).toNat 0 = ws.getD (cs.getD k default).out.toNat 0) :
  Gr (pn ws (cs.set k ⟨(cs.getD k default).kind,(cs.getD k default).op,(cs.getD k default).out,args,(cs.getD k default).num,(cs.getD k default).mem⟩) ins aA streams):=by
 have DX:cs.getD k default ∈ cs:=getD_in hk
 obtain ⟨a1,a2,a3,a4⟩:=h.cells _ DX
 have ho:=a1.2.2.2 (by rw [h4]; decide)
 generalize hc:cs.getD k default = c at *
 have cell:∀ i:Int,(pn ws (cs.set k ⟨c.kind,c.op,c.out,args,c.num,c.mem⟩) ins aA streams).cell i = if k = i.toNat /\ k < cs.length then ⟨c.kind,c.op,c.out,args,c.num,c.mem⟩ else (pn ws cs ins aA streams).cell i:=fun i=>bR ..
 refine ⟨⟨h.ground.has,h.ground.wide,h.ground.aA,h.ground.strs,h.ground.ins⟩,?_,?_,?_⟩
 ·intro c' q6
  rcases List.mem_or_eq_of_mem_set q6 with h5 | h5
  ·exact h.cells c' h5
  ·subst h5
   refine ⟨⟨ha,?_,fun h7=>?_,fun _=>ho⟩,?_,a3,by simp only [hl]; decide⟩
   ·have:=a1.2.1
    simp only [Shaped,h4,Int.reduceEq,false_and,true_and,false_or,or_false] at this
    exact .inr (.inr (.inr (.inl ⟨h4,hl,this.2.1,this.2.2⟩)))
   ·simp only [h4] at h7; exact absurd h7 ae
   ·simp only [Fits,h4,Int.reduceEq,false_and,true_and,false_or,or_false] at a2
    refine .inr (.inr (.inr (.inl ⟨h4,h1,?_,a2.2.2⟩)))
    show ws.getD (args.getD 1 0).toNat 0 = if 0 <= c.out then ws.getD c.out.toNat 0 else 0
    unfold In at ho
    rw [if_pos ho.1]; exact h2
 ·intro w hw
  have:=h.jP w hw
  rw [<- this]
  show List.countP _ (cs.set k _) = List.countP _ cs
  have e:∀ (l:List Cell) (f:Cell -> Bool),List.countP f l = List.countP id (l.map f):=fun l f=>by rw [List.countP_map]; rfl
  rw [e,e cs,List.map_set]
  congr 1
  have zB:k < (cs.map (fun c=>decide (c.kind ≠ 7 /\ c.out = (w:Int)))).length:=by simpa using hk
  have hg:(cs.map (fun c=>decide (c.kind ≠ 7 /\ c.out = (w:Int))))[k] = decide (c.kind ≠ 7 /\ c.out = (w:Int)):=by
   rw [List.getElem_map]
   have:cs[k] = c:=by rw [<- hc,List.getD_eq_getElem?_getD,List.getElem?_eq_getElem hk]; rfl
   rw [this]
  rw [<- hg,List.set_getElem_self]
 ·intro i j hi hj hm
  have key:∀ {i:Int},bD (pn ws (cs.set k ⟨c.kind,c.op,c.out,args,c.num,c.mem⟩) ins aA streams) i -> (pn ws (cs.set k ⟨c.kind,c.op,c.out,args,c.num,c.mem⟩) ins aA streams).cell i = (pn ws cs ins aA streams).cell i /\ bD (pn ws cs ins aA streams) i:=by
   intro i hi
   have lM:=hi.2
   have MM:0 <= i /\ i < (cs.length:Int):=by have:=hi.1; simp [pn] at this; omega
   rw [cell] at lM
   by_cases e:k = i.toNat /\ k < cs.length
   ·rw [if_pos e] at lM
    simp only [h4] at lM
    exact absurd lM ae
   ·rw [if_neg e] at lM
    exact ⟨by rw [cell,if_neg e],MM,lM⟩
  rw [(key hi).1,(key hj).1] at hm
  exact h.oq i j (key hi).2 (key hj).2 hm
end
open Go Go.AW
def zF(i:Nat):List Int:=(List.range i).map a7
def DY(i:Nat):List Cell:=(List.range i).map (fun (j:Nat)=>(⟨1,0,(j:Int),[],j % 2,0⟩:Cell))
theorem Fa(i:Nat):zF (i + 1) = zF i ++ [a7 i]:=by simp [zF,List.range_succ]
theorem Fb(i:Nat):DY (i + 1) = DY i ++ [(⟨1,0,(i:Int),[],i % 2,0⟩:Cell)]:=by simp [DY,List.range_succ]
theorem rq(i:Nat):(zF i).length = i:=by simp [zF]
theorem Ic(i:Nat):(DY i).length = i:=by simp [DY]
theorem BS{i j:Nat}(h:j < i):(zF i).getD j 0 = a7 j:=by
 rw [List.getD_eq_getElem?_getD,List.getElem?_eq_getElem (by rw [rq]; exact h)]; simp [zF]
theorem YN{ins:List Int}{aA:List dW}{streams:List b8}(hm:∀ m ∈ aA,∃ k,m.width = a7 k)(hs:∀ s ∈ streams,∃ k,s.width = a7 k)(hi:∀ w ∈ ins,∃ k,w = a7 k):Gr (pn (zF 8) (DY 8) ins aA streams) where
 ground:=⟨fun k=>⟨k % 8,by show k % 8 < (zF 8).length; rw [rq]; omega,by show (zF 8).getD (k % 8) 0 = _; rw [BS om]; simp only [a7,Nat.mod_mod]⟩,fun w hw=>by
  obtain ⟨k,_,rfl⟩:=List.mem_map.1 hw
  exact dK k,hm,hs,hi⟩
 cells:=by
  intro c hc
  obtain ⟨j,hj,rfl⟩:=List.mem_map.1 hc
  have vy:j < 8:=List.mem_range.1 hj
  have h8:(zF 8).length = 8:=rq 8
  refine ⟨⟨fun x hx=>(by cases hx),.inl ⟨rfl,rfl,rfl,rfl⟩,fun h=>by simp at h,fun _=>⟨by show (0:Int) <= (j:Int); omega,by show (j:Int) < ((zF 8).length:Int); omega⟩⟩,.inl ⟨rfl,?_⟩,by show j % 2 < _; omega,by simp⟩
  show jM (if (0:Int) <= (j:Int) then (zF 8).getD ((j:Int)).toNat 0 else 0) (j % 2) = j % 2
  rw [if_pos om,Int.toNat_natCast,BS vy]
  have:∀ j,j < 8 -> jM (a7 j) (j % 2) = j % 2:=by decide
  exact this j vy
 jP:=by
  have:∀ w,w < 8 -> dC (DY 8) w = 1:=by decide
  intro w hw
  have rZ:w < (zF 8).length:=hw
  rw [rq] at rZ
  exact this w rZ
 oq:=by
  intro i j hi _ ho
  exfalso
  have h1:=hi.1
  have h2:0 <= i /\ i < ((DY 8).length:Int):=h1
  have h3:(pn (zF 8) (DY 8) ins aA streams).cell i ∈ DY 8:=getD_in (l:=DY 8) om
  obtain ⟨k,_,hk⟩:=List.mem_map.1 h3
  rw [<- hk] at ho
  cases ho
section
variable {ws:List Int} {cs:List Cell} {ins:List Int} {aA:List dW} {streams:List b8}
theorem vE(p:sb)(i:Nat):(sQ ws cs p i).length = cs.length:=by
 unfold sQ; split
 ·rw [List.length_set]
 ·rfl
theorem bP{p:Prop}(h:p:=by first | omega | (simp only [vE]; omega) | (simp [-List.getD_eq_getElem?_getD]; done) | (simp [-List.getD_eq_getElem?_getD]; omega)):p:=h
theorem Gr.outs(h:Gr (pn ws cs ins aA streams)){k:Nat}(hk:k < cs.length)(h4:(cs.getD k default).kind = 4):In (cs.getD k default).out ws.length:=(h.cells (cs.getD k default) (getD_in hk)).1.2.2.2 (by rw [h4]; decide)
theorem Gr.late(h:Gr (pn ws cs ins aA streams)){p:sb}{i:Nat}(hi:i < cs.length):Gr (pn ws (sQ ws cs p i) ins aA streams):=by
 unfold sQ
 split
 ·rename_i h4
  have hk:(((cs.length:Int) - 1) - (i:Int)).toNat < cs.length:=by omega
  have ho:=h.outs hk h4
  have h1:=dk h.ground.one p.a
  have h2:=dk (ws:=ws) (w:=ws.getD (cs.getD (((cs.length:Int) - 1) - (i:Int)).toNat default).out.toNat 0) ⟨_,by unfold In at ho; omega,rfl⟩ p.d
  refine h.setArgs hk h4 ?_ rfl h1.2 h2.2
  intro x hx
  simp only [List.mem_cons,List.not_mem_nil,or_false] at hx
  rcases hx with rfl | rfl
  ·exact h1.1
  ·exact h2.1
 ·exact h
def vF(ws:List Int)(streams:List b8)(ba data:List Int)(j:Nat):Prop :=
 (In (ba.getD j 0) ws.length ∧ ws.getD (ba.getD j 0).toNat 0 = 1) ∧ ((streams.getD j default).out = true → In (data.getD j 0) ws.length ∧ ws.getD (data.getD j 0).toNat 0 = (streams.getD j default).width) ∧
  ((streams.getD j default).out = false -> data.getD j 0 = -1)
structure JA(n:ab):Prop where
 formed:bg n
 fit:Fit n
 acyclic:Acyclic n
 small:n.Small
 dH:8 <= n.cells.length /\ n.cells.length <= 48
 dr:8 <= n.aa.length /\ n.aa.length <= 48
 mO:∀ c ∈ n.cells,c.args.length <= 4
 nX:n.bF.length <= 3
 kq:n.aA.length <= 3
 cG:n.streams.length <= 4
 yb:n.ins.length <= 4
theorem BT : ∀ {l : List Cell}, (∀ c ∈ l, c.args.length ≤ 4) → (l.map (fun c => c.args.length)).sum ≤ 4 * l.length
 | [],_=>by simp
 | c :: r,h=>by
  have h1:=h c (by simp)
  have h2:=BT (l:=r) (fun c hc=>h c (List.mem_cons_of_mem _ hc))
  simp only [List.map_cons,List.sum_cons,List.length_cons]; omega
theorem Gr.made(h : Gr (pn ws cs ins aA streams)){ba data bF : List Int}{f d : Int}(ve : 8 ≤ cs.length ∧ cs.length ≤ 48)(Xf : 8 ≤ ws.length ∧ ws.length ≤ 48)(O0 : aA.length ≤ 3)(SS : streams.length ≤ 4)(SU : ins.length ≤ 4)(O1 : bF.length ≤ 3)
  (hm:∀ m ∈ aA,mM m) (hs:∀ s ∈ streams,nW s.name) (ha:ba.length = streams.length) (hd:data.length = streams.length) (he:∀ j,j < streams.length -> vF ws streams ba data j)
  (hr:∀ r ∈ bF,In r ws.length) (hf:In f ws.length /\ ws.getD f.toNat 0 = 1) (Rz:In d ws.length /\ ws.getD d.toNat 0 = 1):JA ⟨nB,ws,cs,ins,aA,streams,ba,data,f,d,bF⟩ where
 formed := {
  name:=sw 110 (by unfold jb; decide)
  dH:=by show cs.length <= _; omega
  dr:=by show ws.length <= _; omega
  kq:=by show aA.length <= _; omega
  cG:=by show streams.length <= _; omega
  dM:=ha
  gM:=hd
  wide:=fun j hj=>by
   have vy:j < (ws ++ ins).length:=hj
   have h1:(ws ++ ins).getD j 0 ∈ ws ++ ins:=getD_in vy
   rcases List.mem_append.1 h1 with h2 | h2
   ·exact h.ground.wide _ h2
   ·obtain ⟨k,hk⟩:=h.ground.ins _ h2
    show dO ((ws ++ ins).getD j 0)
    rw [hk]; exact dK k
  aA:=fun j hj=>hm _ (getD_in hj)
  strs:=fun j hj=>by
   have h1:=he j hj
   exact ⟨hs _ (getD_in hj),(h.ground.str hj).2,h1.1.1,fun ho=>(h1.2.1 ho).1,h1.2.2⟩
  freeze:=hf.1
  done:=Rz.1
  bF:=hr
  cells:=fun j hj=>(h.cells _ (getD_in hj)).1
  jP:=h.jP }
 fit := {
  freeze:=hf.2
  done:=Rz.2
  strs:=fun j hj=>⟨(he j hj).1.2,fun ho=>((he j hj).2.1 ho).2⟩
  cells:=fun j hj=>(h.cells _ (getD_in hj)).2.1 }
 acyclic:=⟨fun i=>i.toNat,fun i j hi hj ho=>by
  have h1:=h.oq i j hi hj ho
  have h2:=hi.1.1; have h3:=hj.1.1
  show j.toNat < i.toNat
  omega⟩
 small := {
  name:=by show nB.size <= _; decide
  aa:=by show ws.length <= _; omega
  cells:=by show cs.length <= _; omega
  args:=fun c hc=>by have:=(h.cells c hc).2.2.2; omega
  DW:=by
   have:=BT (l:=cs) (fun c hc=>(h.cells c hc).2.2.2)
   show (cs.map (fun c=>c.args.length)).sum <= _
   omega
  Ak:=fun c hc=>(h.cells c hc).2.2.1
  mK:=fun m NB=>by have:=(hm m NB).1.2; omega
  mL:=fun m NB=>by have:=(hs m NB).2; omega
  ins:=by show ins.length <= _; omega
  aA:=by show aA.length <= _; omega
  streams:=by show streams.length <= _; omega
  ba:=by show ba.length <= _; omega
  data:=by show data.length <= _; omega
  bF:=by show bF.length <= _; omega }
 dH:=ve
 dr:=Xf
 mO:=fun c hc=>(h.cells c hc).2.2.2
 nX:=O1
 kq:=O0
 cG:=SS
 yb:=SU
end
structure nt.R3(p:nt):Prop where
 aA:p.aA.length <= 3
 streams:p.streams.length <= 4
 ins:p.ins.length <= 4
 parts:p.parts.length <= 40
 bF:p.bF.length <= 3
structure nt.Ok(p:nt):Prop where
 aA:∀ m ∈ p.aA,m.a < 256 /\ m.b < 256
 streams:∀ m ∈ p.streams,m.a < 256 /\ m.b < 256
 ins:∀ k ∈ p.ins,k < 256
 parts:∀ q ∈ p.parts,q.Ok
 bF:∀ k ∈ p.bF,k < 256
theorem tF{α:Type}{P:α -> Prop}{l:List α}{c:α}(h:∀ m ∈ l,P m)(hc:P c):∀ m ∈ l ++ [c],P m:=by
 intro m hm
 rcases List.mem_append.1 hm with h1 | h1
 ·exact h m h1
 ·rw [List.mem_singleton.1 h1]; exact hc
theorem At{x:Nat}{l:Int}(h:1 <= l /\ l <= 4096):mM ⟨mB,a7 x,l,0,0⟩ /\ ∃ k,(⟨mB,a7 x,l,0,0⟩:dW).width = a7 k :=
 ⟨⟨sw 109 (by unfold jb; decide),dK x,h.1,h.2,rfl,rfl⟩,x,rfl⟩
theorem Au{x:Nat}{o:Bool}:nW (⟨sB,a7 x,o⟩:b8).name /\ ∃ k,(⟨sB,a7 x,o⟩:b8).width = a7 k:=⟨sw 115 (by unfold jb; decide),x,rfl⟩
theorem Gr.KX{ws : List Int}{cs : List Cell}{ins : List Int}{aA : List dW}{streams : List b8}(h : Gr (pn ws cs ins aA streams)){i : Nat}(hi : i < cs.length) :
  In (cs.getD ((((cs.length:Int) - 1) - (i:Int)).toNat) default).out ws.length \/ (cs.getD ((((cs.length:Int) - 1) - (i:Int)).toNat) default).kind ≠ 4:=by
 by_cases h4:(cs.getD ((((cs.length:Int) - 1) - (i:Int)).toNat) default).kind = 4
 ·exact .inl (h.outs om h4)
 ·exact .inr h4
def BU(ws:List Int)(streams:List b8)(i:Nat)(d0 d:List Int):Prop :=
 d.length = i + 1 /\ (∀ j,j < i -> d.getD j 0 = d0.getD j 0) /\ ((streams.getD i default).out = true -> In (d.getD i 0) ws.length /\ ws.getD (d.getD i 0).toNat 0 = (streams.getD i default).width) /\ ((streams.getD i default).out = false -> d.getD i 0 = -1)
theorem yd{ws : List Int}{streams : List b8}{i : Nat}{d0 : List Int}{x : Int}(hl : d0.length = i)(hx : In x ws.length ∧ ws.getD x.toNat 0 = (streams.getD i default).width)(ho : (streams.getD i default).out = true) :
  BU ws streams i d0 ((d0 ++ ([-1]:List Int)).set i x):=by
 have e:((d0 ++ ([-1]:List Int)).set i x).getD i 0 = x:=by rw [bR,if_pos ⟨rfl,by simp; omega⟩]
 refine ⟨by simp [hl],fun j hj=>?_,fun _=>by rw [e]; exact hx,fun h=>by rw [ho] at h; cases h⟩
 rw [bR,if_neg om,jR om]
theorem ye{ws:List Int}{streams:List b8}{i:Nat}{d0:List Int}(hl:d0.length = i)(ho:(streams.getD i default).out = false):BU ws streams i d0 (d0 ++ ([-1]:List Int)) :=
 ⟨by simp [hl],fun j hj=>jR om,fun h=>(by rw [ho] at h; cases h),fun _=>nC hl.symm⟩
theorem Da{ws : List Int}{streams : List b8}{i : Nat}{a d0 d : List Int}{x : Int}(tk : a.length = i)(h : ∀ j, j < i → vF ws streams a d0 j)(hx : In x ws.length ∧ ws.getD x.toNat 0 = 1)(hd : BU ws streams i d0 d) :
  ∀ j,j < i + 1 -> vF ws streams (a ++ [x]) d j:=by
 intro j hj
 rcases Nat.lt_or_ge j i with h1 | h1
 ·have h2:=h j h1
  unfold vF at *
  rw [jR om,hd.2.1 j h1]; exact h2
 ·obtain rfl:j = i:=by omega
  unfold vF
  rw [nC tk.symm]
  exact ⟨hx,hd.2.2.1,hd.2.2.2⟩
open Go Go.AW Go.Proofs
section
variable {H:Type} {enc:TypeId × Value -> H} {W:World} {base:Nat}
theorem Fc:Try.prog.cellsOf 5 = 1:=by kernel_rfl
theorem KY:Try.prog.cellsOf 138 = 3:=by kernel_rfl
theorem SV:Reads enc Try.prog W base 81 U2.row (fun m=>m.a < 256 /\ m.b < 256) (fun _=>0) :=
 (Reads.SJ Try.underlying81 Fc au ss).map (fun x=>(⟨x.1,x.2⟩:U2)) (fun _=>rfl) (fun _ h=>h) (fun _=>Nat.zero_le _)
theorem SW:Reads enc Try.prog W base 138 (fun x:Nat × Nat × Nat=>uj x.1 ++ (uj x.2.1 ++ uj x.2.2)) (fun x=>x.1 < 256 /\ x.2.1 < 256 /\ x.2.2 < 256) (fun _=>0):=Reads.SK Try.underlying138 Fc au ss
theorem O2:Reads enc Try.prog W base 140 sb.row sb.Ok (fun _=>0) :=
 (Reads.struct Try.underlying140 au (gB.cons rfl Fc ss (gB.cons rfl Fc ss (gB.cons rfl Fc ss (gB.cons rfl KY SW (gB.cons rfl Ol HW gB.nil)))))).map
  (fun x=>(⟨x.1,x.2.1,x.2.2.1,x.2.2.2.1.1,x.2.2.2.1.2.1,x.2.2.2.1.2.2,x.2.2.2.2.1⟩:sb)) (fun _=>rfl) (fun x h=>⟨h.1,h.2.1,h.2.2.1,h.2.2.2.1.1,h.2.2.2.1.2.1,h.2.2.2.1.2.2,h.2.2.2.2.1⟩) (fun _=>Nat.zero_le _)
theorem JB:Reads enc Try.prog W base 54 (fun l:List U2=>[.fz 2 (l.map U2.row)]) (fun l=>l.length * 2 <= 140737488351232 /\ ∀ a ∈ l,a.a < 256 /\ a.b < 256) (fun l=>(l.map (fun _=>0)).sum):=Reads.slice Try.underlying54 au ae au SV
theorem JC:Reads enc Try.prog W base 55 (fun l:List Nat=>[.fz 1 (l.map uj)]) (fun l=>l.length * 1 <= 140737488351232 /\ ∀ a ∈ l,a < 256) (fun l=>(l.map (fun _=>1)).sum):=Reads.slice Try.underlying55 au ae au ss
theorem KZ:Reads enc Try.prog W base 56 (fun l:List sb=>[.fz 7 (l.map sb.row)]) (fun l=>l.length * 16 <= 140737488351232 /\ ∀ a ∈ l,a.Ok) (fun l=>(l.map (fun _=>0)).sum):=Reads.slice Try.underlying56 au ae au O2
theorem JD:Try.prog.cellsOf 54 = 1:=by kernel_rfl
theorem JE:Try.prog.cellsOf 55 = 1:=by kernel_rfl
theorem O3:Try.prog.cellsOf 56 = 1:=by kernel_rfl
theorem O4:Reads enc Try.prog W base 58 nt.row nt.Ok (fun _=>0) :=
 (Reads.struct Try.underlying58 au (gB.cons rfl JD JB (gB.cons rfl JD JB (gB.cons rfl JE JC (gB.cons rfl O3 KZ (gB.cons rfl JE JC gB.nil)))))).map
  (fun x=>(⟨x.1,x.2.1,x.2.2.1,x.2.2.2.1,x.2.2.2.2.1⟩:nt)) (fun _=>rfl) (fun x h=>⟨h.1.2,h.2.1.2,h.2.2.1.2,h.2.2.2.1.2,h.2.2.2.2.1.2⟩) (fun _=>Nat.zero_le _)
end
open Go Go.AW Go.Proofs
end Go.Proofs.Ytlimckldnjmabaa
namespace Go.Proofs.Ytlimckldnjmabaa
open Go Go.AW Go.Proofs
theorem rr:TY.jH Try.prog 100 0 = some (0,3):=by kernel_rfl
theorem fL:TY.jH Try.prog 100 2 = some (2,3):=by kernel_rfl
theorem ru:TY.jH Try.prog 100 3 = some (3,3):=by kernel_rfl
theorem ry:TY.jH Try.prog 100 4 = some (4,3):=by kernel_rfl
theorem et:TY.jH Try.prog 100 5 = some (5,3):=by kernel_rfl
theorem Ie:TY.jH Try.prog 128 0 = some (0,9):=by kernel_rfl
theorem rz:TY.jH Try.prog 128 1 = some (1,3):=by kernel_rfl
theorem BV:TY.jH Try.prog 128 2 = some (2,3):=by kernel_rfl
theorem Ig:TY.jH Try.prog 128 3 = some (3,3):=by kernel_rfl
theorem Ih:TY.jH Try.prog 128 4 = some (4,3):=by kernel_rfl
theorem Ii:TY.jH Try.prog 130 0 = some (0,9):=by kernel_rfl
theorem r3:TY.jH Try.prog 130 1 = some (1,3):=by kernel_rfl
theorem kf:TY.jH Try.prog 130 2 = some (2,4):=by kernel_rfl
theorem La:TY.jH Try.prog 27 0 = some (0,9):=by kernel_rfl
theorem cg:TY.jH Try.prog 27 1 = some (1,22):=by kernel_rfl
theorem nD:TY.jH Try.prog 27 10 = some (10,22):=by kernel_rfl
theorem cK:TY.jH Try.prog 27 2 = some (2,23):=by kernel_rfl
theorem mr:TY.jH Try.prog 27 3 = some (3,22):=by kernel_rfl
theorem gP:TY.jH Try.prog 27 4 = some (4,24):=by kernel_rfl
theorem eI:TY.jH Try.prog 27 5 = some (5,25):=by kernel_rfl
theorem nE:TY.jH Try.prog 27 6 = some (6,22):=by kernel_rfl
theorem nG:TY.jH Try.prog 27 7 = some (7,22):=by kernel_rfl
theorem mu:TY.jH Try.prog 27 8 = some (8,3):=by kernel_rfl
theorem w8:TY.jH Try.prog 27 9 = some (9,3):=by kernel_rfl
theorem du:TY.jH Try.prog 73 0 = some (0,3):=by kernel_rfl
theorem eQ:TY.jH Try.prog 73 1 = some (1,3):=by kernel_rfl
theorem eR:TY.jH Try.prog 73 2 = some (2,3):=by kernel_rfl
theorem cd:TY.jH Try.prog 73 3 = some (3,22):=by kernel_rfl
theorem eh:TY.jH Try.prog 73 4 = some (4,66):=by kernel_rfl
theorem dv:TY.jH Try.prog 73 5 = some (5,3):=by kernel_rfl
theorem O5:TY.isInt Try.prog 232 = some .u64:=by kernel_rfl
theorem sx:TY.isInt Try.prog 3 = some .i64:=by kernel_rfl
theorem w9:TY.isInt Try.prog 5 = some .u8:=by kernel_rfl
theorem Av:TY.isInt Try.prog 66 = some .u64:=by kernel_rfl
theorem O6:aU Try.prog 108 = true:=by kernel_rfl
theorem O7:aU Try.prog 109 = true:=by kernel_rfl
theorem vG:aU Try.prog 117 = true:=by kernel_rfl
theorem O8:aU Try.prog 118 = true:=by kernel_rfl
theorem JF:aU Try.prog 123 = true:=by kernel_rfl
theorem JG:aU Try.prog 153 = true:=by kernel_rfl
theorem Fe:aU Try.prog 154 = true:=by kernel_rfl
theorem Ff:aU Try.prog 155 = true:=by kernel_rfl
theorem uu:aU Try.prog 156 = true:=by kernel_rfl
theorem JH:aU Try.prog 157 = true:=by kernel_rfl
theorem O9:aU Try.prog 158 = true:=by kernel_rfl
theorem OA:aU Try.prog 159 = true:=by kernel_rfl
theorem OB:aU Try.prog 160 = true:=by kernel_rfl
theorem OC:aU Try.prog 161 = true:=by kernel_rfl
theorem OD:aU Try.prog 162 = true:=by kernel_rfl
theorem OE:aU Try.prog 163 = true:=by kernel_rfl
theorem OF:aU Try.prog 164 = true:=by kernel_rfl
theorem OG:aU Try.prog 167 = true:=by kernel_rfl
theorem BW:aU Try.prog 174 = true:=by kernel_rfl
theorem OH:aU Try.prog 184 = true:=by kernel_rfl
theorem OI:aU Try.prog 185 = true:=by kernel_rfl
theorem Fg:aU Try.prog 186 = true:=by kernel_rfl
theorem OJ:aU Try.prog 187 = true:=by kernel_rfl
theorem OK:aU Try.prog 188 = true:=by kernel_rfl
theorem JI:aU Try.prog 189 = true:=by kernel_rfl
theorem OL:aU Try.prog 190 = true:=by kernel_rfl
theorem OM:aU Try.prog 194 = true:=by kernel_rfl
theorem ON:aU Try.prog 197 = true:=by kernel_rfl
theorem SX:aU Try.prog 42 = true:=by kernel_rfl
theorem Lb:aU Try.prog 52 = true:=by kernel_rfl
theorem SY:aU Try.prog 80 = true:=by kernel_rfl
theorem SZ:aU Try.prog 81 = true:=by kernel_rfl
theorem Ta:aU Try.prog 88 = true:=by kernel_rfl
theorem Dc:aU Try.prog 93 = true:=by kernel_rfl
theorem yf:TY.gA Try.prog 100 = some [(0,1),(1,1),(2,1),(3,1),(4,1),(5,1)]:=by kernel_rfl
theorem wA:TY.gA Try.prog 73 = some [(0,1),(1,1),(2,1),(3,1),(4,1),(5,1)]:=by kernel_rfl
theorem iM:TY.shape Try.prog 100 = some (some 6):=by kernel_rfl
theorem OO:TY.shape Try.prog 128 = some (some 5):=by kernel_rfl
theorem JJ:TY.shape Try.prog 130 = some (some 3):=by kernel_rfl
theorem bu:TY.shape Try.prog 22 = some none:=by kernel_rfl
theorem iz:TY.shape Try.prog 23 = some none:=by kernel_rfl
theorem pN:TY.shape Try.prog 24 = some none:=by kernel_rfl
theorem l6:TY.shape Try.prog 25 = some none:=by kernel_rfl
theorem er:TY.shape Try.prog 27 = some (some 11):=by kernel_rfl
theorem bw:TY.shape Try.prog 3 = some none:=by kernel_rfl
theorem Dd:TY.shape Try.prog 4 = some none:=by kernel_rfl
theorem iN:TY.shape Try.prog 66 = some none:=by kernel_rfl
theorem fq:TY.shape Try.prog 73 = some (some 6):=by kernel_rfl
theorem Tb:TY.shape Try.prog 9 = some none:=by kernel_rfl
theorem Aw:TY.shape Try.prog 98 = some none:=by kernel_rfl
theorem fV:TY.size Try.prog 100 = some 6:=by kernel_rfl
theorem OP:TY.size Try.prog 128 = some 5:=by kernel_rfl
theorem JK:TY.size Try.prog 130 = some 3:=by kernel_rfl
theorem eD:TY.size Try.prog 22 = some 1:=by kernel_rfl
theorem wB:TY.size Try.prog 23 = some 1:=by kernel_rfl
theorem fW:TY.size Try.prog 3 = some 1:=by kernel_rfl
theorem Xg:TY.size Try.prog 4 = some 1:=by kernel_rfl
theorem fJ:TY.size Try.prog 73 = some 6:=by kernel_rfl
theorem Tc:TY.size Try.prog 98 = some 1:=by kernel_rfl
theorem cb:TY.slice Try.prog 105 = some (22,1,24):=by kernel_rfl
theorem az:TY.slice Try.prog 22 = some (3,1,8):=by kernel_rfl
theorem dZ:TY.slice Try.prog 23 = some (73,6,64):=by kernel_rfl
theorem mw:TY.slice Try.prog 24 = some (128,5,48):=by kernel_rfl
theorem jz:TY.slice Try.prog 25 = some (130,3,32):=by kernel_rfl
theorem yg:TY.slice Try.prog 62 = some (4,1,1):=by kernel_rfl
theorem YO:Try.prog.underlying 4 = some .bool:=by kernel_rfl
theorem R4:Try.prog.underlying 9 = some .string:=by kernel_rfl
theorem sR:TY.zero Try.prog 100 = some [.int .i64 0,.int .i64 0,.int .i64 0,.int .i64 0,.int .i64 0,.int .i64 0]:=by kernel_rfl
theorem nY:TY.zero Try.prog 128 = some [.string ByteArray.empty,.int .i64 0,.int .i64 0,.int .i64 0,.int .i64 0]:=by kernel_rfl
theorem mP:TY.zero Try.prog 130 = some [.string ByteArray.empty,.int .i64 0,.bool false]:=by kernel_rfl
theorem mQ:TY.zero Try.prog 22 = some [.slice none 0 0]:=by kernel_rfl
theorem cP:TY.zero Try.prog 3 = some [.int .i64 0]:=by kernel_rfl
theorem Xh:TY.zero Try.prog 4 = some [.bool false]:=by kernel_rfl
theorem e8:TY.zero Try.prog 73 = some [.int .i64 0,.int .i64 0,.int .i64 0,.slice none 0 0,.int .u64 0,.int .i64 0]:=by kernel_rfl
theorem Td:TY.zero Try.prog 98 = some [.nilFunc]:=by kernel_rfl
open Go Go.AW Go.Proofs
theorem oP:TY.array Try.prog 138 = some (3,5,1):=by kernel_rfl
theorem Ij:TY.array Try.prog 81 = some (2,5,1):=by kernel_rfl
theorem tG:TY.jH Try.prog 116 0 = some (0,3):=by kernel_rfl
theorem tH:TY.jH Try.prog 116 1 = some (1,22):=by kernel_rfl
theorem Ik:TY.jH Try.prog 140 0 = some (0,5):=by kernel_rfl
theorem p8:TY.jH Try.prog 140 1 = some (1,5):=by kernel_rfl
theorem BX:TY.jH Try.prog 140 2 = some (2,5):=by kernel_rfl
theorem j0:TY.jH Try.prog 140 3 = some (3,138):=by kernel_rfl
theorem tI:TY.jH Try.prog 140 4 = some (6,66):=by kernel_rfl
theorem wC:TY.jH Try.prog 58 0 = some (0,54):=by kernel_rfl
theorem wD:TY.jH Try.prog 58 1 = some (1,54):=by kernel_rfl
theorem Ax:TY.jH Try.prog 58 2 = some (2,55):=by kernel_rfl
theorem qI:TY.jH Try.prog 58 3 = some (3,56):=by kernel_rfl
theorem Ay:TY.jH Try.prog 58 4 = some (4,55):=by kernel_rfl
theorem OQ:aU Try.prog 101 = true:=by kernel_rfl
theorem OR:aU Try.prog 106 = true:=by kernel_rfl
theorem OS:aU Try.prog 107 = true:=by kernel_rfl
theorem OT:aU Try.prog 119 = true:=by kernel_rfl
theorem OU:aU Try.prog 124 = true:=by kernel_rfl
theorem OV:aU Try.prog 144 = true:=by kernel_rfl
theorem OW:aU Try.prog 145 = true:=by kernel_rfl
theorem OX:aU Try.prog 146 = true:=by kernel_rfl
theorem OY:aU Try.prog 151 = true:=by kernel_rfl
theorem OZ:aU Try.prog 152 = true:=by kernel_rfl
theorem Pa:aU Try.prog 181 = true:=by kernel_rfl
theorem Pb:aU Try.prog 182 = true:=by kernel_rfl
theorem Pc:aU Try.prog 35 = true:=by kernel_rfl
theorem vj:aU Try.prog 64 = true:=by kernel_rfl
theorem Pd:aU Try.prog 65 = true:=by kernel_rfl
theorem Te:aU Try.prog 66 = true:=by kernel_rfl
theorem jc:aU Try.prog 67 = true:=by kernel_rfl
theorem Fh:TY.gA Try.prog 116 = some [(0,1),(1,1)]:=by kernel_rfl
theorem Fi:TY.gA Try.prog 128 = some [(0,1),(1,1),(2,1),(3,1),(4,1)]:=by kernel_rfl
theorem Fj:TY.gA Try.prog 130 = some [(0,1),(1,1),(2,1)]:=by kernel_rfl
theorem Pe:TY.gA Try.prog 27 = some [(0,1),(1,1),(2,1),(3,1),(4,1),(5,1),(6,1),(7,1),(8,1),(9,1),(10,1)]:=by kernel_rfl
theorem Pf:TY.shape Try.prog 116 = some (some 2):=by kernel_rfl
theorem Fk:TY.shape Try.prog 140 = some (some 7):=by kernel_rfl
theorem sS:TY.shape Try.prog 5 = some none:=by kernel_rfl
theorem yh:TY.shape Try.prog 54 = some none:=by kernel_rfl
theorem De:TY.shape Try.prog 55 = some none:=by kernel_rfl
theorem Az:TY.shape Try.prog 56 = some none:=by kernel_rfl
theorem mR:TY.size Try.prog 116 = some 2:=by kernel_rfl
theorem Il:TY.size Try.prog 24 = some 1:=by kernel_rfl
theorem Im:TY.size Try.prog 25 = some 1:=by kernel_rfl
theorem Io:TY.size Try.prog 27 = some 11:=by kernel_rfl
theorem Ip:TY.size Try.prog 66 = some 1:=by kernel_rfl
theorem yi:TY.slice Try.prog 54 = some (81,2,2):=by kernel_rfl
theorem Df:TY.slice Try.prog 55 = some (5,1,1):=by kernel_rfl
theorem AA:TY.slice Try.prog 56 = some (140,7,16):=by kernel_rfl
theorem l8:TY.zero Try.prog 116 = some [.int .i64 0,.slice none 0 0]:=by kernel_rfl
theorem Dg:TY.zero Try.prog 27 = some [.string ByteArray.empty,.slice none 0 0,.slice none 0 0,.slice none 0 0,.slice none 0 0,.slice none 0 0,.slice none 0 0,.slice none 0 0,.int .i64 0,.int .i64 0,.slice none 0 0]:=by kernel_rfl
open Go Go.AW Go.Proofs
theorem p9:TY.jH Try.prog 107 0 = some (0,85):=by kernel_rfl
theorem fM:TY.jH Try.prog 107 1 = some (1,105):=by kernel_rfl
theorem nH:TY.jH Try.prog 107 2 = some (2,105):=by kernel_rfl
theorem wE:TY.jH Try.prog 114 0 = some (0,3):=by kernel_rfl
theorem Iq:TY.jH Try.prog 114 1 = some (1,3):=by kernel_rfl
theorem Ir:TY.jH Try.prog 114 2 = some (2,3):=by kernel_rfl
theorem pA:TY.jH Try.prog 159 0 = some (0,85):=by kernel_rfl
theorem lW:TY.jH Try.prog 221 0 = some (0,3):=by kernel_rfl
theorem kU:TY.jH Try.prog 221 1 = some (1,3):=by kernel_rfl
theorem sT:aU Try.prog 125 = true:=by kernel_rfl
theorem Pg:aU Try.prog 126 = true:=by kernel_rfl
theorem Ph:aU Try.prog 127 = true:=by kernel_rfl
theorem Fl:aU Try.prog 128 = true:=by kernel_rfl
theorem Fm:aU Try.prog 129 = true:=by kernel_rfl
theorem JL:aU Try.prog 130 = true:=by kernel_rfl
theorem BY:aU Try.prog 131 = true:=by kernel_rfl
theorem Pj:aU Try.prog 132 = true:=by kernel_rfl
theorem Fo:aU Try.prog 142 = true:=by kernel_rfl
theorem yj:aU Try.prog 143 = true:=by kernel_rfl
theorem vH:aU Try.prog 175 = true:=by kernel_rfl
theorem JM:aU Try.prog 176 = true:=by kernel_rfl
theorem Pk:aU Try.prog 177 = true:=by kernel_rfl
theorem Fp:aU Try.prog 178 = true:=by kernel_rfl
theorem Pm:aU Try.prog 195 = true:=by kernel_rfl
theorem JN:aU Try.prog 198 = true:=by kernel_rfl
theorem Tf:aU Try.prog 22 = true:=by kernel_rfl
theorem Tg:aU Try.prog 46 = true:=by kernel_rfl
theorem Th:aU Try.prog 47 = true:=by kernel_rfl
theorem Ti:aU Try.prog 77 = true:=by kernel_rfl
theorem Tj:aU Try.prog 78 = true:=by kernel_rfl
theorem Tk:aU Try.prog 79 = true:=by kernel_rfl
theorem Tl:aU Try.prog 92 = true:=by kernel_rfl
theorem Tm:aU Try.prog 94 = true:=by kernel_rfl
theorem uv:aU Try.prog 95 = true:=by kernel_rfl
theorem tl:aU Try.prog 96 = true:=by kernel_rfl
theorem Is:aU Try.prog 97 = true:=by kernel_rfl
theorem r4:TY.gA Try.prog 107 = some [(0,1),(1,1),(2,1)]:=by kernel_rfl
theorem JO:TY.gA Try.prog 114 = some [(0,1),(1,1),(2,1)]:=by kernel_rfl
theorem Pn:TY.gA Try.prog 159 = some [(0,1)]:=by kernel_rfl
theorem BZ:TY.gA Try.prog 221 = some [(0,1),(1,1)]:=by kernel_rfl
theorem gQ:TY.shape Try.prog 105 = some none:=by kernel_rfl
theorem pU:TY.shape Try.prog 107 = some (some 3):=by kernel_rfl
theorem Po:TY.shape Try.prog 114 = some (some 3):=by kernel_rfl
theorem Fq:TY.shape Try.prog 221 = some (some 2):=by kernel_rfl
theorem Pp:TY.shape Try.prog 58 = some (some 5):=by kernel_rfl
theorem wF:TY.shape Try.prog 85 = some none:=by kernel_rfl
theorem oQ:TY.size Try.prog 107 = some 3:=by kernel_rfl
theorem Pq:TY.size Try.prog 114 = some 3:=by kernel_rfl
theorem Ca:TY.size Try.prog 221 = some 2:=by kernel_rfl
theorem Lc:TY.size Try.prog 85 = some 1:=by kernel_rfl
theorem ea:TY.slice Try.prog 219 = some (221,2,16):=by kernel_rfl
theorem uw:TY.slice Try.prog 85 = some (114,3,24):=by kernel_rfl
theorem jJ:TY.zero Try.prog 107 = some [.slice none 0 0,.slice none 0 0,.slice none 0 0]:=by kernel_rfl
theorem ux:TY.zero Try.prog 114 = some [.int .i64 0,.int .i64 0,.int .i64 0]:=by kernel_rfl
theorem Pr:TY.zero Try.prog 159 = some [.slice none 0 0]:=by kernel_rfl
theorem jj:TY.zero Try.prog 221 = some [.int .i64 0,.int .i64 0]:=by kernel_rfl
open Go Go.AW Go.Proofs
theorem JP:TY.array Try.prog 224 = some (2,3,1):=by kernel_rfl
theorem Ps:aU Try.prog 102 = true:=by kernel_rfl
theorem Pt:aU Try.prog 147 = true:=by kernel_rfl
theorem Pu:aU Try.prog 148 = true:=by kernel_rfl
theorem Pv:aU Try.prog 150 = true:=by kernel_rfl
theorem Pw:aU Try.prog 183 = true:=by kernel_rfl
theorem Px:aU Try.prog 50 = true:=by kernel_rfl
theorem yk:aU Try.prog 51 = true:=by kernel_rfl
theorem JQ:TY.size Try.prog 105 = some 1:=by kernel_rfl
theorem ym:TY.slice Try.prog 225 = some (105,1,24):=by kernel_rfl
theorem Py:TY.zero Try.prog 105 = some [.slice none 0 0]:=by kernel_rfl
theorem Pz:TY.zero Try.prog 224 = some [.int .i64 0,.int .i64 0]:=by kernel_rfl
open Go Go.AW
structure Gate where
 kind:Int
 a:Int
 b:Int
instance:Inhabited Gate:=⟨⟨0,0,0⟩⟩
def Gate.row(g:Gate):List X:=[.v (.int .i64 g.kind),.v (.int .i64 g.a),.v (.int .i64 g.b)]
theorem Gate.bx(g:Gate):X.b5 g.row = true:=rfl
theorem Gate.lz(g:Gate):X.fj g.row:=by simp [Gate.row,X.fj,X.plain]
def kI(i:Nat)(g:Gate):Prop :=
 (1 <= g.kind /\ g.kind <= 7) /\ (if 4 <= g.kind then 0 <= g.a /\ g.a < i else g.a = 0) /\ (if 5 <= g.kind then 0 <= g.b /\ g.b < i else g.b = 0)
def Good(l:List Gate):Prop:=∀ i g,l[i]? = some g -> kI i g
def oR(l:List Gate):Nat:=l.countP (fun g=>decide (g.kind = 3))
theorem lY(l e:List Gate):oR (l ++ e) = oR l + oR e:=List.countP_append
theorem r6(g:Gate):oR [g] = if g.kind = 3 then 1 else 0:=by simp [oR,List.countP_cons]
theorem Good.nil:Good []:=fun i g h=>by simp at h
theorem Good.snoc{l:List Gate}{g:Gate}(h:Good l)(hg:kI l.length g):Good (l ++ [g]):=by
 intro i q hi
 rcases Nat.lt_or_ge i l.length with h1 | h1
 ·rw [List.getElem?_append_left h1] at hi; exact h i q hi
 ·rw [List.getElem?_append_right h1] at hi
  rcases Nat.eq_zero_or_pos (i - l.length) with h2 | h2
  ·rw [h2] at hi; simp at hi; subst hi
   rwa [show i = l.length by omega]
  ·rw [List.getElem?_eq_none (by simp; omega)] at hi; cases hi
theorem Good.left{l e:List Gate}(h:Good (l ++ e)):Good l:=fun i g hi=>h i g (by
 have:i < l.length:=(List.getElem?_eq_some_iff.1 hi).1
 rw [List.getElem?_append_left this]; exact hi)
def valOf(out ins:List Bool)(n:Nat)(g:Gate):Bool :=
 if g.kind = 2 then true else if g.kind = 3 then ins.getD n false else if g.kind = 4 then !out.getD g.a.toNat false
 else if g.kind = 5 then out.getD g.a.toNat false && out.getD g.b.toNat false else if g.kind = 6 then out.getD g.a.toNat false || out.getD g.b.toNat false
 else if g.kind = 7 then out.getD g.a.toNat false != out.getD g.b.toNat false else false
def zG(out ins:List Int)(n:Nat)(g:Gate):Int :=
 if g.kind = 3 then ins.getD n 0 else if g.kind = 4 then out.getD g.a.toNat 0 + 10 else if 5 <= g.kind /\ g.kind <= 7 then max (out.getD g.a.toNat 0) (out.getD g.b.toNat 0) + 20 else 0
section
variable {α:Type} (f:List α -> Nat -> Gate -> α)
def ou(l : List Gate) : Nat → List α
 | 0=>[]
 | i + 1=>ou l i ++ (match l[i]? with | some g=>[f (ou l i) (oR (l.take i)) g] | none=>[])
theorem jS{l:List Gate}{i:Nat}{q:Gate}(hg:l[i]? = some q):ou f l (i + 1) = ou f l i ++ [f (ou f l i) (oR (l.take i)) q]:=by
 simp [ou,hg]
theorem kt{l : List Gate} : ∀ {i : Nat}, i ≤ l.length → (ou f l i).length = i
 | 0,_=>rfl
 | i + 1,h=>by
  rw [jS f (List.getElem?_eq_getElem (show i < l.length by omega)),List.length_append,kt om]; rfl
theorem u0{l e : List Gate} : ∀ {i : Nat}, i ≤ l.length → ou f (l ++ e) i = ou f l i
 | 0,_=>rfl
 | i + 1,h=>by
  have hg:l[i]? = some l[i]:=List.getElem?_eq_getElem (show i < l.length by omega)
  have YR:(l ++ e)[i]? = some l[i]:=by rw [List.getElem?_append_left om]; exact hg
  rw [jS f hg,jS f YR,u0 om,List.take_append_of_le_length om]
theorem sy{l:List Gate}{g:Gate}:ou f (l ++ [g]) (l.length + 1) = ou f l l.length ++ [f (ou f l l.length) (oR l) g]:=by
 rw [jS f (q:=g) (by simp),u0 f (Nat.le_refl _),List.take_append_of_le_length (Nat.le_refl _),List.take_length]
end
def outs(l:List Gate)(ins:List Bool)(i:Nat):List Bool:=ou (fun o n g=>valOf o ins n g) l i
def nZ(l:List Gate)(ins:List Int)(i:Nat):List Int:=ou (fun o n g=>zG o ins n g) l i
def val(l:List Gate)(ins:List Bool)(i:Int):Bool:=(outs l ins l.length).getD i.toNat false
def Dh(c:Int)(l:List Gate)(i:Int):Int:=(nZ l (List.replicate (oR l) c) l.length).getD i.toNat 0
theorem Di{o ins yt:List Int}{n:Nat}{g:Gate}(h:g.kind = 3 -> ins.getD n 0 = yt.getD n 0):zG o ins n g = zG o yt n g:=by
 unfold zG
 by_cases h3:g.kind = 3
 ·rw [if_pos h3,if_pos h3,h h3]
 ·rw [if_neg h3,if_neg h3]
theorem PF{o ins yt:List Int}{n n':Nat}{g:Gate}(h:g.kind ≠ 3):zG o ins n g = zG o yt n' g:=by
 unfold zG
 rw [if_neg h,if_neg h]
theorem sV{l : List Gate}{ins yt : List Int}(h : ∀ k, k < oR l → ins.getD k 0 = yt.getD k 0) : ∀ {i : Nat}, i ≤ l.length → nZ l ins i = nZ l yt i
 | 0,_=>rfl
 | i + 1,hi=>by
  have hg:l[i]? = some l[i]:=List.getElem?_eq_getElem (show i < l.length by omega)
  have ih:=sV h (i:=i) om
  unfold nZ at ih ⊢
  rw [jS _ hg,jS _ hg,ih]
  congr 2
  refine Di fun h3=>h _ ?_
  have h1:oR l = oR (l.take i) + oR (l.drop i):=by rw [<- lY,List.take_append_drop]
  have h2:1 <= oR (l.drop i):=by
   have h4:l.drop i = [l[i]] ++ l.drop (i + 1):=List.drop_eq_getElem_cons (show i < l.length by omega)
   rw [h4,lY,r6,if_pos h3]; omega
  omega
theorem u3{n k:Nat}{c:Int}(h:k < n):(List.replicate n c).getD k 0 = c:=by
 rw [List.getD_eq_getElem?_getD,List.getElem?_replicate,if_pos h]; rfl
theorem yu{α : Type}{l : List Gate}{f : List α → Nat → Gate → α}{i j : Nat}(hi : i < j) : ∀ {m : Nat}, j ≤ m → m ≤ l.length → (ou f l m)[i]? = (ou f l j)[i]?
 | 0,h,_=>by omega
 | m + 1,h,hl=>by
  rcases Nat.lt_or_ge m j with h1 | h1
  ·rw [show m + 1 = j by omega]
  ·rw [jS f (List.getElem?_eq_getElem (show m < l.length by omega)),List.getElem?_append_left (by rw [kt f om]; omega)]
   exact yu hi h1 om
theorem vN{α:Type}{l:List Gate}{f:List α -> Nat -> Gate -> α}{e:List Gate}{i:Nat}{d:α}(h:i < l.length):(ou f (l ++ e) (l ++ e).length).getD i d = (ou f l l.length).getD i d:=by
 rw [List.getD_eq_getElem?_getD,List.getD_eq_getElem?_getD,yu (j:=l.length) h (by simp) (Nat.le_refl _),u0 f (Nat.le_refl _)]
theorem Cd{l e:List Gate}{ins:List Bool}{i:Int}(h0:0 <= i)(h:i < l.length):val (l ++ e) ins i = val l ins i:=vN om
theorem Ce{l e:List Gate}{c i:Int}(h0:0 <= i)(h:i < l.length):Dh c (l ++ e) i = Dh c l i:=by
 unfold Dh
 have h1:(nZ (l ++ e) (List.replicate (oR (l ++ e)) c) (l ++ e).length).getD i.toNat 0 = (nZ l (List.replicate (oR (l ++ e)) c) l.length).getD i.toNat 0:=vN om
 rw [h1,sV (yt:=List.replicate (oR l) c) (fun k hk=>by rw [u3 (by rw [lY]; omega),u3 hk]) (Nat.le_refl _)]
theorem jT{α:Type}{l:List α}{x d:α}{n:Nat}(h:n = l.length):(l ++ [x]).getD n d = x:=by subst h; simp
theorem val_last{l:List Gate}{g:Gate}{ins:List Bool}:val (l ++ [g]) ins (l.length:Int) = valOf (outs l ins l.length) ins (oR l) g:=by
 unfold val outs
 rw [List.length_append,List.length_singleton,sy,Int.toNat_natCast]
 exact jT (kt _ (Nat.le_refl _)).symm
theorem Fv{l:List Gate}{g:Gate}{c:Int}(h:g.kind ≠ 3):Dh c (l ++ [g]) (l.length:Int) = zG (nZ l (List.replicate (oR l) c) l.length) [] 0 g:=by
 have h1:oR (l ++ [g]) = oR l:=by rw [lY,r6,if_neg h]; omega
 unfold Dh nZ
 rw [h1,List.length_append,List.length_singleton,sy,Int.toNat_natCast,jT (kt _ (Nat.le_refl _)).symm]
 exact PF h
open Go Go.AW
structure Ext(l l':List Gate):Prop where
 ex:∃ e,l' = l ++ e /\ ∀ g ∈ e,g.kind ≠ 3
 dw:Good l'
theorem Ext.refl{l:List Gate}(h:Good l):Ext l l:=⟨⟨[],by simp,by simp⟩,h⟩
theorem Ext.trans{l l' Xl:List Gate}(h:Ext l l')(h':Ext l' Xl):Ext l Xl:=by
 obtain ⟨e,he,hk⟩:=h.ex
 obtain ⟨e',YS,zB⟩:=h'.ex
 refine ⟨⟨e ++ e',by rw [YS,he,List.append_assoc],fun g hg=>?_⟩,h'.dw⟩
 rcases List.mem_append.1 hg with h1 | h1
 ·exact hk g h1
 ·exact zB g h1
theorem Ext.one{l:List Gate}{g:Gate}(h:Good l)(hg:kI l.length g)(hk:g.kind ≠ 3):Ext l (l ++ [g]) :=
 ⟨⟨[g],rfl,fun x hx=>by rw [List.mem_singleton.1 hx]; exact hk⟩,h.snoc hg⟩
theorem Ext.len{l l':List Gate}(h:Ext l l'):l.length <= l'.length:=by obtain ⟨e,rfl,_⟩:=h.ex; simp
theorem yv : ∀ {e : List Gate}, (∀ g ∈ e, g.kind ≠ 3) → oR e = 0
 | [],_=>rfl
 | g :: e,h=>by
  have h1:oR (g :: e) = oR [g] + oR e:=lY [g] e
  rw [h1,r6,if_neg (h g (by simp)),yv (fun x hx=>h x (by simp [hx]))]
theorem Ext.oR{l l':List Gate}(h:Ext l l'):oR l' = oR l:=by
 obtain ⟨e,rfl,hk⟩:=h.ex
 rw [lY,yv hk]; omega
structure Wr(c:Int)(l:List Gate)(i:Int)(f:List Bool -> Bool)(t:Int):Prop where
 lo:0 <= i
 hi:i < l.length
 v:∀ ins,val l ins i = f ins
 t:Dh c l i <= t
theorem Wr.ext{c:Int}{l l':List Gate}{i:Int}{f:List Bool -> Bool}{t:Int}(h:Wr c l i f t)(he:Ext l l'):Wr c l' i f t:=by
 have hl:=he.len
 obtain ⟨e,rfl,_⟩:=he.ex
 exact ⟨h.lo,by have:=h.hi; omega,fun ins=>by rw [Cd h.lo h.hi]; exact h.v ins,by rw [Ce h.lo h.hi]; exact h.t⟩
theorem Wr.late{c:Int}{l:List Gate}{i:Int}{f:List Bool -> Bool}{t t':Int}(h:Wr c l i f t)(ht:t <= t'):Wr c l i f t':=⟨h.lo,h.hi,h.v,by have:=h.t; omega⟩
theorem Wr.as{c:Int}{l:List Gate}{i:Int}{f f':List Bool -> Bool}{t:Int}(h:Wr c l i f t)(hf:∀ ins,f ins = f' ins):Wr c l i f' t:=⟨h.lo,h.hi,fun ins=>by rw [h.v,hf],h.t⟩
section
variable {c:Int} {l:List Gate} {a b:Int} {f g:List Bool -> Bool} {s t u:Int}
theorem Wr.last{g:Gate}{h:List Bool -> Bool}(hk:g.kind ≠ 3)(hv:∀ ins,valOf (outs l ins l.length) ins (oR l) g = h ins)(ht:zG (nZ l (List.replicate (oR l) c) l.length) [] 0 g <= u):Wr c (l ++ [g]) (l.length:Int) h u :=
 ⟨om,by simp; omega,fun ins=>by rw [val_last]; exact hv ins,by rw [Fv hk]; exact ht⟩
theorem Wr.and(ha:Wr c l a f s)(hb:Wr c l b g t)(hs:s + 20 <= u)(ht:t + 20 <= u):Wr c (l ++ [⟨5,a,b⟩]) (l.length:Int) (fun ins=>f ins && g ins) u:=by
 refine Wr.last (by simp) (fun ins=>?_) ?_
 ·have h1:=ha.v ins; have h2:=hb.v ins; unfold val at h1 h2
  simp only [valOf,h1,h2]; rfl
 ·have h1:=ha.t; have h2:=hb.t; unfold Dh at h1 h2
  simp only [zG]; rw [if_neg ae,if_neg ae,if_pos ae]; omega
theorem Wr.or(ha:Wr c l a f s)(hb:Wr c l b g t)(hs:s + 20 <= u)(ht:t + 20 <= u):Wr c (l ++ [⟨6,a,b⟩]) (l.length:Int) (fun ins=>f ins || g ins) u:=by
 refine Wr.last (by simp) (fun ins=>?_) ?_
 ·have h1:=ha.v ins; have h2:=hb.v ins; unfold val at h1 h2
  simp only [valOf,h1,h2]; rfl
 ·have h1:=ha.t; have h2:=hb.t; unfold Dh at h1 h2
  simp only [zG]; rw [if_neg ae,if_neg ae,if_pos ae]; omega
theorem Wr.xor(ha:Wr c l a f s)(hb:Wr c l b g t)(hs:s + 20 <= u)(ht:t + 20 <= u):Wr c (l ++ [⟨7,a,b⟩]) (l.length:Int) (fun ins=>f ins ^^ g ins) u:=by
 refine Wr.last (by simp) (fun ins=>?_) ?_
 ·have h1:=ha.v ins; have h2:=hb.v ins; unfold val at h1 h2
  simp only [valOf,h1,h2]
  cases f ins <;> cases g ins <;> rfl
 ·have h1:=ha.t; have h2:=hb.t; unfold Dh at h1 h2
  simp only [zG]; rw [if_neg ae,if_neg ae,if_pos ae]; omega
theorem Wr.not(ha:Wr c l a f s)(hs:s + 10 <= u):Wr c (l ++ [⟨4,a,0⟩]) (l.length:Int) (fun ins=>!f ins) u:=by
 refine Wr.last (by simp) (fun ins=>?_) ?_
 ·have h1:=ha.v ins; unfold val at h1
  simp only [valOf,h1]; rfl
 ·have h1:=ha.t; unfold Dh at h1
  simp only [zG]; rw [if_neg ae,if_pos ae]; omega
theorem Wr.zero(hu:0 <= u):Wr c (l ++ [⟨1,0,0⟩]) (l.length:Int) (fun _=>false) u:=Wr.last ae (fun ins=>rfl) (by simpa [zG] using hu)
theorem Wr.one(hu:0 <= u):Wr c (l ++ [⟨2,0,0⟩]) (l.length:Int) (fun _=>true) u:=Wr.last ae (fun ins=>rfl) (by simpa [zG] using hu)
theorem ok_two{k:Int}(hk:5 <= k /\ k <= 7)(ha:Wr c l a f s)(hb:Wr c l b g t):kI l.length ⟨k,a,b⟩ :=
 ⟨⟨by show 1 <= k; omega,hk.2⟩,by rw [if_pos (by show 4 <= k; omega)]; exact ⟨ha.lo,ha.hi⟩,by rw [if_pos hk.1]; exact ⟨hb.lo,hb.hi⟩⟩
theorem Lg(ha:Wr c l a f s):kI l.length ⟨4,a,0⟩:=⟨⟨by simp,by simp⟩,by rw [if_pos (by simp)]; exact ⟨ha.lo,ha.hi⟩,by rw [if_neg (by simp)]⟩
theorem Fw{k:Int}{i:Nat}(hk:1 <= k /\ k <= 3):kI i ⟨k,0,0⟩:=⟨⟨hk.1,by show k <= 7; omega⟩,by rw [if_neg (by show ¬ 4 <= k; omega)],by rw [if_neg (by show ¬ 5 <= k; omega)]⟩
theorem Ext.two{k:Int}(hg:Good l)(hk:5 <= k /\ k <= 7)(ha:Wr c l a f s)(hb:Wr c l b g t):Ext l (l ++ [⟨k,a,b⟩]):=Ext.one hg (ok_two hk ha hb) (by show k ≠ 3; omega)
theorem Ext.not(hg:Good l)(ha:Wr c l a f s):Ext l (l ++ [⟨4,a,0⟩]):=Ext.one hg (Lg ha) (by simp)
theorem Ext.MO{k:Int}(hg:Good l)(hk:1 <= k /\ k <= 2):Ext l (l ++ [⟨k,0,0⟩]):=Ext.one hg (Fw ⟨hk.1,om⟩) (by show k ≠ 3; omega)
end
structure Wd(c:Int)(l:List Gate)(a:List Int)(w:Nat)(N:List Bool -> BitVec w)(t:Int):Prop where
 len:a.length = w
 bit:∀ k,k < w -> Wr c l (a.getD k 0) (fun ins=>(N ins).getLsbD k) t
theorem Wd.ext{c:Int}{l l':List Gate}{a:List Int}{w:Nat}{N:List Bool -> BitVec w}{t:Int}(h:Wd c l a w N t)(he:Ext l l'):Wd c l' a w N t:=⟨h.len,fun k hk=>(h.bit k hk).ext he⟩
theorem Wd.late{c:Int}{l:List Gate}{a:List Int}{w:Nat}{N:List Bool -> BitVec w}{t t':Int}(h:Wd c l a w N t)(ht:t <= t'):Wd c l a w N t':=⟨h.len,fun k hk=>(h.bit k hk).late ht⟩
structure Ws(c:Int)(l:List Gate)(a:List Int)(f:Nat -> List Bool -> Bool)(t:Int):Prop where
 bit:∀ k,k < a.length -> Wr c l (a.getD k 0) (f k) t
theorem Ws.nil{c:Int}{l:List Gate}{f:Nat -> List Bool -> Bool}{t:Int}:Ws c l [] f t:=⟨fun k hk=>by simp at hk⟩
theorem Ws.ext{c:Int}{l l':List Gate}{a:List Int}{f:Nat -> List Bool -> Bool}{t:Int}(h:Ws c l a f t)(he:Ext l l'):Ws c l' a f t:=⟨fun k hk=>(h.bit k hk).ext he⟩
theorem Ws.snoc{c:Int}{l:List Gate}{a:List Int}{x:Int}{f:Nat -> List Bool -> Bool}{t:Int}(h:Ws c l a f t)(hx:Wr c l x (f a.length) t):Ws c l (a ++ [x]) f t:=⟨fun k hk=>by
 rcases Nat.lt_or_ge k a.length with h1 | h1
 ·rw [List.getD_eq_getElem?_getD,List.getElem?_append_left h1,<- List.getD_eq_getElem?_getD]; exact h.bit k h1
 ·have:k = a.length:=by simp at hk; omega
  subst this; rw [jT rfl]; exact hx⟩
theorem Ws.late{c:Int}{l:List Gate}{a:List Int}{f:Nat -> List Bool -> Bool}{t t':Int}(h:Ws c l a f t)(ht:t <= t'):Ws c l a f t':=⟨fun k hk=>(h.bit k hk).late ht⟩
theorem Ws.as{c:Int}{l:List Gate}{a:List Int}{f f':Nat -> List Bool -> Bool}{t:Int}(h:Ws c l a f t)(hf:∀ k,k < a.length -> ∀ ins,f k ins = f' k ins):Ws c l a f' t:=⟨fun k hk=>(h.bit k hk).as (hf k hk)⟩
theorem Wd.ws{c:Int}{l:List Gate}{a:List Int}{w:Nat}{N:List Bool -> BitVec w}{t:Int}(h:Wd c l a w N t):Ws c l a (fun k ins=>(N ins).getLsbD k) t:=⟨fun k hk=>h.bit k (by have:=h.len; omega)⟩
theorem Ws.wd{c:Int}{l:List Gate}{a:List Int}{w:Nat}{f:Nat -> List Bool -> Bool}{N:List Bool -> BitVec w}{t:Int}(h:Ws c l a f t)(hl:a.length = w)(hf:∀ k,k < w -> ∀ ins,f k ins = (N ins).getLsbD k):Wd c l a w N t :=
 ⟨hl,fun k hk=>(h.bit k om).as (hf k hk)⟩
open Go Go.AW
def ca(G P : Nat → Bool)(j : Nat) : Nat → Bool → Bool
 | 0,z=>z
 | k + 1,z=>G (j + k) || (P (j + k) && ca G P j k z)
def pp(P : Nat → Bool)(j : Nat) : Nat → Bool
 | 0=>true
 | k + 1=>P (j + k) && pp P j k
theorem JU{G P : Nat → Bool}{j : Nat}{z : Bool} : ∀ k, ca G P j k z = (ca G P j k false || (pp P j k && z))
 | 0=>by simp [ca,pp]
 | k + 1=>by
  simp only [ca,pp]
  rw [JU k]
  cases G (j + k) <;> cases P (j + k) <;> cases pp P j k <;> cases ca G P j k false <;> cases z <;> rfl
theorem Fx{G P : Nat → Bool}{j k : Nat}{z : Bool} : ∀ m, ca G P j (k + m) z = ca G P (j + k) m (ca G P j k z)
 | 0=>rfl
 | m + 1=>by
  show (G (j + (k + m)) || (P (j + (k + m)) && ca G P j (k + m) z)) = _
  rw [Fx m,<- Nat.add_assoc]; rfl
theorem Fy{P : Nat → Bool}{j k : Nat} : ∀ m, pp P j (k + m) = (pp P (j + k) m && pp P j k)
 | 0=>by simp [pp]
 | m + 1=>by
  show (P (j + (k + m)) && pp P j (k + m)) = _
  rw [Fy m,<- Nat.add_assoc]
  simp only [pp,Bool.and_assoc]
theorem r7{G P G' P' : Nat → Bool}{z : Bool} : ∀ {k}, (∀ i, i < k → G i = G' i) → (∀ i, i < k → P i = P' i) → ca G P 0 k z = ca G' P' 0 k z
 | 0,_,_=>rfl
 | k + 1,hg,hp=>by
  simp only [ca,Nat.zero_add]
  rw [hg k om,hp k om,r7 (fun i hi=>hg i om) (fun i hi=>hp i om)]
def gen(G P:Nat -> Bool)(d i:Nat):Bool:=ca G P (i + 1 - d) (i + 1 - (i + 1 - d)) false
theorem Iw{G P:Nat -> Bool}{i:Nat}:gen G P 1 i = G i:=by
 unfold gen
 rw [show i + 1 - 1 = i by omega,show i + 1 - i = 1 by omega]
 simp [ca]
theorem wH{G P:Nat -> Bool}{d i:Nat}(h:i < d):gen G P d i = ca G P 0 (i + 1) false:=by
 unfold gen
 rw [show i + 1 - d = 0 by omega]; rfl
theorem Cf{G P:Nat -> Bool}{d i:Nat}(h:d <= i):gen G P (2 * d) i = (gen G P d i || (pp P (i + 1 - d) d && gen G P d (i - d))):=by
 unfold gen
 rw [show i + 1 - (i + 1 - d) = d by omega,<- JU]
 have h1:i - d + 1 - d = i + 1 - 2 * d:=by omega
 have h2:i + 1 - (i + 1 - 2 * d) = (i - d + 1 - (i - d + 1 - d)) + d:=by omega
 rw [h2,Fx,h1,show i + 1 - 2 * d + (i - d + 1 - (i + 1 - 2 * d)) = i + 1 - d by omega]
theorem FA{G P:Nat -> Bool}{d i:Nat}(h:i < d):gen G P (2 * d) i = gen G P d i:=by
 rw [wH h,wH om]
theorem Lh{P:Nat -> Bool}{d i:Nat}(h:2 * d <= i + 1):pp P (i + 1 - 2 * d) (2 * d) = (pp P (i + 1 - d) d && pp P (i - d + 1 - d) d):=by
 rw [Nat.two_mul,Fy,show i + 1 - (d + d) + d = i + 1 - d by omega,show i - d + 1 - d = i + 1 - (d + d) by omega]
theorem u4{w : Nat}{x y : BitVec w}{z : Bool} : ∀ n, ca (fun i => x.getLsbD i && y.getLsbD i) (fun i => x.getLsbD i ^^ y.getLsbD i) 0 n z = BitVec.carry n x y z
 | 0=>by simp [ca,BitVec.carry_zero]
 | n + 1=>by
  simp only [ca,Nat.zero_add]
  rw [u4 n,BitVec.carry_succ]
  cases x.getLsbD n <;> cases y.getLsbD n <;> cases BitVec.carry n x y z <;> rfl
theorem Ix{w:Nat}{x y:BitVec w}{i:Nat}(h:i < w):(x + y).getLsbD i = ((x.getLsbD i ^^ y.getLsbD i) ^^ ca (fun i=>x.getLsbD i && y.getLsbD i) (fun i=>x.getLsbD i ^^ y.getLsbD i) 0 i false):=by
 rw [u4,BitVec.getLsbD_add h,Bool.xor_assoc]
def Iy{w:Nat}(x y:BitVec w)(i:Nat):Bool:=if i = 0 then x.getLsbD 0 || !y.getLsbD 0 else x.getLsbD i && !y.getLsbD i
theorem FB{w : Nat}{x y : BitVec w} : ∀ n, n + 1 ≤ w → ca (Iy x y) (fun i => x.getLsbD i ^^ !y.getLsbD i) 0 (n + 1) false = ca (fun i => x.getLsbD i && (~~~y).getLsbD i) (fun i => x.getLsbD i ^^ (~~~y).getLsbD i) 0 (n + 1) true
 | 0,hw=>by
  simp only [ca,Iy,Nat.add_zero,if_true,BitVec.getLsbD_not,show 0 < w by omega,decide_true,Bool.true_and]
  cases x.getLsbD 0 <;> cases y.getLsbD 0 <;> rfl
 | n + 1,hw=>by
  have h:=FB (x:=x) (y:=y) n om
  rw [ca,h]
  conv=>rhs; rw [ca]
  simp only [Nat.zero_add,Iy,Nat.add_one_ne_zero,if_false,BitVec.getLsbD_not,show n + 1 < w by omega,decide_true,Bool.true_and]
theorem Iz{w:Nat}{x y:BitVec w}{i:Nat}(h:i < w)(h0:0 < i):(x - y).getLsbD i = ((x.getLsbD i ^^ !y.getLsbD i) ^^ ca (Iy x y) (fun i=>x.getLsbD i ^^ !y.getLsbD i) 0 i false):=by
 obtain ⟨i,rfl⟩:∃ j,i = j + 1:=⟨i - 1,om⟩
 rw [FB i om,u4,BitVec.sub_eq_add_neg,BitVec.neg_eq_not_add,<- BitVec.add_assoc]
 have h1:=BitVec.getLsbD_add_add_bool h x (~~~y) true
 rw [show BitVec.setWidth w (BitVec.ofBool true) = 1#w by
  apply BitVec.eq_of_toNat_eq; simp] at h1
 rw [h1,BitVec.getLsbD_not]
 simp [show i + 1 < w by omega,Bool.xor_assoc]
theorem FC{w:Nat}{x y:BitVec w}(h:0 < w):(x - y).getLsbD 0 = (x.getLsbD 0 ^^ y.getLsbD 0):=by
 have h1:=BitVec.getLsbD_add_add_bool h x (~~~y) true
 rw [show BitVec.setWidth w (BitVec.ofBool true) = 1#w by
  apply BitVec.eq_of_toNat_eq; simp] at h1
 rw [BitVec.sub_eq_add_neg,BitVec.neg_eq_not_add,<- BitVec.add_assoc,h1,BitVec.getLsbD_not,BitVec.carry_zero]
 simp only [h,decide_true,Bool.true_and]
 cases x.getLsbD 0 <;> cases y.getLsbD 0 <;> rfl
open Go Go.AW
noncomputable instance (p:nt):Decidable p.R3:=Classical.propDecidable _
structure pW(n:ab)(dJ:List Int):Prop where
 len:dJ.length = n.aa.length
 Li:∀ w:Int,In w n.aa.length -> cJ n (dJ.getD w.toNat 0) w
def sW(n:ab)(k:Nat)(dJ:List Int):Prop:=dJ.length = n.aa.length /\ ∀ j w:Int,cJ n j w -> j < k -> dJ.getD w.toNat 0 = j
theorem sW.done{n:ab}{dJ:List Int}(hf:bg n)(h:sW n n.cells.length dJ):pW n dJ:=by
 refine ⟨h.1,fun w hw=>?_⟩
 obtain ⟨i,hi⟩:=hf.kH hw
 rw [h.2 i w hi hi.1.2]; exact hi
theorem sW.set{n:ab}{k:Nat}{dJ:List Int}(hf:bg n)(h:sW n k dJ)(hk:k < n.cells.length)(h0:(n.cells.getD k default).out ≥ 0):sW n (k + 1) (dJ.set (n.cells.getD k default).out.toNat (k:Int)):=by
 refine ⟨by rw [List.length_set]; exact h.1,fun j w hd hj=>?_⟩
 have hc:=hf.cells k hk
 have h7:(n.cells.getD k default).kind ≠ 7:=fun e=>by have:=hc.2.2.1 e; omega
 have MP:cJ n (k:Int) (n.cells.getD k default).out:=⟨⟨om,om⟩,h7,rfl⟩
 have hw:=hf.jh hd; have Tu:=hf.jh MP
 unfold In at hw Tu
 rw [bR]
 by_cases e:(n.cells.getD k default).out.toNat = w.toNat /\ (n.cells.getD k default).out.toNat < dJ.length
 ·rw [if_pos e]
  have e2:(n.cells.getD k default).out = w:=by omega
  exact hf.unique (e2 ▸ MP) hd
 ·rw [if_neg e]
  have fb:j ≠ (k:Int):=by
   rintro rfl
   apply e
   have e2:(n.cells.getD k default).out = w:=hd.2.2
   have:=h.1
   omega
  exact h.2 j w hd om
theorem sW.skip{n:ab}{k:Nat}{dJ:List Int}(hf:bg n)(h:sW n k dJ)(h0:¬ (n.cells.getD k default).out ≥ 0):sW n (k + 1) dJ:=by
 refine ⟨h.1,fun j w hd hj=>?_⟩
 have hw:=hf.jh hd
 unfold In at hw
 have fb:j ≠ (k:Int):=by
  rintro rfl
  have:(n.cells.getD k default).out = w:=hd.2.2
  omega
 exact h.2 j w hd om
structure PG(n:ab)(l:List Int)(k:Nat)(pl:List Int):Prop where
 len:pl.length = n.cells.length
 at_:∀ j,j < k -> pl.getD (l.getD j 0).toNat 0 = (j:Int) + 1
 none_:∀ c:Int,In c n.cells.length -> (∀ j,j < k -> l.getD j 0 ≠ c) -> pl.getD c.toNat 0 = 0
theorem u5{l:List Int}(h:l.Nodup){i j:Nat}(hi:i < l.length)(hj:j < l.length)(e:l.getD i 0 = l.getD j 0):i = j:=by
 rw [List.getD_eq_getElem?_getD,List.getD_eq_getElem?_getD,List.getElem?_eq_getElem hi,List.getElem?_eq_getElem hj] at e
 simp only [Option.getD_some] at e
 rw [List.Nodup,List.pairwise_iff_getElem] at h
 rcases Nat.lt_trichotomy i j with h1 | h1 | h1
 ·exact absurd e (h i j hi hj h1)
 ·exact h1
 ·exact absurd e.symm (h j i hj hi h1)
theorem PG.init(n:ab)(l:List Int):PG n l 0 (List.replicate n.cells.length 0) :=
 ⟨by simp,fun j hj=>by omega,fun c hc _=>by
  unfold In at hc
  rw [List.getD_eq_getElem?_getD,List.getElem?_eq_getElem (by simp; omega)]; simp⟩
theorem PG.step{n:ab}{l pl:List Int}{k:Nat}(ho:Ord n l)(h:PG n l k pl)(hk:k < l.length):PG n l (k + 1) (pl.set (l.getD k 0).toNat ((k:Int) + 1)):=by
 have hr:=ho.p6 _ (bQ hk)
 have hl:=h.len
 refine ⟨by rw [List.length_set]; exact hl,fun j hj=>?_,fun c hc fb=>?_⟩
 ·rw [bR]
  rcases Nat.lt_or_ge j k with h1 | h1
  ·have MI:=ho.p6 _ (bQ (l:=l) (i:=j) om)
   rw [if_neg (fun e=>by have:=u5 ho.nd hk (by omega:j < l.length) om; omega)]
   exact h.at_ j h1
  ·obtain rfl:j = k:=by omega
   rw [if_pos ⟨rfl,om⟩]
 ·have h1:=fb k om
  unfold In at hc
  rw [bR,if_neg (fun e=>h1 om)]
  exact h.none_ c hc (fun j hj=>fb j om)
theorem Ord.mem{n:ab}{l:List Int}(ho:Ord n l){i:Int}(hi:0 <= i /\ i < n.cells.length):i ∈ l:=by
 refine Classical.byContradiction fun hn=>?_
 have h1:∀ x ∈ i :: l,x ∈ (List.range n.cells.length).map (fun (j:Nat)=>(j:Int)):=by
  intro x hx
  have hr:0 <= x /\ x < n.cells.length:=by
   rcases List.mem_cons.1 hx with rfl | hx
   ·exact hi
   ·exact ho.p6 x hx
  exact List.mem_map.2 ⟨x.toNat,List.mem_range.2 om,om⟩
 have h2:=length_le_of_subset (List.nodup_cons.2 ⟨hn,ho.nd⟩) h1
 simp only [List.length_cons,List.length_map,List.length_range,ho.len] at h2
 omega
theorem l4.ok{n:ab}{l:List Int}{e:Int}(h:l4 n l e)(hf:bg n)(ht:Fit n)(ha:Acyclic n):Ord n l /\ e = 0:=by
 rcases h with ⟨h1,_⟩ | ⟨_,h2,_⟩ | ⟨_,_,h3,_⟩ | ⟨_,_,_,h4,h5⟩
 ·exact absurd hf h1
 ·exact absurd ht h2
 ·exact absurd ha h3
 ·exact ⟨h4,h5⟩
theorem mS{n:ab}(hf:bg n)(ht:Fit n)(ha:Acyclic n):fg n = 0:=by unfold fg; rw [if_pos hf,if_pos ht,if_pos ha]
open Go Go.AW
inductive Ho (n:ab) (ws:List Int):Int -> Prop where
 | root {w i:Int} (hw:w ∈ ws) (h:cJ n i w):Ho n ws i
 | step {i x j:Int} (hi:Ho n ws i) (hc:cT (n.cell i).kind) (hx:x ∈ (n.cell i).args) (h:cJ n j x):Ho n ws j
def FD(l:List Bool):Nat:=l.countP (fun b=>!b)
theorem Dj(l:List Bool):FD l <= l.length:=List.countP_le_length
structure wI(n:ab)(dJ ws:List Int)(l:List Int)(seen:List Bool):Prop where
 len:seen.length = n.cells.length
 p6:∀ w ∈ l,In w n.aa.length
 snd:∀ w ∈ l,∀ i,cJ n i w -> Ho n ws i
 I3:∀ i:Nat,i < n.cells.length -> seen.getD i false = true -> Ho n ws i
 root:∀ w ∈ ws,seen.getD (dJ.getD w.toNat 0).toNat false = true \/ w ∈ l
 jv:∀ i:Nat,i < n.cells.length -> seen.getD i false = true -> cT (n.cells.getD i default).kind -> ∀ x ∈ (n.cells.getD i default).args,seen.getD (dJ.getD x.toNat 0).toNat false = true \/ x ∈ l
 sz:l.length + 4 * FD seen <= ws.length + 4 * n.cells.length
theorem re{k i:Nat}:(List.replicate k false).getD i false = false:=by
 rw [List.getD_eq_getElem?_getD]
 by_cases h:i < k
 ·rw [List.getElem?_eq_getElem (by simpa using h)]; simp
 ·rw [List.getElem?_eq_none (by simpa using h)]; rfl
theorem wI.init{n:ab}{dJ ws:List Int}(hw:∀ w ∈ ws,In w n.aa.length):wI n dJ ws ws (List.replicate n.cells.length false) where
 len:=by simp
 p6:=hw
 snd:=fun w hw i hi=>.root hw hi
 I3:=fun i _ h=>by rw [re] at h; cases h
 root:=fun w hw=>.inr hw
 jv:=fun i _ h=>by rw [re] at h; cases h
 sz:=by have:=Dj (List.replicate n.cells.length false); simp at this; omega
section
variable {n:ab} {dJ ws l:List Int} {seen:List Bool}
theorem pB{l:List Int}(h:0 < l.length){x:Int}(hx:x ∈ l):x = l.getD (l.length - 1) 0 \/ x ∈ l.take (l.length - 1):=by
 obtain ⟨i,hi,rfl⟩:=List.mem_iff_getElem.1 hx
 by_cases e:i = l.length - 1
 ·left; subst e; rw [List.getD_eq_getElem?_getD,List.getElem?_eq_getElem hi]; rfl
 ·right
  refine List.mem_iff_getElem.2 ⟨i,by simp; omega,by simp⟩
theorem wI.skip(h:wI n dJ ws l seen)(h0:0 < l.length)(hs:seen.getD (dJ.getD (l.getD (l.length - 1) 0).toNat 0).toNat false = true):wI n dJ ws (l.take (l.length - 1)) seen where
 len:=h.len
 p6:=fun w hw=>h.p6 w (List.mem_of_mem_take hw)
 snd:=fun w hw=>h.snd w (List.mem_of_mem_take hw)
 I3:=h.I3
 root:=fun w hw=>by
  rcases h.root w hw with h1 | h1
  ·exact .inl h1
  ·rcases pB h0 h1 with h2 | h2
   ·exact .inl (by rw [h2]; exact hs)
   ·exact .inr h2
 jv:=fun i hi hm hc x hx=>by
  rcases h.jv i hi hm hc x hx with h1 | h1
  ·exact .inl h1
  ·rcases pB h0 h1 with h2 | h2
   ·exact .inl (by rw [h2]; exact hs)
   ·exact .inr h2
 sz:=by have:=h.sz; simp only [List.length_take]; omega
theorem wI.last(hb:pW n dJ)(h:wI n dJ ws l seen)(h0:0 < l.length):(0 <= l.getD (l.length - 1) 0 /\ l.getD (l.length - 1) 0 < n.aa.length) /\ (0 <= dJ.getD (l.getD (l.length - 1) 0).toNat 0 /\ dJ.getD (l.getD (l.length - 1) 0).toNat 0 < n.cells.length):=by
 have hw:=h.p6 _ (bQ (l:=l) (i:=l.length - 1) om)
 exact ⟨hw,(hb.Li _ hw).1⟩
theorem Lj{a b:Nat}(h:b <= a /\ a <= 4611686018427387904):IntKind.i64.wrap ((a:Int) - (b:Int)) = ((a - b:Nat):Int):=by
 rw [show ((a:Int) - (b:Int)) = ((a - b:Nat):Int) by omega]
 exact IntWalk.i64_in _ om
theorem take_one{α:Type}{d:α}{l:List α}{k:Nat}(h:k < l.length):l.take (k + 1) = l.take k ++ [l.getD k d]:=by
 rw [List.take_add_one,List.getElem?_eq_getElem h,List.getD_eq_getElem?_getD,List.getElem?_eq_getElem h]; rfl
def vO(n:ab)(ws:List Int)(seen:List Bool):Prop:=seen.length = n.cells.length /\ ∀ i:Nat,i < n.cells.length -> (seen.getD i false = true ↔ Ho n ws i)
theorem wI.done(hb:pW n dJ)(hf:bg n)(h:wI n dJ ws l seen)(h0:l.length = 0)(hw:∀ w ∈ ws,In w n.aa.length):vO n ws seen:=by
 have hl:l = []:=List.eq_nil_of_length_eq_zero h0
 subst hl
 refine ⟨h.len,fun i hi=>⟨h.I3 i hi,fun hr=>?_⟩⟩
 have key:∀ j:Int,Ho n ws j -> 0 <= j /\ j < n.cells.length /\ seen.getD j.toNat false = true:=by
  intro j hj
  induction hj with
  | root rZ hd =>
   rcases h.root _ rZ with h1 | h1
   ·rw [hf.unique (hb.Li _ (hw _ rZ)) hd] at h1
    exact ⟨hd.1.1,hd.1.2,h1⟩
   ·cases h1
  | @step i x j hi hc hx hd ih =>
   rcases h.jv i.toNat om ih.2.2 hc x hx with h1 | h1
   ·rw [hf.unique (hb.Li _ (hf.pR ⟨ih.1,ih.2.1⟩ hx)) hd] at h1
    exact ⟨hd.1.1,hd.1.2,h1⟩
   ·cases h1
 exact (key _ hr).2.2
end
theorem vO.eq{n:ab}{ws:List Int}{s t:List Bool}(hs:vO n ws s)(ht:vO n ws t):s = t:=by
 refine List.ext_getElem (by rw [hs.1,ht.1]) fun i h1 h2=>?_
 have e1:=hs.2 i (by have:=hs.1; omega)
 have e2:=ht.2 i (by have:=hs.1; omega)
 rw [List.getD_eq_getElem?_getD,List.getElem?_eq_getElem h1] at e1
 rw [List.getD_eq_getElem?_getD,List.getElem?_eq_getElem h2] at e2
 simp only [Option.getD_some] at e1 e2
 cases h3:s[i] <;> cases h4:t[i] <;> simp_all
open Go Go.AW
def Hp(p:Nat -> Bool)(k:Nat):List Nat:=(List.range k).filter p
theorem wJ{p:Nat -> Bool}{k:Nat}(h:p k = false):Hp p (k + 1) = Hp p k:=by
 simp only [Hp,List.range_succ,List.filter_append,List.filter_cons,h,List.filter_nil,List.append_nil,Bool.false_eq_true,if_false]
theorem FE(p:Nat -> Bool)(k:Nat):(Hp p k).length <= k:=by
 have:=List.length_filter_le p (List.range k)
 rw [List.length_range] at this; exact this
def I4(p:Nat -> Bool)(w:Nat):Int:=if p w then ((Hp p w).length:Int) else -1
def MQ(p:Nat -> Bool)(x:Int):Int:=if 0 <= x then I4 p x.toNat else x
def JV{α:Type}(p:Nat -> Bool)(l:List α)(d:α):List α:=(Hp p l.length).map (fun i=>l.getD i d)
open Go Go.AW
def kc(n:ab)(s:List Bool)(i:Nat):Bool:=s.getD i false || !decide (cT (n.cells.getD i default).kind)
def kw(n:ab)(dJ:List Int)(s:List Bool)(w:Nat):Bool:=kc n s (dJ.getD w 0).toNat
def Tv(p:Nat -> Bool)(c:Cell):Cell:=⟨c.kind,c.op,MQ p c.out,c.args.map (MQ p),c.num,c.mem⟩
structure PH(n:ab)(dJ:List Int)(s:List Bool):Prop where
 freeze:kw n dJ s n.freeze.toNat = true
 done:kw n dJ s n.done.toNat = true
 bF:∀ r ∈ n.bF,kw n dJ s r.toNat = true
 ba:∀ r ∈ n.ba,kw n dJ s r.toNat = true
 data:∀ r ∈ n.data,0 <= r -> kw n dJ s r.toNat = true
 jv:∀ i,i < n.cells.length -> kc n s i = true -> ∀ x ∈ (n.cells.getD i default).args,kw n dJ s x.toNat = true
section
variable {n:ab} {dJ:List Int} {s:List Bool} (hf:bg n) (hb:pW n dJ) (hk:PH n dJ s)
end
open Go Go.AW
structure VP(n:ab):Prop where
 formed:bg n
 fit:Fit n
 acyclic:Acyclic n
 small:n.Small
 dH:n.cells.length <= 48
 dr:n.aa.length <= 48
 mO:∀ c ∈ n.cells,c.args.length <= 4
 nX:n.bF.length <= 3
 kq:n.aA.length <= 3
 cG:n.streams.length <= 4
 yb:n.ins.length <= 4
section
variable {n:ab} {dJ:List Int} {s:List Bool} (hv:VP n) (hb:pW n dJ) (hk:PH n dJ s)
end
open Go Go.AW
structure Dk(n:ab)(w:Int):Prop where
 is:w ∈ n.ba \/ w ∈ n.bF \/ w = n.freeze \/ w = n.done \/ (w ∈ n.data /\ 0 <= w) \/ ∃ i,i < n.cells.length /\ ¬ cT (n.cells.getD i default).kind /\ w ∈ (n.cells.getD i default).args
def r8(n:ab)(l:List Int):Prop:=∀ w,w ∈ l ↔ Dk n w
theorem Dk.p6{n:ab}(hf:bg n){w:Int}(h:Dk n w):In w n.aa.length:=by
 rcases h.is with h | h | h | h | ⟨h,h0⟩ | ⟨i,hi,_,h⟩
 ·obtain ⟨j,hj,rfl⟩:=List.mem_iff_getElem.1 h
  have h1:=(hf.strs j (by have:=hf.dM; omega)).2.2.1
  rwa [List.getD_eq_getElem?_getD,List.getElem?_eq_getElem hj] at h1
 ·exact hf.bF w h
 ·rw [h]; exact hf.freeze
 ·rw [h]; exact hf.done
 ·obtain ⟨j,hj,rfl⟩:=List.mem_iff_getElem.1 h
  have h1:=(hf.strs j (by have:=hf.gM; omega)).2.2.2
  have e:n.data.getD j 0 = n.data[j]:=by rw [List.getD_eq_getElem?_getD,List.getElem?_eq_getElem hj]; rfl
  rw [<- e] at h0 ⊢
  cases ho:(n.streams.getD j default).out with
  | true=>exact h1.1 ho
  | false=>have:=h1.2 ho; omega
 ·exact (hf.cells i hi).1 w h
section
variable {n:ab} {dJ l:List Int} {s:List Bool} (hf:bg n) (hb:pW n dJ) (hl:r8 n l) (hc:vO n l s)
include hf hb hl hc
end
open Go Go.AW
structure Sn(n:ab)(dJ rs:List Int)(l:List Int)(ef:List Bool):Prop where
 len:ef.length = n.cells.length
 p6:∀ w ∈ l,w < 0 \/ In w n.aa.length
 snd:∀ w ∈ l,∀ i,cJ n i w -> Ho n rs i
 seq:∀ i:Nat,i < n.cells.length -> ¬ cT (n.cells.getD i default).kind -> ef.getD i false = true
 I3:∀ i:Nat,i < n.cells.length -> ef.getD i false = true -> cT (n.cells.getD i default).kind -> Ho n rs i
 root:∀ w ∈ rs,ef.getD (dJ.getD w.toNat 0).toNat false = true \/ w ∈ l
 jv:∀ i:Nat,i < n.cells.length -> ef.getD i false = true -> cT (n.cells.getD i default).kind -> ∀ x ∈ (n.cells.getD i default).args,ef.getD (dJ.getD x.toNat 0).toNat false = true \/ x ∈ l
section
variable {n:ab} {dJ rs l:List Int} {ef:List Bool}
theorem Sn.skip(h:Sn n dJ rs l ef)(hf:∀ w ∈ rs,0 <= w)(YT:bg n)(h0:0 < l.length)(hs:l.getD (l.length - 1) 0 < 0 \/ ef.getD (dJ.getD (l.getD (l.length - 1) 0).toNat 0).toNat false = true):Sn n dJ rs (l.take (l.length - 1)) ef where
 len:=h.len
 p6:=fun w hw=>h.p6 w (List.mem_of_mem_take hw)
 snd:=fun w hw=>h.snd w (List.mem_of_mem_take hw)
 seq:=h.seq
 I3:=h.I3
 root:=fun w hw=>by
  rcases h.root w hw with h1 | h1
  ·exact .inl h1
  ·rcases pB h0 h1 with h2 | h2
   ·rcases hs with hs | hs
    ·have:=hf w hw; omega
    ·exact .inl (by rw [h2]; exact hs)
   ·exact .inr h2
 jv:=fun i hi hm hc x hx=>by
  rcases h.jv i hi hm hc x hx with h1 | h1
  ·exact .inl h1
  ·rcases pB h0 h1 with h2 | h2
   ·rcases hs with hs | hs
    ·have h3:=(YT.cells i hi).1 x hx
     unfold In at h3; omega
    ·exact .inl (by rw [h2]; exact hs)
   ·exact .inr h2
theorem Sn.done(hb:pW n dJ)(hf:bg n)(RA:∀ w ∈ rs,In w n.aa.length)(h:Sn n dJ rs l ef)(h0:l.length = 0){s:List Bool}(hc:vO n rs s):∀ i,i < n.cells.length -> ef.getD i false = kc n s i:=by
 have hl:l = []:=List.eq_nil_of_length_eq_zero h0
 subst hl
 have key:∀ j:Int,Ho n rs j -> 0 <= j /\ j < n.cells.length /\ ef.getD j.toNat false = true:=by
  intro j hj
  induction hj with
  | root rZ hd =>
   rcases h.root _ rZ with h1 | h1
   ·rw [hf.unique (hb.Li _ (RA _ rZ)) hd] at h1
    exact ⟨hd.1.1,hd.1.2,h1⟩
   ·cases h1
  | @step i x j hi tz hx hd ih =>
   rcases h.jv i.toNat om ih.2.2 tz x hx with h1 | h1
   ·rw [hf.unique (hb.Li _ (hf.pR ⟨ih.1,ih.2.1⟩ hx)) hd] at h1
    exact ⟨hd.1.1,hd.1.2,h1⟩
   ·cases h1
 intro i hi
 unfold kc
 by_cases tz:cT (n.cells.getD i default).kind
 ·rw [decide_eq_true tz]
  simp only [Bool.not_true,Bool.or_false]
  have e:=hc.2 i hi
  cases hn:ef.getD i false with
  | true=>exact (e.2 (h.I3 i hi hn tz)).symm
  | false =>
   cases hs:s.getD i false with
   | false=>rfl
   | true =>
    have:=(key _ (e.1 hs)).2.2
    rw [Int.toNat_natCast,hn] at this; cases this
 ·rw [h.seq i hi tz,decide_eq_false tz]; simp
end
open Go Go.AW
def r9(n:ab):List Int:=(((([n.freeze,n.done]:List Int) ++ n.bF) ++ n.ba) ++ n.data)
structure MR(n:ab)(k:Nat)(ef:List Bool)(O:List Int):Prop where
 len:ef.length = n.cells.length
 nd:∀ i,i < n.cells.length -> (ef.getD i false = true ↔ i < k /\ ¬ cT (n.cells.getD i default).kind)
 op:∀ w,w ∈ O ↔ (w ∈ r9 n \/ ∃ i,i < k /\ ¬ cT (n.cells.getD i default).kind /\ w ∈ (n.cells.getD i default).args)
 sz:O.length <= 13 + 4 * k
theorem MR.init{n:ab}(hM:VP n):MR n 0 (List.replicate n.cells.length false) (r9 n) where
 len:=by simp
 nd:=fun i _=>by rw [re]; simp
 op:=fun w=>by simp
 sz:=by
  have h1:=hM.nX; have h2:=hM.cG; have h3:=hM.formed.dM; have h4:=hM.formed.gM
  simp only [r9,List.length_append,List.length_cons,List.length_nil]; omega
theorem MR.no{n:ab}{k:Nat}{ef:List Bool}{O:List Int}(h:MR n k ef O)(hc:cT (n.cells.getD k default).kind):MR n (k + 1) ef O where
 len:=h.len
 nd:=fun i hi=>by
  rw [h.nd i hi]
  constructor
  ·exact fun h1=>⟨om,h1.2⟩
  ·rintro ⟨h1,h2⟩
   refine ⟨?_,h2⟩
   rcases Nat.lt_or_ge i k with h4 | h4
   ·exact h4
   ·obtain rfl:i = k:=by omega
    exact absurd hc h2
 op:=fun w=>by
  rw [h.op w]
  constructor
  ·rintro (h1 | ⟨i,h1,h2,h3⟩)
   ·exact .inl h1
   ·exact .inr ⟨i,om,h2,h3⟩
  ·rintro (h1 | ⟨i,h1,h2,h3⟩)
   ·exact .inl h1
   ·rcases Nat.lt_or_ge i k with h4 | h4
    ·exact .inr ⟨i,h4,h2,h3⟩
    ·obtain rfl:i = k:=by omega
     exact absurd hc h2
 sz:=by have:=h.sz; omega
theorem Sn.init{n:ab}{dJ rs O:List Int}{ef:List Bool}(hf:bg n)(RA:r8 n rs)(h:MR n n.cells.length ef O):Sn n dJ rs O ef:=by
 have root:∀ w ∈ O,0 <= w -> Dk n w:=by
  intro w hw h0
  rcases (h.op w).1 hw with h1 | ⟨i,h1,h2,h3⟩
  ·simp only [r9,List.mem_append,List.mem_cons,List.not_mem_nil,or_false] at h1
   rcases h1 with (((h1 | h1) | h1) | h1) | h1
   ·exact ⟨.inr (.inr (.inl h1))⟩
   ·exact ⟨.inr (.inr (.inr (.inl h1)))⟩
   ·exact ⟨.inr (.inl h1)⟩
   ·exact ⟨.inl h1⟩
   ·exact ⟨.inr (.inr (.inr (.inr (.inl ⟨h1,h0⟩))))⟩
  ·exact ⟨.inr (.inr (.inr (.inr (.inr ⟨i,h1,h2,h3⟩))))⟩
 exact {
  len:=h.len
  p6:=fun w hw=>by
   rcases Int.lt_or_le w 0 with h1 | h1
   ·exact .inl h1
   ·exact .inr ((root w hw h1).p6 hf)
  snd:=fun w hw i hd=>.root ((RA w).2 (root w hw (by have:=hf.jh hd; unfold In at this; omega))) hd
  seq:=fun i hi hc=>(h.nd i hi).2 ⟨hi,hc⟩
  I3:=fun i hi hm hc=>absurd hc ((h.nd i hi).1 hm).2
  root:=fun w hw=>by
   right
   refine (h.op w).2 ?_
   rcases ((RA w).1 hw).is with h1 | h1 | h1 | h1 | ⟨h1,_⟩ | ⟨i,h1,h2,h3⟩
   ·left; simp [r9,h1]
   ·left; simp [r9,h1]
   ·left; simp [r9,h1]
   ·left; simp [r9,h1]
   ·left; simp [r9,h1]
   ·exact .inr ⟨i,h1,h2,h3⟩
  jv:=fun i hi hm hc=>absurd hc ((h.nd i hi).1 hm).2 }
open Go Go.AW
structure Hq(p:Nat -> Bool)(l m:List Int)(i:Nat):Prop where
 len:m.length = l.length
 lo:∀ j,j < i -> m.getD j 0 = MQ p (l.getD j 0)
 hi:∀ j,i <= j -> m.getD j 0 = l.getD j 0
theorem Hq.init(p:Nat -> Bool)(l:List Int):Hq p l l 0:=⟨rfl,fun j hj=>by omega,fun _ _=>rfl⟩
theorem Hq.set{p:Nat -> Bool}{l m:List Int}{i:Nat}{v:Int}(h:Hq p l m i)(hi:i < m.length)(hv:v = MQ p (l.getD i 0)):Hq p l (m.set i v) (i + 1) where
 len:=by rw [List.length_set]; exact h.len
 lo:=fun j hj=>by
  rw [bR]
  by_cases e:i = j /\ i < m.length
  ·rw [if_pos e,hv,e.1]
  ·rw [if_neg e]; exact h.lo j om
 hi:=fun j hj=>by rw [bR,if_neg om]; exact h.hi j om
theorem Hq.skip{p:Nat -> Bool}{l m:List Int}{i:Nat}(h:Hq p l m i)(hn:¬ l.getD i 0 ≥ 0):Hq p l m (i + 1) where
 len:=h.len
 lo:=fun j hj=>by
  rcases Nat.lt_or_ge j i with h1 | h1
  ·exact h.lo j h1
  ·obtain rfl:j = i:=by omega
   rw [h.hi j (Nat.le_refl _)]
   unfold MQ; rw [if_neg om]
 hi:=fun j hj=>h.hi j om
theorem Hq.done{p:Nat -> Bool}{l m:List Int}(h:Hq p l m l.length):m = l.map (MQ p):=by
 refine List.ext_getElem (by rw [h.len]; simp) fun i h1 h2=>?_
 have h3:i < l.length:=by rw [<- h.len]; exact h1
 have:=h.lo i h3
 rw [List.getD_eq_getElem?_getD,List.getElem?_eq_getElem h1,List.getD_eq_getElem?_getD,List.getElem?_eq_getElem h3] at this
 simpa using this
def I5(p:Nat -> Bool)(k:Nat)(nb:List Int):Prop:=nb.length = k /\ ∀ w,w < k -> nb.getD w 0 = I4 p w
open Go Go.AW Go.Proofs
structure Rt(n:ab)(k i:Nat)(O:List Int):Prop where
 op:∀ w,w ∈ O ↔ (w ∈ n.ba \/ w ∈ n.bF \/ w = n.freeze \/ w = n.done) \/ (∃ j,j < k /\ 0 <= n.data.getD j 0 /\ w = n.data.getD j 0) \/ ∃ j,j < i /\ ¬ cT (n.cells.getD j default).kind /\ w ∈ (n.cells.getD j default).args
 sz:O.length <= 9 + k + 4 * i
theorem Rt.init{n:ab}(hM:VP n):Rt n 0 0 ([n.ba,n.bF,[n.freeze,n.done]]:List (List Int)).flatten where
 op:=fun w=>by simp
 sz:=by
  have h1:=hM.nX; have h2:=hM.cG; have h3:=hM.formed.dM
  simp; omega
theorem Rt.no{n:ab}{d k:Nat}{O:List Int}(h:Rt n d k O)(hc:cT (n.cells.getD k default).kind):Rt n d (k + 1) O where
 op:=fun w=>by
  rw [h.op w]
  constructor
  ·rintro (h1 | h1 | ⟨i,h1,h2,h3⟩)
   ·exact .inl h1
   ·exact .inr (.inl h1)
   ·exact .inr (.inr ⟨i,om,h2,h3⟩)
  ·rintro (h1 | h1 | ⟨i,h1,h2,h3⟩)
   ·exact .inl h1
   ·exact .inr (.inl h1)
   ·rcases Nat.lt_or_ge i k with h4 | h4
    ·exact .inr (.inr ⟨i,h4,h2,h3⟩)
    ·obtain rfl:i = k:=by omega
     exact absurd hc h2
 sz:=by have:=h.sz; omega
theorem Rt.at{n:ab}{O:List Int}{k:Nat}(e:k = n.data.length)(h:Rt n k 0 O):Rt n n.data.length 0 O:=by subst e; exact h
theorem Rt.done{n:ab}{O:List Int}(h:Rt n n.data.length n.cells.length O):r8 n O:=by
 intro w
 rw [h.op w]
 constructor
 ·rintro ((h1 | h1 | h1 | h1) | ⟨j,h1,h2,rfl⟩ | h1)
  ·exact ⟨.inl h1⟩
  ·exact ⟨.inr (.inl h1)⟩
  ·exact ⟨.inr (.inr (.inl h1))⟩
  ·exact ⟨.inr (.inr (.inr (.inl h1)))⟩
  ·exact ⟨.inr (.inr (.inr (.inr (.inl ⟨bQ h1,h2⟩))))⟩
  ·exact ⟨.inr (.inr (.inr (.inr (.inr h1))))⟩
 ·rintro ⟨h1 | h1 | h1 | h1 | ⟨h1,h2⟩ | h1⟩
  ·exact .inl (.inl h1)
  ·exact .inl (.inr (.inl h1))
  ·exact .inl (.inr (.inr (.inl h1)))
  ·exact .inl (.inr (.inr (.inr h1)))
  ·obtain ⟨j,hj,rfl⟩:=List.mem_iff_getElem.1 h1
   have e:n.data.getD j 0 = n.data[j]:=by rw [List.getD_eq_getElem?_getD,List.getElem?_eq_getElem hj]; rfl
   exact .inr (.inl ⟨j,hj,by rw [e]; exact h2,e.symm⟩)
  ·exact .inr (.inr h1)
theorem r8.at{n:ab}{O:List Int}{k:Nat}(e:k = n.cells.length)(h:Rt n n.data.length k O):r8 n O:=by subst e; exact h.done
structure Wn(p:Nat -> Bool)(ws:List Int)(k:Nat)(nb wl:List Int):Prop where
 len:nb.length = ws.length
 num:∀ w,w < k -> nb.getD w 0 = I4 p w
 ws:wl = (Hp p k).map (fun i=>ws.getD i 0)
theorem Wn.init{p:Nat -> Bool}{ws:List Int}:Wn p ws 0 (List.replicate ws.length 0) []:=⟨by simp,fun w h=>by omega,rfl⟩
theorem Wn.no{p:Nat -> Bool}{ws nb wl:List Int}{k:Nat}(h:Wn p ws k nb wl)(hk:k < ws.length)(hp:p k = false):Wn p ws (k + 1) (nb.set k (-1)) wl where
 len:=by rw [List.length_set]; exact h.len
 num:=fun w hw=>by
  have:=h.len
  rcases Nat.lt_or_ge w k with h1 | h1
  ·rw [bR,if_neg om]; exact h.num w h1
  ·obtain rfl:w = k:=by omega
   rw [bR,if_pos ⟨rfl,om⟩]
   unfold I4; rw [if_neg (by simp [hp])]
 ws:=by rw [wJ hp]; exact h.ws
theorem Wn.PI{p:Nat -> Bool}{ws nb wl:List Int}(h:Wn p ws ws.length nb wl):I5 p ws.length nb:=⟨h.len,h.num⟩
theorem Wn.ai{p:Nat -> Bool}{ws nb wl:List Int}(h:Wn p ws ws.length nb wl):wl = JV p ws 0:=h.ws
theorem FF{n:ab}{j:Nat}(hf:bg n)(hj:j < n.cells.length):(n.cells.getD j default).out = -1 \/ (0 <= (n.cells.getD j default).out /\ (n.cells.getD j default).out < n.aa.length):=by
 have h:=hf.cells j hj
 by_cases e:(n.cells.getD j default).kind = 7
 ·exact .inl (h.2.2.1 e)
 ·exact .inr (h.2.2.2 e)
theorem I5.at{p:Nat -> Bool}{ws nb wl:List Int}{k:Nat}(e:k = ws.length)(h:Wn p ws k nb wl):I5 p ws.length nb:=by subst e; exact h.PI
theorem Wn.at{p:Nat -> Bool}{ws nb wl:List Int}{k:Nat}(e:k = ws.length)(h:Wn p ws k nb wl):wl = JV p ws 0:=by subst e; exact h.ai
def Cn(n:ab)(dJ:List Int)(s:List Bool)(i:Nat):List Cell:=((Hp (kc n s) i).map (fun i=>n.cells.getD i default)).map (Tv (kw n dJ s))
theorem Wn.le{p:Nat -> Bool}{ws nb wl:List Int}{k:Nat}(h:Wn p ws k nb wl):wl.length <= k:=by rw [h.ws,List.length_map]; exact FE _ _
theorem Cn.no{n:ab}{dJ:List Int}{s:List Bool}{i:Nat}(h:kc n s i = false):Cn n dJ s (i + 1) = Cn n dJ s i:=by unfold Cn; rw [wJ h]
open Go Go.AW Go.Proofs
def dW.tf(a:dW):List Value:=[.string a.name,.int .i64 a.width,.int .i64 a.len,.int .i64 a.kind,.int .i64 a.uk]
def b8.tf(a:b8):List Value:=[.string a.name,.int .i64 a.width,.bool a.out]
def dW.Tw(a b:dW):Bool:=a.name.toList == b.name.toList && (a.width == b.width && (a.len == b.len && (a.kind == b.kind && a.uk == b.uk)))
def b8.Tw(a b:b8):Bool:=a.name.toList == b.name.toList && (a.width == b.width && a.out == b.out)
open Go Go.AW
def Hr{α:Type}(e:α -> α -> Bool)(d:α)(l m:List α):Prop:=l.length = m.length /\ ∀ j,j < l.length -> e (l.getD j d) (m.getD j d) = true
noncomputable instance {α:Type} (e:α -> α -> Bool) (d:α) (l m:List α):Decidable (Hr e d l m):=Classical.propDecidable _
def Dl(a b:Int):Bool:=decide (a = b)
noncomputable def PJ(x y:Cell):Bool:=decide (x.kind = y.kind /\ x.op = y.op /\ x.out = y.out /\ x.num = y.num /\ x.mem = y.mem /\ Hr Dl 0 x.args y.args)
structure PK(a b:ab):Prop where
 name:a.name.toList = b.name.toList
 aa:Hr Dl 0 a.aa b.aa
 ins:Hr Dl 0 a.ins b.ins
 aA:Hr dW.Tw default a.aA b.aA
 streams:Hr b8.Tw default a.streams b.streams
 ba:Hr Dl 0 a.ba b.ba
 data:Hr Dl 0 a.data b.data
 freeze:a.freeze = b.freeze
 done:a.done = b.done
 bF:Hr Dl 0 a.bF b.bF
 cells:Hr PJ default a.cells b.cells
noncomputable instance (a b:ab):Decidable (PK a b):=Classical.propDecidable _
structure Tx(n:ab):Prop where
 aa:n.aa.length <= 35184372088832
 cells:n.cells.length <= 35184372088832
 args:∀ c ∈ n.cells,c.args.length <= 35184372088832
 ins:n.ins.length <= 35184372088832
 aA:n.aA.length <= 35184372088832
 streams:n.streams.length <= 35184372088832
 ba:n.ba.length <= 35184372088832
 data:n.data.length <= 35184372088832
 bF:n.bF.length <= 35184372088832
open Go Go.AW Go.Proofs
theorem pW.eq{n:ab}{a b:List Int}(hf:bg n)(ha:pW n a)(hb:pW n b):a = b:=by
 refine List.ext_getElem (by rw [ha.len,hb.len]) fun i h1 h2=>?_
 have hi:In (i:Int) n.aa.length:=⟨om,by have:=ha.len; omega⟩
 have h:=hf.unique (ha.Li _ hi) (hb.Li _ hi)
 rw [Int.toNat_natCast,List.getD_eq_getElem?_getD,List.getElem?_eq_getElem h1,List.getD_eq_getElem?_getD,List.getElem?_eq_getElem h2] at h
 exact h
theorem ab.Small.lens{n:ab}(hs:n.Small):Tx n where
 aa:=by have:=hs.aa; omega
 cells:=by have:=hs.cells; omega
 args:=fun c hc=>by have:=hs.args c hc; omega
 ins:=by have:=hs.ins; omega
 aA:=by have:=hs.aA; omega
 streams:=by have:=hs.streams; omega
 ba:=by have:=hs.ba; omega
 data:=by have:=hs.data; omega
 bF:=by have:=hs.bF; omega
structure Wg(p:Nat -> Bool)(ws:List Int)(k:Nat)(nb:List Int)(v:Nat):Prop where
 w:Wn p ws k nb ((Hp p k).map (fun i=>ws.getD i 0))
 v:v = (Hp p k).length
theorem Wg.init{p:Nat -> Bool}{ws:List Int}:Wg p ws 0 (List.replicate ws.length 0) 0:=⟨Wn.init,rfl⟩
theorem Wg.no{p:Nat -> Bool}{ws nb:List Int}{k v:Nat}(h:Wg p ws k nb v)(hk:k < ws.length)(hp:p k = false):Wg p ws (k + 1) (nb.set k (-1)) v:=by
 refine ⟨?_,by rw [wJ hp]; exact h.v⟩
 rw [wJ hp]; exact h.w.no hk hp
theorem Wg.le{p:Nat -> Bool}{ws nb:List Int}{k v:Nat}(h:Wg p ws k nb v):v <= k:=by rw [h.v]; exact FE _ _
theorem Wg.num{p:Nat -> Bool}{ws nb:List Int}{k v:Nat}(e:k = ws.length)(h:Wg p ws k nb v):I5 p ws.length nb:=by subst e; exact h.w.PI
section
variable {n:ab} {dJ:List Int} {s:List Bool}
end
open Go Go.AW Go.Proofs
def dF(n:Nat):Nat:=if n <= 1 then 0 else Nat.log2 (n - 1) + 1
theorem FG{n k:Nat}(h1:n <= 2 ^ k)(h2:k = 0 \/ 2 ^ (k - 1) < n):dF n = k:=by
 unfold dF
 by_cases e:n <= 1
 ·rw [if_pos e]
  rcases h2 with h2 | h2
  ·exact h2.symm
  ·have:=Nat.one_le_two_pow (n:=k - 1); omega
 ·rw [if_neg e]
  rcases h2 with h2 | h2
  ·subst h2; simp at h1; omega
  ·have hk:0 < k:=by
    rcases Nat.eq_zero_or_pos k with h | h
    ·subst h; simp at h1; omega
    ·exact h
   have:Nat.log2 (n - 1) = k - 1:=by
    rw [Nat.log2_eq_iff om]
    rw [show k - 1 + 1 = k by omega]
    omega
   omega
theorem nI{n k:Nat}(h:n <= 2 ^ k):dF n <= k:=by
 unfold dF
 by_cases e:n <= 1
 ·rw [if_pos e]; omega
 ·rw [if_neg e]
  have:=(Nat.log2_lt (n:=n - 1) (k:=k) om).2 om
  omega
def bo(op:Int)(w:Nat):Int :=
 if op = 9 \/ op = 10 \/ op = 11 then 20 else if op = 2 then 40 + 40 * (dF w:Int) else if op = 3 then 50 + 40 * (dF w:Int) else if op = 15 \/ op = 16 then 30 + 20 * (dF w:Int)
 else if op = 17 \/ op = 18 then 40 + 40 * (dF (w + 1):Int) else if op = 19 \/ op = 20 then 50 + 40 * (dF (w + 1):Int) else if op = 21 then 50 else if op = 12 \/ op = 13 then 30 + 40 * (dF w:Int)
 else if op = 14 then 50 + 40 * (dF w:Int) else 0
theorem Dm{op:Int}{w:Nat}(h:w <= 64):0 <= bo op w /\ bo op w <= 400:=by
 have h1:dF w <= 6:=nI om
 have h2:dF (w + 1) <= 7:=nI om
 unfold bo
 repeat' split
 all_goals omega
def oa(n:ab)(c:Cell):Int :=
 if c.kind = 1 then 0 else if c.kind = 2 then bo c.op (if km c.op then n.av c 0 else n.wd c.out).toNat else if c.kind = 3 then 20 + 20 * (dF (c.args.length / 2):Int) else 30
theorem Lk{n:ab}{c:Cell}(hw:∀ w ∈ n.aa,dO w)(ha:c.args.length <= 200):0 <= oa n c /\ oa n c <= 400:=by
 have CZ:∀ w,(n.wd w).toNat <= 64:=fun w=>by
  unfold ab.wd
  rw [List.getD_eq_getElem?_getD]
  cases h:n.aa[w.toNat]? with
  | none=>simp
  | some v =>
   have:=hw v (List.mem_of_getElem? h)
   unfold dO at this
   simp only [Option.getD_some]; omega
 have hl:dF (c.args.length / 2) <= 7:=nI om
 unfold oa
 split
 ·omega
 split
 ·refine Dm ?_
  split
  ·exact CZ _
  ·exact CZ _
 split
 ·omega
 ·omega
open Go Go.AW
theorem s0:∀ n:Nat,n <= 2 ^ dF n:=fun n=>by
 unfold dF
 by_cases h:n <= 1
 ·rw [if_pos h]; simpa using h
 ·rw [if_neg h]
  have:=@Nat.lt_log2_self (n - 1)
  omega
theorem Ll{n:Nat}(h:2 <= n):2 ^ (dF n - 1) < n /\ 1 <= dF n:=by
 unfold dF
 rw [if_neg om]
 have:=Nat.log2_self_le (n:=n - 1) om
 rw [Nat.add_sub_cancel]; omega
theorem rA{m:Nat}(h:2 <= m):dF ((m + 1) / 2) + 1 = dF m:=by
 have h1:=s0 m
 obtain ⟨h2,h3⟩:=Ll h
 obtain ⟨k,hk⟩:∃ k,dF m = k + 1:=⟨dF m - 1,om⟩
 rw [hk] at h1 h2 ⊢
 rw [Nat.add_sub_cancel] at h2
 rw [Nat.pow_succ] at h1
 have:dF ((m + 1) / 2) = k:=by
  refine FG om ?_
  rcases Nat.eq_zero_or_pos k with h4 | h4
  ·exact .inl h4
  ·refine .inr ?_
   obtain ⟨j,rfl⟩:∃ j,k = j + 1:=⟨k - 1,om⟩
   rw [Nat.add_sub_cancel]
   rw [Nat.pow_succ] at h2
   omega
 omega
theorem oS{a b:Nat}(h:a <= b):dF a <= dF b:=nI (Nat.le_trans h (s0 b))
theorem Cg{n:Nat}(h:n <= 1):dF n = 0:=by unfold dF; rw [if_pos h]
def jU(f : Nat → Bool) : Nat → Bool
 | 0=>false
 | n + 1=>f n || jU f n
theorem lA{f : Nat → Bool} : ∀ {n}, jU f n = true ↔ ∃ k, k < n ∧ f k = true
 | 0=>by simp [jU]
 | n + 1=>by
  simp only [jU,Bool.or_eq_true,lA (n:=n)]
  constructor
  ·rintro (h | ⟨k,hk,h⟩)
   ·exact ⟨n,om,h⟩
   ·exact ⟨k,om,h⟩
  ·rintro ⟨k,hk,h⟩
   rcases Nat.lt_or_ge k n with h1 | h1
   ·exact .inr ⟨k,h1,h⟩
   ·obtain rfl:k = n:=by omega
    exact .inl h
def u6(f:Nat -> Bool)(m k:Nat):Bool:=if 2 * k + 1 < m then f (2 * k) || f (2 * k + 1) else f (2 * k)
theorem vP{f:Nat -> Bool}{m:Nat}:jU (u6 f m) ((m + 1) / 2) = jU f m:=by
 apply Bool.eq_iff_iff.2
 rw [lA,lA]
 constructor
 ·rintro ⟨k,hk,h⟩
  unfold u6 at h
  by_cases h1:2 * k + 1 < m
  ·rw [if_pos h1,Bool.or_eq_true] at h
   rcases h with h | h
   ·exact ⟨_,om,h⟩
   ·exact ⟨_,h1,h⟩
  ·rw [if_neg h1] at h; exact ⟨_,om,h⟩
 ·rintro ⟨k,hk,h⟩
  refine ⟨k / 2,om,?_⟩
  unfold u6
  by_cases h1:2 * (k / 2) + 1 < m
  ·rw [if_pos h1,Bool.or_eq_true]
   rcases (show 2 * (k / 2) = k \/ 2 * (k / 2) + 1 = k by omega) with h2 | h2
   ·rw [h2]; exact .inl h
   ·rw [h2]; exact .inr h
  ·rw [if_neg h1,show 2 * (k / 2) = k by omega]; exact h
def u7(G P:Nat -> Bool)(m k:Nat):Bool:=if 2 * k + 1 < m then G (2 * k + 1) || (P (2 * k + 1) && G (2 * k)) else G (2 * k)
def u9(P:Nat -> Bool)(m k:Nat):Bool:=if 2 * k + 1 < m then P (2 * k + 1) && P (2 * k) else P (2 * k)
theorem s4{G P : Nat → Bool}{m : Nat}{z : Bool} : ∀ k, 2 * k ≤ m → ca (u7 G P m) (u9 P m) 0 k z = ca G P 0 (2 * k) z
 | 0,_=>rfl
 | k + 1,h=>by
  rw [ca,s4 k om,show 2 * (k + 1) = 2 * k + 1 + 1 by omega,ca,ca]
  simp only [Nat.zero_add,u7,u9]
  rw [if_pos om,if_pos om]
  cases G (2 * k + 1) <;> cases P (2 * k + 1) <;> cases G (2 * k) <;> cases P (2 * k) <;> cases ca G P 0 (2 * k) z <;> rfl
theorem Ch{G P:Nat -> Bool}{m:Nat}{z:Bool}:ca (u7 G P m) (u9 P m) 0 ((m + 1) / 2) z = ca G P 0 m z:=by
 rcases (show 2 * ((m + 1) / 2) = m \/ 2 * ((m + 1) / 2) = m + 1 by omega) with h | h
 ·rw [s4 _ om,h]
 ·obtain ⟨k,hk⟩:∃ k,(m + 1) / 2 = k + 1:=⟨(m + 1) / 2 - 1,om⟩
  rw [hk,ca,s4 k om]
  have h1:m = 2 * k + 1:=by omega
  subst h1
  rw [ca]
  simp only [Nat.zero_add,u7,u9]
  rw [if_neg om,if_neg om]
def JW{w:Nat}(x y:BitVec w)(i:Nat):Bool:=!x.getLsbD i && y.getLsbD i
def Lm{w:Nat}(x y:BitVec w)(i:Nat):Bool:=!(x.getLsbD i ^^ y.getLsbD i)
theorem JX{w : Nat}{x y : BitVec w} : ∀ n, ca (JW x y) (Lm x y) 0 n false = decide (x.toNat % 2 ^ n < y.toNat % 2 ^ n)
 | 0=>by simp [ca,Nat.mod_one]
 | n + 1=>by
  rw [ca,JX n,Nat.mod_pow_succ,Nat.mod_pow_succ]
  have h1:=Nat.mod_lt x.toNat (Nat.two_pow_pos n)
  have h2:=Nat.mod_lt y.toNat (Nat.two_pow_pos n)
  simp only [Nat.zero_add,JW,Lm,BitVec.getLsbD,Nat.testBit_eq_decide_div_mod_eq]
  rcases Nat.mod_two_eq_zero_or_one (x.toNat / 2 ^ n) with h3 | h3 <;> rcases Nat.mod_two_eq_zero_or_one (y.toNat / 2 ^ n) with h4 | h4 <;> rw [h3,h4] <;> simp <;> omega
theorem FH{w:Nat}{x y:BitVec w}:ca (JW x y) (Lm x y) 0 w false = x.ult y:=by
 rw [JX,Nat.mod_eq_of_lt x.isLt,Nat.mod_eq_of_lt y.isLt]; rfl
def FI{w:Nat}(x y:BitVec w)(i:Nat):Bool:=if i + 1 = w then !y.getLsbD i && x.getLsbD i else JW x y i
theorem Ln{w:Nat}{x y:BitVec w}(h:0 < w):ca (FI x y) (Lm x y) 0 w false = x.slt y:=by
 obtain ⟨n,rfl⟩:∃ n,w = n + 1:=⟨w - 1,om⟩
 have h1:ca (FI x y) (Lm x y) 0 n false = ca (JW x y) (Lm x y) 0 n false:=r7 (fun i hi=>by unfold FI; rw [if_neg om]) (fun _ _=>rfl)
 have h2:=FH (x:=x) (y:=y)
 rw [ca] at h2 ⊢
 rw [h1,BitVec.slt_eq_ult,<- h2,BitVec.msb_eq_getLsbD_last,BitVec.msb_eq_getLsbD_last]
 simp only [Nat.zero_add,FI,if_true,JW,Lm,Nat.add_sub_cancel]
 cases x.getLsbD n <;> cases y.getLsbD n <;> simp
theorem Lo{w:Nat}{x y:BitVec w}:jU (fun i=>x.getLsbD i ^^ y.getLsbD i) w = decide (x ≠ y):=by
 apply Bool.eq_iff_iff.2
 rw [lA,decide_eq_true_iff]
 constructor
 ·rintro ⟨k,_,h⟩ rfl
  simp at h
 ·intro h
  apply Classical.byContradiction
  intro hn
  refine h (BitVec.eq_of_getLsbD_eq fun i hi=>?_)
  apply Classical.byContradiction
  intro h1
  refine hn ⟨i,hi,?_⟩
  cases h2:x.getLsbD i <;> cases h3:y.getLsbD i <;> simp_all
open Go Go.AW
def tJ(left:Bool)(w:Nat)(a:Nat -> Bool)(fill:Bool)(s i:Nat):Bool :=
 if left then (if s <= i then a (i - s) else fill) else (if i + s < w then a (i + s) else fill)
def PL(left:Bool)(k i:Nat):Int:=if left then (i:Int) - 2 ^ k else (i:Int) + 2 ^ k
theorem FJ{left:Bool}{w:Nat}{a:Nat -> Bool}{fill:Bool}{i:Nat}(h:i < w):tJ left w a fill 0 i = a i:=by
 unfold tJ
 cases left
 ·simp only [Bool.false_eq_true,if_false]; rw [if_pos om]; rfl
 ·simp only [if_true]; rw [if_pos om]; rfl
theorem FK{left : Bool}{w : Nat}{a : Nat → Bool}{fill : Bool}{s i p : Nat}(h : i < w) :
  tJ left w a fill (s + p) i = (if left then (if p <= i then tJ left w a fill s (i - p) else fill) else (if i + p < w then tJ left w a fill s (i + p) else fill)):=by
 unfold tJ
 cases left
 ·simp only [Bool.false_eq_true,if_false]
  by_cases h1:i + p < w
  ·rw [if_pos h1]
   by_cases h2:i + p + s < w
   ·rw [if_pos om,if_pos h2,show i + (s + p) = i + p + s by omega]
   ·rw [if_neg om,if_neg h2]
  ·rw [if_neg h1,if_neg om]
 ·simp only [if_true]
  by_cases h1:p <= i
  ·rw [if_pos h1]
   by_cases h2:s <= i - p
   ·rw [if_pos om,if_pos h2,show i - (s + p) = i - p - s by omega]
   ·rw [if_neg om,if_neg h2]
  ·rw [if_neg h1,if_neg om]
theorem FL{w:Nat}{b:BitVec w}{k:Nat}:b.toNat % 2 ^ (k + 1) = b.toNat % 2 ^ k + (if b.getLsbD k then 2 ^ k else 0):=by
 rw [Nat.mod_pow_succ,BitVec.getLsbD,Nat.testBit_eq_decide_div_mod_eq]
 rcases Nat.mod_two_eq_zero_or_one (b.toNat / 2 ^ k) with h | h <;> rw [h] <;> simp
theorem AE{w st:Nat}{b:BitVec w}(h:jU (fun j=>b.getLsbD (st + j)) (w - st) = false):b.toNat % 2 ^ st = b.toNat:=by
 refine Nat.mod_eq_of_lt (Nat.lt_pow_two_of_testBit _ fun i hi=>?_)
 rcases Nat.lt_or_ge i w with h1 | h1
 ·apply Classical.byContradiction
  intro hn
  have h2:jU (fun j=>b.getLsbD (st + j)) (w - st) = true:=lA.2 ⟨i - st,om,by
   show b.getLsbD (st + (i - st)) = true
   rw [show st + (i - st) = i by omega]
   simpa [BitVec.getLsbD] using hn⟩
  rw [h] at h2; cases h2
 ·exact Nat.testBit_lt_two_pow (Nat.lt_of_lt_of_le b.isLt (Nat.pow_le_pow_right om h1))
theorem wK{w st:Nat}{b:BitVec w}(h:jU (fun j=>b.getLsbD (st + j)) (w - st) = true)(hw:w <= 2 ^ st):w <= b.toNat:=by
 obtain ⟨k,_,hk⟩:=lA.1 h
 have h1:2 ^ (st + k) <= b.toNat:=Nat.ge_two_pow_of_testBit hk
 have h2:2 ^ st <= 2 ^ (st + k):=Nat.pow_le_pow_right om om
 omega
theorem I6{w st i : Nat}{a b : BitVec w}(hw : w ≤ 2 ^ st)(h : i < w) :
  (a <<< b.toNat).getLsbD i = ((!jU (fun j=>b.getLsbD (st + j)) (w - st)) && tJ true w a.getLsbD false (b.toNat % 2 ^ st) i):=by
 cases hf:jU (fun j=>b.getLsbD (st + j)) (w - st) with
 | true =>
  have:=wK hf hw
  rw [BitVec.getLsbD_shiftLeft]
  simp; omega
 | false =>
  rw [AE hf,BitVec.getLsbD_shiftLeft]
  unfold tJ
  rw [if_pos rfl]
  by_cases h1:b.toNat <= i
  ·rw [if_pos h1]; simp [h]; omega
  ·rw [if_neg h1]; simp; omega
theorem I7{w st i : Nat}{a b : BitVec w}(hw : w ≤ 2 ^ st)(_ : i < w) :
  (a >>> b.toNat).getLsbD i = ((!jU (fun j=>b.getLsbD (st + j)) (w - st)) && tJ false w a.getLsbD false (b.toNat % 2 ^ st) i):=by
 rw [BitVec.getLsbD_ushiftRight]
 cases hf:jU (fun j=>b.getLsbD (st + j)) (w - st) with
 | true =>
  have:=wK hf hw
  rw [BitVec.getLsbD_of_ge _ _ om]; rfl
 | false =>
  rw [AE hf]
  unfold tJ
  simp only [Bool.false_eq_true,if_false]
  by_cases h1:i + b.toNat < w
  ·rw [if_pos h1,Nat.add_comm]; rfl
  ·rw [if_neg h1,BitVec.getLsbD_of_ge _ _ om]; rfl
theorem I8{w st i : Nat}{a b : BitVec w}(hw : w ≤ 2 ^ st)(h : i < w) :
  (a.sshiftRight b.toNat).getLsbD i = (if jU (fun j=>b.getLsbD (st + j)) (w - st) then a.msb else tJ false w a.getLsbD a.msb (b.toNat % 2 ^ st) i):=by
 rw [BitVec.getLsbD_sshiftRight]
 cases hf:jU (fun j=>b.getLsbD (st + j)) (w - st) with
 | true =>
  have:=wK hf hw
  rw [if_pos rfl,if_neg om]
  simp; omega
 | false =>
  rw [AE hf]
  unfold tJ
  simp only [Bool.false_eq_true,if_false]
  by_cases h1:i + b.toNat < w
  ·rw [if_pos h1,if_pos om,Nat.add_comm]; simp; omega
  ·rw [if_neg h1,if_neg om]; simp; omega
open Go Go.AW
section
variable {c:Int} {g0 gl:List Gate} {a out:List Int} {f:Nat -> List Bool -> Bool} {t:Int} {i n:Nat}
structure yw(c:Int)(g0 gl:List Gate)(out:List Int)(h:Nat -> List Bool -> Bool)(u:Int)(i:Nat):Prop where
 ext:Ext g0 gl
 len:gl.length = g0.length + i
 ol:out.length = i
 ws:Ws c gl out h u
theorem yw.init{h:Nat -> List Bool -> Bool}{u:Int}(hg:Good g0):yw c g0 g0 [] h u 0:=⟨.refl hg,rfl,rfl,.nil⟩
theorem yw.put{h:Nat -> List Bool -> Bool}{u:Int}{q:Gate}(k:yw c g0 gl out h u i)(he:Ext gl (gl ++ [q]))(hw:Wr c (gl ++ [q]) (gl.length:Int) (h i) u):yw c g0 (gl ++ [q]) (out ++ [(gl.length:Int)]) h u (i + 1) :=
 ⟨k.ext.trans he,by rw [List.length_append,k.len]; rfl,by rw [List.length_append,k.ol]; rfl,(k.ws.ext he).snoc (by rw [k.ol]; exact hw)⟩
theorem yw.not(k : yw c g0 gl out (fun k ins => !f k ins) (t + 10) i)(ha : Ws c g0 a f t)(hi : i < a.length) :
  yw c g0 (gl ++ [⟨4,a.getD i 0,0⟩]) (out ++ [(gl.length:Int)]) (fun k ins=>!f k ins) (t + 10) (i + 1):=by
 have h1:=(ha.bit i hi).ext k.ext
 exact k.put (Ext.not k.ext.dw h1) (h1.not (Int.le_refl _))
theorem yw.two{k : Int}{b : List Int}{h : Nat → List Bool → Bool}{e : Nat → List Bool → Bool}{u : Int}(m : yw c g0 gl out e u i)(hk : 5 ≤ k ∧ k ≤ 7)(ha : Wr c g0 (a.getD i 0) (f i) t)(hb : Wr c g0 (b.getD i 0) (h i) t)(hu : t + 20 ≤ u)
  (he:∀ ins,e i ins = if k = 5 then (f i ins && h i ins) else if k = 6 then (f i ins || h i ins) else (f i ins ^^ h i ins)) :
  yw c g0 (gl ++ [⟨k,a.getD i 0,b.getD i 0⟩]) (out ++ [(gl.length:Int)]) e u (i + 1):=by
 have h1:=ha.ext m.ext
 have h2:=hb.ext m.ext
 refine m.put (Ext.two m.ext.dw hk h1 h2) ?_
 rcases (show k = 5 \/ k = 6 \/ k = 7 by omega) with rfl | rfl | rfl
 ·exact (h1.and h2 hu hu).as fun ins=>by rw [he]; rfl
 ·exact (h1.or h2 hu hu).as fun ins=>by rw [he]; rfl
 ·exact (h1.xor h2 hu hu).as fun ins=>by rw [he]; rfl
structure s5(c:Int)(g0:List Gate)(f:Nat -> List Bool -> Bool)(n:Nat)(t:Int)(gl:List Gate)(l:List Int):Prop where
 ext:Ext g0 gl
 len:gl.length + l.length <= g0.length + n
 lo:1 <= l.length
 ex:∃ (f':Nat -> List Bool -> Bool) (t':Int),Ws c gl l f' t' /\ (∀ ins,jU (fun k=>f' k ins) l.length = jU (fun k=>f k ins) n) /\ t' + 20 * (dF l.length:Int) <= t + 20 * (dF n:Int)
theorem s5.init(hg:Good g0)(ha:Ws c g0 a f t)(h:1 <= a.length):s5 c g0 f a.length t g0 a:=⟨.refl hg,Nat.le_refl _,h,f,t,ha,fun _=>rfl,Int.le_refl _⟩
theorem s5.done{l:List Int}(h:s5 c g0 f n t gl l)(h1:l.length <= 1):Wr c gl (l.getD 0 0) (fun ins=>jU (fun k=>f k ins) n) (t + 20 * (dF n:Int)):=by
 obtain ⟨f',t',hw,he,ht⟩:=h.ex
 have hl:l.length = 1:=by have:=h.lo; omega
 rw [Cg h1] at ht
 refine ((hw.bit 0 om).late om).as fun ins=>?_
 rw [<- he ins,hl]; simp [jU]
structure uA(c:Int)(g1:List Gate)(l:List Int)(gl:List Gate)(next:List Int)(i:Nat):Prop where
 ext:Ext g1 gl
 even:i % 2 = 0
 hi:i <= l.length
 nl:next.length = i / 2
 len:gl.length = g1.length + i / 2
 ws:∀ f t,Ws c g1 l f t -> Ws c gl next (fun k ins=>u6 (fun k=>f k ins) l.length k) (t + 20)
theorem uA.init{g1:List Gate}{l:List Int}(hg:Good g1):uA c g1 l g1 [] 0:=⟨.refl hg,rfl,om,rfl,rfl,fun _ _ _=>.nil⟩
theorem uA.step{g1 : List Gate}{l next : List Int}(h : uA c g1 l gl next i)(hl : i + 1 < l.length)(hw : ∃ f t, Ws c g1 l f t) :
  uA c g1 l (gl ++ [⟨6,l.getD i 0,l.getD (i + 1) 0⟩]) (next ++ [(gl.length:Int)]) (i + 2):=by
 have he:=h.even
 obtain ⟨f0,t0,h0⟩:=hw
 have hx:Ext gl (gl ++ [⟨6,l.getD i 0,l.getD (i + 1) 0⟩]):=Ext.two h.ext.dw ae ((h0.bit i om).ext h.ext) ((h0.bit (i + 1) hl).ext h.ext)
 refine ⟨h.ext.trans hx,om,om,by rw [List.length_append,h.nl,List.length_singleton]; omega,by rw [List.length_append,h.len,List.length_singleton]; omega,fun f t hf=>?_⟩
 refine ((h.ws f t hf).ext hx).snoc ?_
 refine (((hf.bit i om).ext h.ext).or ((hf.bit (i + 1) hl).ext h.ext) (Int.le_refl _) (Int.le_refl _)).as fun ins=>?_
 rw [h.nl]; unfold u6
 rw [show 2 * (i / 2) = i by omega,if_pos hl]
theorem uA.YU{g1 : List Gate}{l next : List Int}(h : uA c g1 l gl next i)(hl : ¬ i + 1 < l.length)(ho : l.length % 2 = 1)(f : Nat → List Bool → Bool)(t : Int)(hf : Ws c g1 l f t) :
  Ws c gl (next ++ [l.getD (l.length - 1) 0]) (fun k ins=>u6 (fun k=>f k ins) l.length k) (t + 20):=by
 have he:=h.even; have hh:=h.hi
 refine (h.ws f t hf).snoc ?_
 refine (((hf.bit (l.length - 1) om).ext h.ext).late om).as fun ins=>?_
 rw [h.nl]; unfold u6
 rw [show 2 * (i / 2) = l.length - 1 by omega,if_neg om]
theorem s5.next{l next:List Int}{g1:List Gate}(h:s5 c g0 f n t g1 l)(hj:uA c g1 l gl next i)(hl:¬ i + 1 < l.length)(h2:1 < l.length)(ho:¬ l.length % 2 = 1):s5 c g0 f n t gl next:=by
 have he:=hj.even; have hh:=hj.hi; have hn:=hj.nl; have hg:=hj.len; have Ty:=h.len
 obtain ⟨f',t',hw,hv,ht⟩:=h.ex
 have AF:next.length = (l.length + 1) / 2:=by omega
 have BB:=rA (m:=l.length) om
 refine ⟨h.ext.trans hj.ext,om,om,_,_,hj.ws f' t' hw,fun ins=>?_,?_⟩
 ·rw [AF,vP]; exact hv ins
 ·rw [AF]; omega
theorem s5.PM{l next:List Int}{g1:List Gate}(h:s5 c g0 f n t g1 l)(hj:uA c g1 l gl next i)(hl:¬ i + 1 < l.length)(h2:1 < l.length)(ho:l.length % 2 = 1):s5 c g0 f n t gl (next ++ [l.getD (l.length - 1) 0]):=by
 have he:=hj.even; have hh:=hj.hi; have hn:=hj.nl; have hg:=hj.len; have Ty:=h.len
 obtain ⟨f',t',hw,hv,ht⟩:=h.ex
 have AF:(next ++ [l.getD (l.length - 1) 0]).length = (l.length + 1) / 2:=by rw [List.length_append,hn]; simp; omega
 have BB:=rA (m:=l.length) om
 refine ⟨h.ext.trans hj.ext,by rw [AF]; omega,by rw [AF]; omega,_,_,hj.YU hl ho f' t' hw,fun ins=>?_,?_⟩
 ·rw [AF,vP]; exact hv ins
 ·rw [AF]; omega
end
def yx(l:List Gate)(s v y n:Int):List Gate:=l ++ [⟨5,s,y⟩,⟨5,v,n⟩,⟨6,(l.length:Int),(l.length:Int) + 1⟩]
theorem Lp{l:List Gate}{s v y n:Int}:yx l s v y n = ((l ++ [⟨5,s,y⟩]) ++ [⟨5,v,n⟩]) ++ [⟨6,(l.length:Int),(l.length:Int) + 1⟩]:=by simp [yx]
theorem I9{l:List Gate}{s v y n:Int}:((l ++ [⟨5,s,y⟩]) ++ [⟨5,v,n⟩]) ++ [⟨6,(l.length:Int),(((l ++ [(⟨5,s,y⟩:Gate)]).length:Nat):Int)⟩] = yx l s v y n:=by simp [yx]
theorem Ci{l:List Gate}{s v y n:Int}:(yx l s v y n).length = l.length + 3:=by simp [yx]
section
variable {c:Int} {l:List Gate} {s v y n:Int} {fs fy fn:List Bool -> Bool} {ts tv ty tn u:Int}
theorem FM(hg : Good l)(hs : Wr c l s fs ts)(hv : Wr c l v (fun ins => !fs ins) tv)(hy : Wr c l y fy ty)(hn : Wr c l n fn tn)(h1 : ts + 40 ≤ u)(h2 : tv + 40 ≤ u)(h3 : ty + 40 ≤ u)(h4 : tn + 40 ≤ u) :
  Ext l (yx l s v y n) /\ Wr c (yx l s v y n) ((l.length:Int) + 2) (fun ins=>if fs ins then fy ins else fn ins) u:=by
 have e1:Ext l (l ++ [⟨5,s,y⟩]):=Ext.two hg ae hs hy
 have w1:Wr c (l ++ [⟨5,s,y⟩]) (l.length:Int) (fun ins=>fs ins && fy ins) (u - 20):=hs.and hy om om
 have e2:Ext (l ++ [⟨5,s,y⟩]) ((l ++ [⟨5,s,y⟩]) ++ [⟨5,v,n⟩]):=Ext.two e1.dw ae (hv.ext e1) (hn.ext e1)
 have w2:Wr c ((l ++ [⟨5,s,y⟩]) ++ [⟨5,v,n⟩]) (((l ++ [(⟨5,s,y⟩:Gate)]).length:Nat):Int) (fun ins=>!fs ins && fn ins) (u - 20):=(hv.ext e1).and (hn.ext e1) om om
 have Xm:=w1.ext e2
 rw [List.length_append,List.length_singleton,Int.natCast_add,Int.natCast_one] at w2
 have e3:Ext ((l ++ [⟨5,s,y⟩]) ++ [⟨5,v,n⟩]) (((l ++ [⟨5,s,y⟩]) ++ [⟨5,v,n⟩]) ++ [⟨6,(l.length:Int),(l.length:Int) + 1⟩]):=Ext.two e2.dw ae Xm w2
 have w3:=Xm.or (u:=u) w2 om om
 rw [<- Lp] at e3 w3
 refine ⟨(e1.trans e2).trans e3,?_⟩
 have hl:((((l ++ [(⟨5,s,y⟩:Gate)]) ++ [(⟨5,v,n⟩:Gate)]).length:Nat):Int) = (l.length:Int) + 2:=by simp [Int.add_assoc]
 rw [hl] at w3
 exact w3.as fun ins=>by cases fs ins <;> simp
end
open Go Go.AW
structure bn where
 g:Int
 p:Int
instance:Inhabited bn:=⟨⟨0,0⟩⟩
def bn.row(x:bn):List X:=[.v (.int .i64 x.g),.v (.int .i64 x.p)]
theorem bn.bx(x:bn):X.b5 x.row = true:=rfl
theorem bn.lz(x:bn):X.fj x.row:=by simp [bn.row,X.fj,X.plain]
structure Wp(c:Int)(l:List Gate)(ps:List bn)(G P:Nat -> List Bool -> Bool)(t:Int):Prop where
 bit:∀ k,k < ps.length -> Wr c l (ps.getD k default).g (G k) t /\ Wr c l (ps.getD k default).p (P k) t
section
variable {c:Int} {g0 g1 gl:List Gate} {ps out next:List bn} {G P:Nat -> List Bool -> Bool} {t:Int} {i j n d:Nat}
theorem Wp.nil:Wp c gl [] G P t:=⟨fun k hk=>by simp at hk⟩
theorem Wp.ext{l':List Gate}(h:Wp c gl ps G P t)(he:Ext gl l'):Wp c l' ps G P t:=⟨fun k hk=>⟨(h.bit k hk).1.ext he,(h.bit k hk).2.ext he⟩⟩
theorem Wp.snoc{x y:Int}(h:Wp c gl ps G P t)(hx:Wr c gl x (G ps.length) t)(hy:Wr c gl y (P ps.length) t):Wp c gl (ps ++ [⟨x,y⟩]) G P t:=⟨fun k hk=>by
 rcases Nat.lt_or_ge k ps.length with h1 | h1
 ·rw [List.getD_eq_getElem?_getD,List.getElem?_append_left h1,<- List.getD_eq_getElem?_getD]; exact h.bit k h1
 ·have:k = ps.length:=by simp at hk; omega
  subst this; rw [jT rfl]; exact ⟨hx,hy⟩⟩
theorem Wp.take{k:Nat}(h:Wp c gl ps G P t):Wp c gl (ps.take k) G P t:=⟨fun i hi=>by
 rw [List.length_take] at hi
 rw [List.getD_eq_getElem?_getD,List.getElem?_take_of_lt om,<- List.getD_eq_getElem?_getD]; exact h.bit i om⟩
structure rB(c:Int)(g0:List Gate)(G P:Nat -> List Bool -> Bool)(t:Int)(n:Nat)(gl:List Gate)(out:List bn)(d j:Nat):Prop where
 ext:Ext g0 gl
 len:gl.length <= g0.length + 3 * n * j
 ol:out.length = n
 dj:d = 2 ^ j
 jl:j <= dF n
 gn:∀ i,i < n -> Wr c gl (out.getD i default).g (fun ins=>gen (fun k=>G k ins) (fun k=>P k ins) d i) (t + 40 * (j:Int))
 pr:∀ i,i < n -> d <= i -> Wr c gl (out.getD i default).p (fun ins=>pp (fun k=>P k ins) (i + 1 - d) d) (t + 40 * (j:Int))
theorem rB.init(hg:Good g0)(h:Wp c g0 ps G P t):rB c g0 G P t ps.length g0 ps 1 0 :=
 ⟨.refl hg,om,rfl,rfl,om,fun i hi=>((h.bit i hi).1.late om).as fun ins=>(Iw (G:=fun k=>G k ins) (P:=fun k=>P k ins)).symm,fun i hi _=>((h.bit i hi).2.late om).as fun ins=>by simp [pp]⟩
theorem rB.done(h:rB c g0 G P t n gl out d j)(hd:¬ d < n){i:Nat}(hi:i < n):Wr c gl (out.getD i default).g (fun ins=>ca (fun k=>G k ins) (fun k=>P k ins) 0 (i + 1) false) (t + 40 * (dF n:Int)):=by
 have:=h.jl
 exact ((h.gn i hi).late om).as fun ins=>wH om
theorem rB.Lq(h:rB c g0 G P t n gl out d j):1 <= d:=by rw [h.dj]; exact Nat.one_le_two_pow
structure rC(c:Int)(g1:List Gate)(G P:Nat -> List Bool -> Bool)(t:Int)(n:Nat)(out:List bn)(d j:Nat)(gl:List Gate)(next:List bn)(i:Nat):Prop where
 ext:Ext g1 gl
 lo:d <= i
 hi:i <= n \/ i = d
 len:gl.length <= g1.length + 3 * (i - d)
 nl:next.length = n
 gn:∀ k,k < n -> k < i -> Wr c gl (next.getD k default).g (fun ins=>gen (fun k=>G k ins) (fun k=>P k ins) (2 * d) k) (t + 40 * ((j:Int) + 1))
 pr:∀ k,k < n -> k < i -> 2 * d <= k -> Wr c gl (next.getD k default).p (fun ins=>pp (fun k=>P k ins) (k + 1 - 2 * d) (2 * d)) (t + 40 * ((j:Int) + 1))
 rest:∀ k,k < n -> i <= k -> next.getD k default = out.getD k default
theorem rC.init(h:rB c g0 G P t n g1 out d j):rC c g1 G P t n out d j g1 out d :=
 ⟨.refl h.ext.dw,Nat.le_refl _,.inr rfl,om,h.ol,fun k hk hd=>((h.gn k hk).late om).as fun ins=>(FA hd).symm,fun k _ h1 h2=>by omega,fun _ _ _=>rfl⟩
theorem getD_set_ne{α:Type}{l:List α}{i k:Nat}{x e:α}(h:i ≠ k):(l.set i x).getD k e = l.getD k e:=by
 rw [List.getD_eq_getElem?_getD,List.getElem?_set_ne h,<- List.getD_eq_getElem?_getD]
theorem ku{α:Type}{l:List α}{i:Nat}{x e:α}(h:i < l.length):(l.set i x).getD i e = x:=by
 rw [List.getD_eq_getElem?_getD,List.getElem?_set_self h]; rfl
theorem rC.Tz(hI : rB c g0 G P t n g1 out d j)(h : rC c g1 G P t n out d j gl next i)(hi : i < n)(hn : ¬ d ≤ i - d){q : Int} :
  rC c g1 G P t n out d j ((gl ++ [⟨5,(out.getD i default).p,(out.getD (i - d) default).g⟩]) ++ [⟨6,(out.getD i default).g,(gl.length:Int)⟩]) (next.set i ⟨((gl ++ [(⟨5,(out.getD i default).p,(out.getD (i - d) default).g⟩:Gate)]).length:Int),q⟩) (i + 1):=by
 have zL:=h.lo; have qA:=h.len; have Ep:=h.nl; have hd:=hI.Lq
 have wp:=(hI.pr i hi zL).ext h.ext
 have wg:=(hI.gn i hi).ext h.ext
 have wd:=(hI.gn (i - d) om).ext h.ext
 have e1:Ext gl (gl ++ [⟨5,(out.getD i default).p,(out.getD (i - d) default).g⟩]):=Ext.two h.ext.dw ae wp wd
 have w1:=wp.and (u:=t + 40 * (j:Int) + 20) wd om om
 have e2:=Ext.two (k:=6) e1.dw ae (wg.ext e1) w1
 have w2:=(wg.ext e1).or (u:=t + 40 * ((j:Int) + 1)) w1 om om
 have ex:=e1.trans e2
 refine ⟨h.ext.trans ex,om,om,by simp only [List.length_append,List.length_singleton]; omega,by rw [List.length_set]; exact Ep,fun k hk vd=>?_,fun k hk vd h2=>?_,fun k hk vd=>?_⟩
 ·rcases Nat.lt_or_ge k i with h1 | h1
  ·rw [getD_set_ne om]; exact (h.gn k hk h1).ext ex
  ·obtain rfl:k = i:=by omega
   rw [ku om]
   exact w2.as fun ins=>(Cf zL).symm
 ·rcases Nat.lt_or_ge k i with h1 | h1
  ·rw [getD_set_ne om]; exact (h.pr k hk h1 h2).ext ex
  ·omega
 ·rw [getD_set_ne om]; exact h.rest k hk om
theorem rC.YV(hI : rB c g0 G P t n g1 out d j)(h : rC c g1 G P t n out d j gl next i)(hi : i < n)(hn : d ≤ i - d){g2 : List Gate}
  (Xn:g2 = (gl ++ [⟨5,(out.getD i default).p,(out.getD (i - d) default).g⟩]) ++ [⟨6,(out.getD i default).g,(gl.length:Int)⟩]) :
  rC c g1 G P t n out d j (g2 ++ [⟨5,(out.getD i default).p,(out.getD (i - d) default).p⟩]) (next.set i ⟨((gl ++ [(⟨5,(out.getD i default).p,(out.getD (i - d) default).g⟩:Gate)]).length:Int),(g2.length:Int)⟩) (i + 1):=by
 have zL:=h.lo; have qA:=h.len; have Ep:=h.nl; have hd:=hI.Lq
 have wp:=(hI.pr i hi zL).ext h.ext
 have wg:=(hI.gn i hi).ext h.ext
 have wd:=(hI.gn (i - d) om).ext h.ext
 have wq:=(hI.pr (i - d) om hn).ext h.ext
 have e1:Ext gl (gl ++ [⟨5,(out.getD i default).p,(out.getD (i - d) default).g⟩]):=Ext.two h.ext.dw ae wp wd
 have w1:=wp.and (u:=t + 40 * (j:Int) + 20) wd om om
 have e2:=Ext.two (k:=6) e1.dw ae (wg.ext e1) w1
 have w2:=(wg.ext e1).or (u:=t + 40 * ((j:Int) + 1)) w1 om om
 have ex:=e1.trans e2
 rw [<- Xn] at e2 w2 ex
 have e3:=Ext.two (k:=5) ex.dw ae (wp.ext ex) (wq.ext ex)
 have w3:=(wp.ext ex).and (u:=t + 40 * ((j:Int) + 1)) (wq.ext ex) om om
 have ey:=ex.trans e3
 refine ⟨h.ext.trans ey,om,om,by rw [Xn]; simp only [List.length_append,List.length_singleton]; omega,by rw [List.length_set]; exact Ep,fun k hk vd=>?_,fun k hk vd h2=>?_,fun k hk vd=>?_⟩
 ·rcases Nat.lt_or_ge k i with h1 | h1
  ·rw [getD_set_ne om]; exact (h.gn k hk h1).ext ey
  ·obtain rfl:k = i:=by omega
   rw [ku om]
   exact (w2.ext e3).as fun ins=>(Cf zL).symm
 ·rcases Nat.lt_or_ge k i with h1 | h1
  ·rw [getD_set_ne om]; exact (h.pr k hk h1 h2).ext ey
  ·obtain rfl:k = i:=by omega
   rw [ku om]
   exact w3.as fun ins=>(Lh om).symm
 ·rw [getD_set_ne om]; exact h.rest k hk om
theorem rB.pass(hI:rB c g0 G P t n g1 out d j)(hd:d < n)(h:rC c g1 G P t n out d j gl next i)(hi:¬ i < n):rB c g0 G P t n gl next (d * 2) (j + 1):=by
 have zL:=h.lo; have qA:=h.len; have hg:=hI.len; have hh:=h.hi
 have hj:j + 1 <= dF n:=by
  have h1:=s0 n
  have h2:=hI.dj
  apply Classical.byContradiction
  intro h3
  have h4:2 ^ dF n <= 2 ^ j:=Nat.pow_le_pow_right om om
  omega
 refine ⟨hI.ext.trans h.ext,?_,h.nl,by rw [hI.dj,Nat.pow_succ],hj,fun k hk=>?_,fun k hk h2=>?_⟩
 ·rw [Nat.mul_add]; omega
 ·have:=h.gn k hk om
  rw [Nat.mul_comm,Int.natCast_add,Int.natCast_one]; exact this
 ·have:=h.pr k hk om om
  rw [Nat.mul_comm,Int.natCast_add,Int.natCast_one]; exact this
end
end Go.Proofs.Ytlimckldnjmabaa
