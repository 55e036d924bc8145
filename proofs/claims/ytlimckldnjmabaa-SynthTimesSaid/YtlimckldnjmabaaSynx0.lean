/- Netlists as the walk sees them. -/
import Derived.Test.YtlimckldnjmabaaAWx1
import Derived.Test.YtlimckldnjmabaaAWx2
import Derived.Test.YtlimckldnjmabaaProg
import Derived.KernelRfl
import Derived.Test.YtlimckldnjmabaaRows
set_option linter.unusedSimpArgs false
set_option linter.unusedVariables false
set_option linter.unusedSectionVars false
set_option maxRecDepth 4000
set_option maxHeartbeats 8000000
namespace Go.Proofs.Ytlimckldnjmabaa
open Go Go.AW
abbrev vi(z:Int):X:=.v (.int .i64 z)
abbrev vn:X:=.v (.slice none 0 0)
theorem aH{a b:Nat}(h:Nat.ble a b = true):a <= b:=Nat.le_of_ble_eq_true h
def ah(z:Int):List X:=[.v (.int .i64 z)]
theorem eR{p:Prop}(h:p:=by first | rfl | (simp only [List.cons.injEq,X.v.injEq,X.aL.injEq,Value.int.injEq,and_true,true_and]; omega) | simp_all):p:=h
theorem zT{p:Prop}(h:p:=by first | rfl | exact IntWalk.i64_in _ (by omega)):p:=h
theorem aI(z:Int):X.bu (ah z) = true:=rfl
theorem mF(z:Int):X.fw (ah z):=⟨trivial,trivial⟩
def jT(b:Bool):List X:=[.v (.bool b)]
theorem zU(b:Bool):X.bu (jT b) = true:=rfl
def u5(n:Nat):List X:=[.v (.int .u8 (n:Int))]
def KB(n:Nat):List X:=[.v (.int .u64 (n:Int))]
def dc(l:List Int):List X:=[.fz 1 (l.map ah)]
def iK(l:List Int):List X:=[.dH 1 (l.map ah)]
theorem lO(l:List Int):X.bu (dc l) = true:=rfl
theorem xR(l:List Int):X.jj (iK l) = dc l:=by
 show [X.fz 1 (X.lK (l.map ah))] = _
 rw [X.rA (g:=ah) (fun _=>rfl)]; rfl
structure Cell where
 kind:Int
 op:Int
 out:Int
 args:List Int
 num:Nat
 mem:Int
instance:Inhabited Cell:=⟨⟨0,0,0,[],0,0⟩⟩
def Cell.row(c:Cell):List X:=[.v (.int .i64 c.kind),.v (.int .i64 c.op),.v (.int .i64 c.out),.fz 1 (c.args.map ah),.v (.int .u64 (c.num:Int)),.v (.int .i64 c.mem)]
theorem Cell.bA(c:Cell):X.bu c.row = true:=rfl
structure eA where
 name:ByteArray
 width:Int
 len:Int
 kind:Int
 u6:Int
instance:Inhabited eA:=⟨⟨ByteArray.empty,0,0,0,0⟩⟩
def eA.row(a:eA):List X:=[.v (.string a.name),.v (.int .i64 a.width),.v (.int .i64 a.len),.v (.int .i64 a.kind),.v (.int .i64 a.u6)]
theorem eA.bA(c:eA):X.bu c.row = true:=rfl
theorem eA.lP(c:eA):X.fw c.row:=⟨trivial,trivial,trivial,trivial,trivial,trivial⟩
structure bE where
 name:ByteArray
 width:Int
 out:Bool
instance:Inhabited bE:=⟨⟨ByteArray.empty,0,false⟩⟩
def bE.row(a:bE):List X:=[.v (.string a.name),.v (.int .i64 a.width),.v (.bool a.out)]
theorem bE.bA(c:bE):X.bu c.row = true:=rfl
theorem bE.lP(c:bE):X.fw c.row:=⟨trivial,trivial,trivial,trivial⟩
structure ab where
 name:ByteArray
 aa:List Int
 cells:List Cell
 ins:List Int
 aD:List eA
 streams:List bE
 bB:List Int
 data:List Int
 freeze:Int
 done:Int
 cM:List Int
def ab.row(n : ab) : List X := [.v (.string n.name), .fz 1 (n.aa.map ah), .fz 6 (n.cells.map Cell.row), .fz 1 (n.ins.map ah), .fz 5 (n.aD.map eA.row), .fz 3 (n.streams.map bE.row),
 .fz 1 (n.bB.map ah),.fz 1 (n.data.map ah),.v (.int .i64 n.freeze),.v (.int .i64 n.done),.fz 1 (n.cM.map ah)]
structure ab.Small(n:ab):Prop where
 name:n.name.size <= 140737488351232
 aa:n.aa.length <= 17592186043904
 cells:n.cells.length <= 2199023255488
 args:∀ c ∈ n.cells,c.args.length <= 17592186043904
 GW:(n.cells.map (fun c=>c.args.length)).sum <= 8796093022208
 Ew:∀ c ∈ n.cells,c.num < 18446744073709551616
 rB:∀ m ∈ n.aD,m.name.size <= 140737488351232
 rC:∀ m ∈ n.streams,m.name.size <= 140737488351232
 ins:n.ins.length <= 17592186043904
 aD:n.aD.length <= 2932031007317
 streams:n.streams.length <= 4398046510976
 bB:n.bB.length <= 17592186043904
 data:n.data.length <= 17592186043904
 cM:n.cM.length <= 17592186043904
open Go Go.AW Go.Proofs
section
variable {H:Type} {enc:TypeId × Value -> H} {W:World} {base:Nat}
theorem HH:Reads enc Try.prog W base 66 KB (fun z=>z < 18446744073709551616) (fun _=>1):=Reads.NS Try.underlying66
theorem s7:Reads enc Try.prog W base 5 u5 (fun z=>z < 256) (fun _=>1):=Reads.S6 Try.underlying5
theorem NX:Try.prog.cellsOf 66 = 1:=by kernel_rfl
structure ab.WA(n:ab):Prop where
 name:n.name.size <= 140737488351232
 aa:n.aa.length <= 17592186043904
 cells:n.cells.length <= 2199023255488
 args:∀ c ∈ n.cells,c.args.length <= 17592186043904
 Ew:∀ c ∈ n.cells,c.num < 18446744073709551616
 rB:∀ m ∈ n.aD,m.name.size <= 140737488351232
 rC:∀ m ∈ n.streams,m.name.size <= 140737488351232
 ins:n.ins.length <= 17592186043904
 aD:n.aD.length <= 2932031007317
 streams:n.streams.length <= 4398046510976
 bB:n.bB.length <= 17592186043904
 data:n.data.length <= 17592186043904
 cM:n.cM.length <= 17592186043904
theorem ab.WA.small{n:ab}(h:n.WA)(ht:(n.cells.map (fun c=>c.args.length)).sum <= 8796093022208):n.Small:=⟨h.name,h.aa,h.cells,h.args,ht,h.Ew,h.rB,h.rC,h.ins,h.aD,h.streams,h.bB,h.data,h.cM⟩
end
open Go Go.AW
def jk(x:Nat):Prop:=(97 <= x /\ x <= 122) \/ (65 <= x /\ x <= 90) \/ (48 <= x /\ x <= 57) \/ x = 95
def o3(s:ByteArray):Prop:=(∀ i,i < s.size -> jk (b9 s i)) /\ s.size <= 64
def dz(w:Int):Prop:=1 <= w /\ w <= 64
def cd(op:Int):Int:=if (2 <= op /\ op <= 3) \/ (9 <= op /\ op <= 20) then 2 else if op = 21 then 3 else if 22 <= op /\ op <= 24 then 1 else 0
theorem sho{p:Prop}(h:p:=by ((simp only [Shaped,cd,Int.reduceEq,Bool.not_eq_true,false_and,true_and,and_true,and_false,or_false,false_or,ne_eq]) <;> (first | omega | grind))):p:=h
def Shaped(n:ab)(c:Cell):Prop :=
 (c.kind = 1 /\ c.args.length = 0 /\ c.op = 0 /\ c.mem = 0) \/
 (c.kind = 2 /\ cd c.op ≠ 0 /\ (c.args.length:Int) = cd c.op /\ c.num = 0 /\ c.mem = 0) \/
 (c.kind = 3 /\ 2 <= c.args.length /\ c.args.length % 2 = 0 /\ c.op = 0 /\ c.num = 0 /\ c.mem = 0) \/
 (c.kind = 4 /\ c.args.length = 2 /\ c.op = 0 /\ c.mem = 0) \/
 (c.kind = 5 /\ c.args.length = 2 /\ (4 <= c.op /\ c.op <= 8) /\ (1 <= c.num /\ c.num <= 4096) /\ c.mem = 0) \/
 (c.kind = 6 /\ c.args.length = 2 /\ c.op = 0 /\ c.num = 0 /\ 0 <= c.mem /\ c.mem < n.aD.length) \/
 (c.kind = 7 /\ c.args.length = 3 /\ c.op = 0 /\ c.num = 0 /\ 0 <= c.mem /\ c.mem < n.aD.length) \/
 (c.kind = 8 /\ c.args.length = 0 /\ c.op = 0 /\ c.num < n.ins.length /\ c.mem = 0) \/
 (c.kind = 9 /\ c.args.length = 0 /\ c.op = 0 /\ c.num = 0 /\ 0 <= c.mem /\ c.mem < n.streams.length) \/
 (c.kind = 10 /\ c.args.length = 0 /\ c.op = 0 /\ c.num = 0 /\ (0 <= c.mem /\ c.mem < n.streams.length) /\ (n.streams.getD c.mem.toNat default).out = false)
theorem shq{p:Prop}(h:p:=by ((simp only [Shaped,Int.reduceEq,Bool.not_eq_true,false_and,true_and,and_true,and_false,or_false,false_or,ne_eq]) <;> (first | omega | grind))):p:=h
theorem iq{p:Prop}(h:p:=by ((simp only [Shaped, *,Int.reduceEq,Bool.not_eq_true,false_and,true_and,and_true,and_false,or_false,false_or,ne_eq]) <;> (first | omega | grind))):p:=h
noncomputable instance (s:ByteArray):Decidable (o3 s):=Classical.propDecidable _
instance (w:Int):Decidable (dz w):=by unfold dz; infer_instance
noncomputable instance (n:ab) (c:Cell):Decidable (Shaped n c):=Classical.propDecidable _
theorem dt{p:Prop}[Decidable p](h:p):true = decide p:=(decide_eq_true h).symm
theorem df{p:Prop}[Decidable p](h:¬ p):false = decide p:=(decide_eq_false h).symm
theorem dd{p q:Prop}[Decidable p][Decidable q](h:p ↔ q):decide p = decide q:=by
 by_cases hq:q
 ·rw [decide_eq_true hq,decide_eq_true (h.2 hq)]
 ·rw [decide_eq_false hq,decide_eq_false (fun hp=>hq (h.1 hp))]
theorem db{b:Bool}{q:Prop}[Decidable q](h:b = true ↔ q):b = decide q:=by
 cases b
 ·exact df (fun hq=>by have:=h.2 hq; cases this)
 ·exact dt (h.1 rfl)
open Go Go.AW
def iL(w:Int):Nat:=if w < 0 then 0 else if 64 < w then 64 else w.toNat
theorem nW(w:Int):iL w <= 64:=by unfold iL; (repeat' split) <;> omega
def gK(w:Int)(x:Nat):Nat:=x % 2 ^ iL w
theorem zV:∀ k:Nat,k < 65 -> 18446744073709551615 / 2 ^ (64 - k) = 2 ^ k - 1:=by decide +kernel
theorem oS:∀ k:Nat,k < 65 -> 1 <= 2 ^ k /\ 2 ^ k <= 18446744073709551616:=by decide +kernel
theorem HJ(w:Int):18446744073709551615 / 2 ^ (64 - iL w) = 2 ^ iL w - 1:=zV _ (by have:=nW w; omega)
theorem HK(w:Int):2 ^ iL w - 1 < 18446744073709551616:=by have:=oS (iL w) (by have:=nW w; omega); omega
theorem Ex(w:Int)(x:Nat):x &&& (2 ^ iL w - 1) = gK w x:=Nat.and_two_pow_sub_one_eq_mod x (iL w)
theorem wP(w:Int)(x:Nat):gK w x < 2 ^ iL w:=Nat.mod_lt _ (by have:=oS (iL w) (by have:=nW w; omega); omega)
theorem vW(w:Int)(x:Nat):gK w x < 18446744073709551616:=by have:=wP w x; have:=oS (iL w) (by have:=nW w; omega); omega
def jX(k x:Nat):List Int:=(List.range k).map fun i=>((x / 2 ^ i % 2:Nat):Int)
theorem CG(k x:Nat):(jX k x).length = k:=by simp [jX]
theorem zW(k x:Nat):jX (k + 1) x = jX k x ++ [((x / 2 ^ k % 2:Nat):Int)]:=by
 simp [jX,List.range_succ]
def gp(l:List Int):Nat:=l.foldr (fun b a=>2 * a + b.toNat) 0
theorem zX(l:List Int)(i:Nat)(h:i < l.length):gp (l.drop i) = 2 * gp (l.drop (i + 1)) + (l.getD i 0).toNat:=by
 rw [List.drop_eq_getElem_cons h,List.getD_eq_getElem?_getD,List.getElem?_eq_getElem h]; rfl
theorem xS(l:List Int)(h:∀ b ∈ l,b.toNat <= 1):gp l < 2 ^ l.length:=by
 induction l with
 | nil=>simp [gp]
 | cons b r ih =>
  have h1:=ih (fun x hx=>h x (List.mem_cons_of_mem _ hx)); have h2:=h b (List.mem_cons_self ..)
  show 2 * gp r + b.toNat < 2 ^ (r.length + 1)
  rw [Nat.pow_succ]; omega
theorem CH{l : List Int}{i : Int}{x : Nat}(h1 : ∀ b ∈ l, 0 ≤ b ∧ b ≤ 1)(h2 : l.length ≤ 64)(hi : 0 ≤ i ∧ i < (l.length : Int))(hx : x = gp (l.drop (i + 1).toNat)) :
  ((2 * x % 18446744073709551616) + (l.getD i.toNat 0).toNat) % 18446744073709551616 = gp (l.drop (i - 1 + 1).toNat):=by
 have hs:=zX l i.toNat om
 have hl:=xS (l.drop i.toNat) (fun b hb=>by have:=h1 b (List.mem_of_mem_drop hb); omega)
 have hp:=oS (l.drop i.toNat).length (by rw [List.length_drop]; omega)
 rw [show (i + 1).toNat = i.toNat + 1 by omega] at hx
 rw [show i - 1 + 1 = i by omega,hs,<- hx]
 rw [hs,<- hx] at hl
 omega
theorem bC{l:List Int}{i:Nat}(h:i < l.length):l.getD i 0 ∈ l:=by
 rw [List.getD_eq_getElem?_getD,List.getElem?_eq_getElem h]; exact List.getElem_mem h
theorem Ey(k x:Nat):∀ b ∈ jX k x,0 <= b /\ b <= 1:=by
 intro b hb
 obtain ⟨i,_,rfl⟩:=List.mem_map.1 hb
 omega
theorem zY(k x:Nat):gp (jX k x) = x % 2 ^ k:=by
 induction k generalizing x with
 | zero=>simp [gp,jX,Nat.mod_one]
 | succ k ih =>
  have e:jX (k + 1) x = ((x % 2:Nat):Int) :: jX k (x / 2):=by
   unfold jX
   rw [List.range_succ_eq_map,List.map_cons,List.map_map]
   congr 1
   ·simp
   ·apply List.map_congr_left
    intro i _
    show (((x / 2 ^ (i + 1) % 2:Nat)):Int) = _
    rw [Nat.pow_succ,Nat.mul_comm,<- Nat.div_div_eq_div_mul]
  rw [e]
  show 2 * gp (jX k (x / 2)) + (((x % 2:Nat):Int)).toNat = _
  rw [ih,Int.toNat_natCast,Nat.pow_succ,Nat.mul_comm (2 ^ k) 2,Nat.mod_mul]; omega
def jY(op:Int):Prop:=15 <= op /\ op <= 20
def GX(op:Int):Prop:=2 <= op /\ op <= 20
def Seq(op:Int):Prop:=4 <= op /\ op <= 8
def Unary(op:Int):Prop:=op = 22 \/ op = 23 \/ op = 24
def Plain(op:Int):Prop:=(GX op /\ ¬ Seq op) \/ op = 21 \/ Unary op
def bR(k:Int):Prop:=k = 1 \/ k = 2 \/ k = 3
def In(i n:Int):Prop:=0 <= i /\ i < n
theorem jR{p:Prop}(h:p:=by first | omega | (simp [-List.getD_eq_getElem?_getD]; done) | (simp [-List.getD_eq_getElem?_getD]; omega) | (unfold In at *; omega)):p:=h
instance (w:Int):Decidable (jY w):=by unfold jY; infer_instance
instance (w:Int):Decidable (GX w):=by unfold GX; infer_instance
instance (w:Int):Decidable (Seq w):=by unfold Seq; infer_instance
instance (w:Int):Decidable (Unary w):=by unfold Unary; infer_instance
instance (w:Int):Decidable (Plain w):=by unfold Plain; infer_instance
instance (w:Int):Decidable (bR w):=by unfold bR; infer_instance
instance (i n:Int):Decidable (In i n):=by unfold In; infer_instance
theorem zZ(op:Int):cd op ≠ 0 ↔ Plain op:=by unfold cd Plain GX Seq Unary; (repeat' split) <;> omega
open Go Go.AW
def ab.wd(n:ab)(x:Int):Int:=n.aa.getD x.toNat 0
def ab.ow(n:ab)(c:Cell):Int:=if 0 <= c.out then n.wd c.out else 0
def ab.av(n:ab)(c:Cell)(k:Nat):Int:=n.wd (c.args.getD k 0)
def ek(op a b d w:Int):Prop :=
 (op = 21 /\ a = 1 /\ b = w /\ d = w) \/ ((op = 22 \/ op = 23) /\ a <= w) \/ (op = 24 /\ w <= a) \/ (jY op /\ w = 1 /\ a = b) \/ (¬ jY op /\ (op < 21 \/ 24 < op) /\ a = w /\ b = w)
def kf(n:ab)(c:Cell)(k:Nat):Prop:=(k % 2 = 0 /\ n.av c k = 1) \/ (k % 2 = 1 /\ n.av c k = n.ow c)
def Fits(n:ab)(c:Cell):Prop :=
 (c.kind = 1 /\ gK (n.ow c) c.num = c.num) \/
 (c.kind = 2 /\ ek c.op (n.av c 0) (n.av c 1) (n.av c 2) (n.ow c)) \/
 (c.kind = 3 /\ ∀ k,k < c.args.length -> kf n c k) \/
 (c.kind = 4 /\ n.av c 0 = 1 /\ n.av c 1 = n.ow c /\ gK (n.ow c) c.num = c.num) \/
 (c.kind = 5 /\ n.av c 0 = n.ow c /\ n.av c 1 = n.ow c) \/
 (c.kind = 6 /\ n.av c 0 = 1 /\ (n.aD.getD c.mem.toNat default).width = n.ow c) \/
 (c.kind = 7 /\ n.av c 0 = 1 /\ (n.aD.getD c.mem.toNat default).width = n.av c 2) \/
 (c.kind = 8 /\ n.ins.getD c.num 0 = n.ow c) \/
 (c.kind = 9 /\ n.ow c = 1) \/
 (c.kind = 10 /\ (n.streams.getD c.mem.toNat default).width = n.ow c)
theorem z2{p:Prop}(h:p:=by ((simp only [Fits,ek,jY, *,Int.reduceEq,Bool.not_eq_true,false_and,true_and,and_true,and_false,or_false,false_or,ne_eq]) <;> omega)):p:=h
instance (op a b d w:Int):Decidable (ek op a b d w):=by unfold ek; infer_instance
noncomputable instance (n:ab) (c:Cell):Decidable (Fits n c):=Classical.propDecidable _
structure By(n:ab)(c:Cell):Prop where
 out:c.out = -1 /\ c.kind = 7 \/ (0 <= c.out /\ c.out < n.aa.length) /\ c.kind ≠ 7
 args:∀ x ∈ c.args,0 <= x /\ x < n.aa.length
theorem By.arg{n:ab}{c:Cell}(h:By n c){k:Nat}(hk:k < c.args.length):0 <= c.args.getD k 0 /\ c.args.getD k 0 < n.aa.length:=h.args _ (bC hk)
section
variable {n:ab} {c:Cell} (h:Shaped n c)
include h
theorem Shaped.k2(k:c.kind = 2):((2 <= c.op /\ c.op <= 3 \/ 9 <= c.op /\ c.op <= 20) /\ c.args.length = 2) \/ (c.op = 21 /\ c.args.length = 3) \/ (22 <= c.op /\ c.op <= 24 /\ c.args.length = 1):=by
 simp only [Shaped,k,Int.reduceEq,false_and,true_and,false_or,or_false] at h
 obtain ⟨h1,h2,_⟩:=h
 unfold cd at h1 h2
 split at h2
 ·omega
 ·split at h2
  ·omega
  ·split at h2 <;> omega
theorem Shaped.k3(k:c.kind = 3):2 <= c.args.length /\ c.args.length % 2 = 0:=by simp only [Shaped,k,Int.reduceEq,false_and,true_and,false_or,or_false] at h; omega
theorem Shaped.k4(k:c.kind = 4):c.args.length = 2:=by simp only [Shaped,k,Int.reduceEq,false_and,true_and,false_or,or_false] at h; omega
theorem Shaped.k5(k:c.kind = 5):c.args.length = 2 /\ 4 <= c.op /\ c.op <= 8 /\ 1 <= c.num /\ c.num <= 4096:=by simp only [Shaped,k,Int.reduceEq,false_and,true_and,false_or,or_false] at h; omega
theorem Shaped.k6(k:c.kind = 6):c.args.length = 2 /\ 0 <= c.mem /\ c.mem < n.aD.length:=by simp only [Shaped,k,Int.reduceEq,false_and,true_and,false_or,or_false] at h; omega
theorem Shaped.k7(k:c.kind = 7):c.args.length = 3 /\ 0 <= c.mem /\ c.mem < n.aD.length:=by simp only [Shaped,k,Int.reduceEq,false_and,true_and,false_or,or_false] at h; omega
theorem Shaped.k8(k:c.kind = 8):c.num < n.ins.length:=by simp only [Shaped,k,Int.reduceEq,false_and,true_and,false_or,or_false] at h; omega
theorem Shaped.Ri(k:c.kind = 10):0 <= c.mem /\ c.mem < n.streams.length:=by simp only [Shaped,k,Int.reduceEq,false_and,true_and,false_or,or_false] at h; omega
theorem Shaped.kind:1 <= c.kind /\ c.kind <= 10:=by unfold Shaped at h; omega
end
theorem bx{α:Type}(l:List α)(i j:Nat)(v d:α):(l.set i v).getD j d = if i = j /\ i < l.length then v else l.getD j d:=by
 rw [List.getD_eq_getElem?_getD,List.getD_eq_getElem?_getD,List.getElem?_set]
 by_cases h:i = j
 ·subst h
  by_cases h2:i < l.length
  ·simp [h2]
  ·simp [h2]
 ·simp [h]
theorem vX{α:Type}{l:List α}{i:Nat}{d v:α}{f:Nat -> α}(h:∀ j,j < i -> l.getD j d = f j)(hv:v = f i)(hi:i < l.length):∀ j,j < i + 1 -> (l.set i v).getD j d = f j:=by
 intro j hj
 rw [bx]
 split
 ·next e=>rw [<- e.1]; exact hv
 ·exact h j om
theorem Ez{n:ab}{c:Cell}{i:Nat}(h:∀ k,k < i -> kf n c k)(hi:kf n c i):∀ k,k < i + 1 -> kf n c k:=by
 intro k hk
 rcases Nat.lt_succ_iff_lt_or_eq.1 hk with h1 | h1
 ·exact h k h1
 ·exact h1 ▸ hi
open Go Go.AW
section
variable {α:Type} {d:α} {p:α -> Bool} {l:List α}
def wQ(p:α -> Bool)(l:List α):Int:=if l.any p then (l.findIdx p:Int) else -1
theorem qN{i:Nat}(h0:∀ j,j < i -> p (l.getD j d) = false)(hi:i < l.length)(h:p (l.getD i d) = true):(i:Int) = wQ p l:=by
 have e:l.findIdx p = i:=by
  rw [List.findIdx_eq hi]
  rw [List.getD_eq_getElem?_getD,List.getElem?_eq_getElem hi] at h
  refine ⟨h,fun j hj=>?_⟩
  have:=h0 j hj
  rw [List.getD_eq_getElem?_getD,List.getElem?_eq_getElem om] at this
  exact this
 have ha:l.any p = true:=by
  rw [List.any_eq_true]
  refine ⟨l.getD i d,?_,h⟩
  rw [List.getD_eq_getElem?_getD,List.getElem?_eq_getElem hi]; exact List.getElem_mem hi
 unfold wQ; rw [if_pos ha,e]
theorem s8(h0:∀ j,j < l.length -> p (l.getD j d) = false):-1 = wQ p l:=by
 have ha:¬ (l.any p = true):=by
  rw [List.any_eq_true]
  rintro ⟨x,hx,hp⟩
  obtain ⟨i,hi,rfl⟩:=List.mem_iff_getElem.1 hx
  have:=h0 i hi
  rw [List.getD_eq_getElem?_getD,List.getElem?_eq_getElem hi] at this
  exact absurd (hp.symm.trans this) ae
 unfold wQ; rw [if_neg ha]
theorem u7:decide (0 <= wQ p l) = l.any p:=by
 unfold wQ
 by_cases h:l.any p = true
 ·rw [if_pos h,h]; simp
 ·rw [if_neg h]; simp only [Bool.not_eq_true] at h; rw [h]; rfl
theorem oT{i:Nat}(h:∀ j,j < i -> p (l.getD j d) = false)(hi:p (l.getD i d) = false):∀ j,j < i + 1 -> p (l.getD j d) = false:=by
 intro k hk
 rcases Nat.lt_succ_iff_lt_or_eq.1 hk with h1 | h1
 ·exact h k h1
 ·exact h1 ▸ hi
theorem iw{i:Nat}(h:i < l.length):l.getD i d ∈ l:=by
 rw [List.getD_eq_getElem?_getD,List.getElem?_eq_getElem h]; exact List.getElem_mem h
theorem vY{ls:List (List α)}{i:Nat}(hi:i < ls.length):(ls.take (i + 1)).flatten = (ls.take i).flatten ++ ls.getD i []:=by
 rw [List.take_add_one,List.flatten_append,List.getD_eq_getElem?_getD,List.getElem?_eq_getElem hi]; simp
theorem rD(ls:List (List α))(i:Nat):(ls.take i).flatten.length <= ls.flatten.length:=by
 conv=>rhs; rw [<- List.take_append_drop i ls,List.flatten_append,List.length_append]
 omega
end
open Go Go.AW
def nv(m:eA):Prop:=o3 m.name /\ dz m.width /\ 1 <= m.len /\ m.len <= 4096 /\ m.kind = 0 /\ m.u6 = 0
def mG(n:ab)(i:Nat):Prop :=
 o3 (n.streams.getD i default).name /\ dz (n.streams.getD i default).width /\ In (n.bB.getD i 0) n.aa.length /\
 ((n.streams.getD i default).out = true -> In (n.data.getD i 0) n.aa.length) /\ ((n.streams.getD i default).out = false -> n.data.getD i 0 = -1)
def jG(n:ab)(c:Cell):Prop:=(∀ x ∈ c.args,In x n.aa.length) /\ Shaped n c /\ (c.kind = 7 -> c.out = -1) /\ (c.kind ≠ 7 -> In c.out n.aa.length)
def du(l:List Cell)(w:Nat):Nat:=l.countP (fun c=>decide (c.kind ≠ 7 /\ c.out = (w:Int)))
structure bh(n:ab):Prop where
 name:o3 n.name
 eK:n.cells.length <= 65536
 ew:n.aa.length <= 65536
 ln:n.aD.length <= 64
 dh:n.streams.length <= 64
 fi:n.bB.length = n.streams.length
 kI:n.data.length = n.streams.length
 wide:∀ j,j < (n.aa ++ n.ins).length -> dz ((n.aa ++ n.ins).getD j 0)
 aD:∀ j,j < n.aD.length -> nv (n.aD.getD j default)
 strs:∀ j,j < n.streams.length -> mG n j
 freeze:In n.freeze n.aa.length
 done:In n.done n.aa.length
 cM:∀ r ∈ n.cM,In r n.aa.length
 cells:∀ j,j < n.cells.length -> jG n (n.cells.getD j default)
 kZ:∀ w,w < n.aa.length -> du n.cells w = 1
noncomputable instance (n:ab):Decidable (bh n):=Classical.propDecidable _
theorem gW{p:Nat -> Prop}{i:Nat}(h:∀ j,j < i -> p j)(hi:p i):∀ j,j < i + 1 -> p j:=by
 intro k hk
 rcases Nat.lt_succ_iff_lt_or_eq.1 hk with h1 | h1
 ·exact h k h1
 ·exact h1 ▸ hi
theorem gq{l:List Cell}{i:Nat}(hi:i < l.length)(w:Nat):du (l.take (i + 1)) w = du (l.take i) w + if (l.getD i default).kind ≠ 7 /\ (l.getD i default).out = (w:Int) then 1 else 0:=by
 rw [List.take_add_one,List.getElem?_eq_getElem hi,List.getD_eq_getElem?_getD,List.getElem?_eq_getElem hi]
 simp only [du,List.countP_append,Option.toList_some,List.countP_cons,List.countP_nil,Option.getD_some,Nat.zero_add,decide_eq_true_eq]
theorem s9(l:List Cell)(i w:Nat):du (l.take i) w <= du l w:=by
 conv=>rhs; rw [<- List.take_append_drop i l]
 simp only [du,List.countP_append]; omega
def xw(n:ab)(i:Nat)(d:List Bool):Prop:=∀ w,w < n.aa.length -> du (n.cells.take i) w <= 1 /\ (d.getD w false = true ↔ du (n.cells.take i) w = 1)
theorem xw.init(n:ab):xw n 0 (List.replicate n.aa.length false):=by
 intro w hw
 refine ⟨by simp [du],?_⟩
 rw [List.getD_eq_getElem?_getD,List.getElem?_replicate,if_pos hw]; simp [du]
theorem xw.skip{n:ab}{i:Nat}{d:List Bool}(h:xw n i d)(hi:i < n.cells.length)(h7:(n.cells.getD i default).kind = 7):xw n (i + 1) d:=by
 intro w hw
 rw [gq hi,if_neg (fun h=>h.1 h7)]
 exact h w hw
theorem xw.step{n : ab}{i : Nat}{d : List Bool}(h : xw n i d)(hi : i < n.cells.length)(h7 : (n.cells.getD i default).kind ≠ 7)(ho : In (n.cells.getD i default).out n.aa.length)
  (hl:d.length = n.aa.length) (hn:d.getD (n.cells.getD i default).out.toNat false = false):xw n (i + 1) (d.set (n.cells.getD i default).out.toNat true):=by
 intro w hw
 have hh:=h w hw
 rw [gq hi,bx]
 unfold In at ho
 by_cases e:(n.cells.getD i default).out = (w:Int)
 ·rw [if_pos ⟨h7,e⟩,if_pos ⟨om,om⟩]
  have e2:(n.cells.getD i default).out.toNat = w:=by omega
  rw [e2] at hn
  have h0:du (n.cells.take i) w ≠ 1:=fun h1=>by have:=hh.2.2 h1; rw [hn] at this; cases this
  have hh1:=hh.1
  exact ⟨om,by simp; omega⟩
 ·rw [if_neg (fun h=>e h.2),if_neg om]
  exact hh
theorem xw.dup{n : ab}{i : Nat}{d : List Bool}(h : xw n i d)(hi : i < n.cells.length)(h7 : (n.cells.getD i default).kind ≠ 7)(ho : In (n.cells.getD i default).out n.aa.length)
  (hn:d.getD (n.cells.getD i default).out.toNat false = true) (hf:bh n):False:=by
 unfold In at ho
 have hh:=h (n.cells.getD i default).out.toNat om
 have h1:=hh.2.1 hn
 have h2:=gq hi (n.cells.getD i default).out.toNat
 rw [if_pos ⟨h7,om⟩,h1] at h2
 have h3:=s9 n.cells (i + 1) (n.cells.getD i default).out.toNat
 have h4:=hf.kZ (n.cells.getD i default).out.toNat om
 omega
theorem xw.all{n:ab}{d:List Bool}(h:xw n n.cells.length d)(hl:d.length = n.aa.length):(!(d.any (fun x=>false == x))) = true ↔ ∀ w,w < n.aa.length -> du n.cells w = 1:=by
 unfold xw at h
 rw [List.take_length] at h
 rw [Bool.not_eq_true',List.any_eq_false]
 constructor
 ·intro ha w hw
  refine (h w hw).2.1 ?_
  have:=ha (d.getD w false) (iw om)
  cases hd:d.getD w false
  ·rw [hd] at this; exact absurd rfl this
  ·rfl
 ·intro ha x hx
  obtain ⟨w,hw,rfl⟩:=List.mem_iff_getElem.1 hx
  have:=(h w om).2.2 (ha w om)
  rw [List.getD_eq_getElem?_getD,List.getElem?_eq_getElem hw] at this
  have t:d[w] = true:=this
  rw [t]; decide
theorem p9{l:List Int}{p:Int -> Prop}[DecidablePred p]:(l.any (fun z=>!decide (p z))) = true ↔ ¬ ∀ z ∈ l,p z:=by
 rw [List.any_eq_true]
 constructor
 ·rintro ⟨x,hx,hp⟩ h
  simp [h x hx] at hp
 ·intro h
  refine Classical.byContradiction fun hh=>h fun z hz=>Classical.byContradiction fun hp=>hh ⟨z,hz,by simp [hp]⟩
theorem mU{l:List Int}{p:Int -> Prop}[DecidablePred p](h:(l.any (fun z=>!decide (p z))) = false):∀ z ∈ l,p z:=by
 refine Classical.byContradiction fun hh=>?_
 rw [p9.2 hh] at h; cases h
open Go Go.AW
def oU(n:ab)(i:Nat):Prop:=n.wd (n.bB.getD i 0) = 1 /\ ((n.streams.getD i default).out = true -> n.wd (n.data.getD i 0) = (n.streams.getD i default).width)
structure Fit(n:ab):Prop where
 freeze:n.wd n.freeze = 1
 done:n.wd n.done = 1
 strs:∀ j,j < n.streams.length -> oU n j
 cells:∀ j,j < n.cells.length -> Fits n (n.cells.getD j default)
noncomputable instance (n:ab):Decidable (Fit n):=Classical.propDecidable _
theorem jG.NY{n:ab}{c:Cell}(h:jG n c):By n c:=by
 obtain ⟨h1,h2,h3,h4⟩:=h
 refine ⟨?_,h1⟩
 by_cases h7:c.kind = 7
 ·exact .inl ⟨h3 h7,h7⟩
 ·exact .inr ⟨h4 h7,h7⟩
theorem bh.cell{n:ab}(h:bh n){c:Cell}(hc:c ∈ n.cells):jG n c:=by
 obtain ⟨i,hi,rfl⟩:=List.mem_iff_getElem.1 hc
 have:=h.cells i hi
 rw [List.getD_eq_getElem?_getD,List.getElem?_eq_getElem hi] at this
 exact this
theorem E5{α:Type}{l:List α}{p:α -> Prop}[DecidablePred p]:(l.any (fun z=>!decide (p z))) = true ↔ ¬ ∀ z ∈ l,p z:=by
 rw [List.any_eq_true]
 constructor
 ·rintro ⟨x,hx,hp⟩ h
  simp [h x hx] at hp
 ·intro h
  refine Classical.byContradiction fun hh=>h fun z hz=>Classical.byContradiction fun hp=>hh ⟨z,hz,by simp [hp]⟩
theorem xT{α:Type}{l:List α}{p:α -> Prop}{d:α}:(∀ j,j < l.length -> p (l.getD j d)) ↔ ∀ z ∈ l,p z:=by
 constructor
 ·intro h z hz
  obtain ⟨i,hi,rfl⟩:=List.mem_iff_getElem.1 hz
  have:=h i hi
  rw [List.getD_eq_getElem?_getD,List.getElem?_eq_getElem hi] at this
  exact this
 ·exact fun h j hj=>h _ (iw hj)
theorem xU{n:ab}(h1:n.wd n.freeze = 1)(h2:n.wd n.done = 1)(h3:∀ j,j < n.streams.length -> oU n j):(!(n.cells.any (fun z=>!decide (Fits n z)))) = true ↔ Fit n:=by
 rw [Bool.not_eq_true',<- Bool.not_eq_true,E5,Classical.not_not,<- xT (d:=default)]
 exact ⟨fun h=>⟨h1,h2,h3,h⟩,fun h=>h.cells⟩
open Go Go.AW
theorem length_le_of_subset{α : Type}[DecidableEq α] : ∀ {l m : List α}, l.Nodup → (∀ x ∈ l, x ∈ m) → l.length ≤ m.length
 | [],_,_,_=>Nat.zero_le _
 | a :: t,m,hn,hs=>by
  have ha:=hs a (List.mem_cons_self ..)
  obtain ⟨h1,h2⟩:=List.nodup_cons.1 hn
  have:=length_le_of_subset (l:=t) (m:=m.erase a) h2 (fun x hx=>(List.mem_erase_of_ne (by rintro rfl; exact h1 hx)).2 (hs x (List.mem_cons_of_mem _ hx)))
  have hm:0 < m.length:=List.length_pos_of_mem ha
  rw [List.length_erase_of_mem ha] at this
  simp only [List.length_cons]; omega
def ab.cell(n:ab)(i:Int):Cell:=n.cells.getD i.toNat default
def bH(n:ab)(i w:Int):Prop:=(0 <= i /\ i < n.cells.length) /\ (n.cell i).kind ≠ 7 /\ (n.cell i).out = w
def bD(n:ab)(i:Int):Prop:=(0 <= i /\ i < n.cells.length) /\ bR (n.cell i).kind
def Bz(n:ab)(w:Int):Prop:=∃ j,bD n j /\ (n.cell j).out = w
noncomputable instance (n:ab):DecidablePred (Bz n):=fun _=>Classical.propDecidable _
noncomputable instance (n:ab) (i:Int):Decidable (bD n i):=Classical.propDecidable _
theorem bD.la{n:ab}{i:Int}(h:bD n i):bH n i (n.cell i).out:=⟨h.1,fun h7=>by have:=h.2; rw [h7] at this; revert this; unfold bR; omega,rfl⟩
theorem oV(n:ab)(i:Nat):n.cell (i:Int) = n.cells.getD i default:=rfl
theorem xV{l:List Cell}{i j w:Nat}(h:i <= j):du (l.take i) w <= du (l.take j) w:=by
 have:=s9 (l.take j) i w
 rwa [List.take_take,Nat.min_eq_left h] at this
section
variable {n:ab} (hf:bh n)
include hf
theorem bh.cellAt{i:Int}(h:0 <= i /\ i < n.cells.length):jG n (n.cell i):=hf.cells i.toNat om
theorem bh.fS{i w:Int}(h:bH n i w):In w n.aa.length:=h.2.2 ▸ (hf.cellAt h.1).2.2.2 h.2.1
theorem bh.kJ{i x:Int}(h:0 <= i /\ i < n.cells.length)(hx:x ∈ (n.cell i).args):In x n.aa.length:=(hf.cellAt h).1 x hx
theorem bh.unique{i j w:Int}(h1:bH n i w)(h2:bH n j w):i = j:=by
 have key:∀ {i j:Int},bH n i w -> bH n j w -> i < j -> False:=by
  intro i j h1 h2 gQ
  have hw:=hf.fS h1
  unfold In at hw
  obtain ⟨a1,a2,a3⟩:=h1
  obtain ⟨b1,b2,b3⟩:=h2
  have e1:=gq (l:=n.cells) (i:=i.toNat) om w.toNat
  have e2:=gq (l:=n.cells) (i:=j.toNat) om w.toNat
  rw [if_pos ⟨a2,by show (n.cell i).out = _; omega⟩] at e1
  rw [if_pos ⟨b2,by show (n.cell j).out = _; omega⟩] at e2
  have e3:=xV (l:=n.cells) (i:=i.toNat + 1) (j:=j.toNat) (w:=w.toNat) om
  have e4:=s9 n.cells (j.toNat + 1) w.toNat
  have e5:=hf.kZ w.toNat om
  omega
 rcases Int.lt_trichotomy i j with h | h | h
 ·exact (key h1 h2 h).elim
 ·exact h
 ·exact (key h2 h1 h).elim
theorem bh.kg{w:Int}(hw:In w n.aa.length):∃ i,bH n i w:=by
 unfold In at hw
 have h:=hf.kZ w.toNat om
 have hp:0 < du n.cells w.toNat:=by omega
 unfold du at hp
 obtain ⟨c,hc,hp⟩:=List.countP_pos_iff.1 hp
 obtain ⟨i,hi,rfl⟩:=List.mem_iff_getElem.1 hc
 simp only [decide_eq_true_eq] at hp
 have e:n.cell (i:Int) = n.cells[i]:=by rw [oV,List.getD_eq_getElem?_getD,List.getElem?_eq_getElem hi]; rfl
 refine ⟨(i:Int),⟨om,om⟩,?_⟩
 rw [e]; exact ⟨hp.1,om⟩
end
def fW(n:ab)(k:Nat)(l:List Bool):Prop:=∀ w:Int,In w n.aa.length -> (l.getD w.toNat false = true ↔ ∃ j,bD n j /\ j < k /\ (n.cell j).out = w)
theorem fW.init(n:ab):fW n 0 (List.replicate n.aa.length false):=by
 intro w hw
 unfold In at hw
 rw [List.getD_eq_getElem?_getD,List.getElem?_replicate,if_pos om]
 exact ⟨fun h=>(by cases h),fun ⟨j,h1,h2,_⟩=>(by have:=h1.1; omega)⟩
theorem fW.skip{n:ab}{k:Nat}{l:List Bool}(h:fW n k l)(hc:¬ bR (n.cells.getD k default).kind):fW n (k + 1) l:=by
 intro w hw
 rw [h w hw]
 constructor
 ·rintro ⟨j,h1,h2,h3⟩; exact ⟨j,h1,om,h3⟩
 ·rintro ⟨j,h1,h2,h3⟩
  refine ⟨j,h1,?_,h3⟩
  rcases Int.lt_or_eq_of_le (show j <= k by omega) with h' | h'
  ·exact h'
  ·subst h'; exact absurd h1.2 hc
theorem fW.step{n : ab}{k : Nat}{l : List Bool}(h : fW n k l)(hk : k < n.cells.length)(hl : l.length = n.aa.length)(hc : bR (n.cells.getD k default).kind)(ho : In (n.cells.getD k default).out n.aa.length) :
  fW n (k + 1) (l.set (n.cells.getD k default).out.toNat true):=by
 intro w hw
 unfold In at ho
 have rq:=hw
 unfold In at rq
 rw [bx]
 by_cases e:(n.cells.getD k default).out = w
 ·rw [if_pos ⟨om,om⟩]
  exact ⟨fun _=>⟨(k:Int),⟨⟨om,om⟩,hc⟩,om,e⟩,fun _=>rfl⟩
 ·rw [if_neg om,h w hw]
  constructor
  ·rintro ⟨j,h1,h2,h3⟩; exact ⟨j,h1,om,h3⟩
  ·rintro ⟨j,h1,h2,h3⟩
   refine ⟨j,h1,?_,h3⟩
   rcases Int.lt_or_eq_of_le (show j <= k by omega) with h' | h'
   ·exact h'
   ·subst h'; exact absurd h3 e
theorem fW.all{n:ab}{l:List Bool}(h:fW n n.cells.length l){w:Int}(hw:In w n.aa.length):l.getD w.toNat false = true ↔ Bz n w:=by
 rw [h w hw]
 exact ⟨fun ⟨j,h1,_,h3⟩=>⟨j,h1,h3⟩,fun ⟨j,h1,h3⟩=>⟨j,h1,by have:=h1.1; omega,h3⟩⟩
def j6(n:ab)(k:Nat):List Int:=((List.range k).filter (fun i=>!decide (bR (n.cells.getD i default).kind))).map (fun (i:Nat)=>(i:Int))
theorem vZ(n:ab)(k:Nat):j6 n (k + 1) = j6 n k ++ if bR (n.cells.getD k default).kind then [] else [(k:Int)]:=by
 unfold j6
 rw [List.range_succ,List.filter_append,List.map_append]
 congr 1
 by_cases h:bR (n.cells.getD k default).kind
 ·rw [if_pos h]; simp [-List.getD_eq_getElem?_getD,h]
 ·rw [if_neg h]; simp [-List.getD_eq_getElem?_getD,h]
theorem kK{n:ab}{k:Nat}{x:Int}:x ∈ j6 n k ↔ (0 <= x /\ x < k) /\ ¬ bR (n.cell x).kind:=by
 unfold j6
 rw [List.mem_map]
 constructor
 ·rintro ⟨i,h,rfl⟩
  rw [List.mem_filter,List.mem_range] at h
  exact ⟨⟨om,om⟩,by rw [oV]; simpa [-List.getD_eq_getElem?_getD] using h.2⟩
 ·rintro ⟨h1,h2⟩
  refine ⟨x.toNat,?_,om⟩
  rw [List.mem_filter,List.mem_range]
  have h3:¬ bR (n.cells.getD x.toNat default).kind:=h2
  exact ⟨om,by simpa [-List.getD_eq_getElem?_getD] using h3⟩
theorem u9(n:ab)(k:Nat):(j6 n k).Nodup:=by
 unfold j6
 rw [List.Nodup,List.pairwise_map]
 refine List.Pairwise.imp (fun {a b} h=>?_) (List.Pairwise.filter _ List.nodup_range)
 omega
theorem E6(n:ab)(k:Nat):(j6 n k).length <= k:=by
 unfold j6
 rw [List.length_map]
 exact Nat.le_trans (List.length_filter_le ..) (by simp)
def Open(n:ab)(done:List Int)(x:Int):Prop:=Bz n x /\ ∀ j ∈ done,(n.cell j).out ≠ x
noncomputable instance (n:ab) (done:List Int):DecidablePred (Open n done):=fun _=>Classical.propDecidable _
noncomputable def dB(n:ab)(done:List Int)(i:Int):Nat:=(n.cell i).args.countP (fun x=>decide (Open n done x))
theorem E7(n:ab)(i:Int):dB n [] i = (n.cell i).args.countP (fun x=>decide (Bz n x)):=by
 unfold dB
 apply List.countP_congr
 intro x _
 simp [Open]
theorem pA{n:ab}{done:List Int}{i:Int}:dB n done i = 0 ↔ ∀ x ∈ (n.cell i).args,Bz n x -> ∃ j ∈ done,(n.cell j).out = x:=by
 unfold dB
 rw [List.countP_eq_zero]
 constructor
 ·intro h x hx hc
  refine Classical.byContradiction fun hh=>h x hx (decide_eq_true ?_)
  exact ⟨hc,fun j hj e=>hh ⟨j,hj,e⟩⟩
 ·intro h x hx hh
  have hh:=of_decide_eq_true hh
  obtain ⟨j,hj,e⟩:=h x hx hh.1
  exact hh.2 j hj e
theorem CJ{n:ab}(hf:bh n){done:List Int}{i0:Int}(h0:bD n i0)(hd:∀ j ∈ done,bD n j)(hn:i0 ∉ done)(i:Int):dB n done i = dB n (done ++ [i0]) i + (n.cell i).args.count (n.cell i0).out:=by
 unfold dB
 generalize (n.cell i).args = l
 induction l with
 | nil=>rfl
 | cons x r ih =>
  rw [List.countP_cons,List.countP_cons,List.count_cons,ih]
  simp only [decide_eq_true_eq,beq_iff_eq]
  by_cases e:x = (n.cell i0).out
  ·have h1:Open n done x:=by
    refine ⟨⟨i0,h0,e.symm⟩,fun j hj e'=>hn ?_⟩
    have:=hf.unique (hd j hj).la (by rw [e',e]; exact h0.la)
    exact this ▸ hj
   have h2:¬ Open n (done ++ [i0]) x:=fun h=>h.2 i0 (by simp) e.symm
   rw [if_pos h1,if_neg h2,if_pos e]; omega
  ·have h1:Open n done x ↔ Open n (done ++ [i0]) x:=by
    constructor
    ·rintro ⟨a,b⟩
     refine ⟨a,fun j hj=>?_⟩
     rcases List.mem_append.1 hj with h | h
     ·exact b j h
     ·rw [List.mem_singleton.1 h]; exact fun h=>e h.symm
    ·rintro ⟨a,b⟩
     exact ⟨a,fun j hj=>b j (List.mem_append.2 (.inl hj))⟩
   rw [if_neg e]
   by_cases hh:Open n done x
   ·rw [if_pos hh,if_pos (h1.1 hh)]; omega
   ·rw [if_neg hh,if_neg (fun h=>hh (h1.2 h))]; omega
open Go Go.AW
theorem kh{α:Type}{l:List α}{q:Nat}{d:α}(h:q < l.length):l.take (q + 1) = l.take q ++ [l.getD q d]:=by
 rw [List.take_add_one,List.getElem?_eq_getElem h,List.getD_eq_getElem?_getD,List.getElem?_eq_getElem h]; rfl
def GW(n:ab)(k:Nat):Nat:=((n.cells.take k).map (fun c=>c.args.length)).sum
theorem uA{n:ab}{k:Nat}(h:k < n.cells.length):GW n (k + 1) = GW n k + (n.cells.getD k default).args.length:=by
 unfold GW
 rw [kh (d:=default) h,List.map_append,List.sum_append]; simp
theorem E8{n:ab}(hs:n.Small)(k:Nat):GW n k <= 8796093022208:=by
 refine Nat.le_trans ?_ hs.GW
 conv=>rhs; rw [<- List.take_append_drop k n.cells,List.map_append,List.sum_append]
 exact Nat.le_add_right ..
structure BI(n:ab)(k:Nat)(rem:List Int)(fb:List (List Int))(ready:List Int):Prop where
 nw:∀ i,bD n i -> i < k -> rem.getD i.toNat 0 = (dB n [] i:Int)
 zero:∀ i:Int,(k:Int) <= i -> i < n.cells.length -> rem.getD i.toNat 0 = 0
 Jz:∀ w x,In w n.aa.length -> x ∈ fb.getD w.toNat [] -> bD n x /\ x < k
 NZ:∀ w x,In w n.aa.length -> Bz n w -> bD n x -> x < k -> (fb.getD w.toNat []).count x = (n.cell x).args.count w
 nd:ready.Nodup
 rd:∀ x,x ∈ ready ↔ bD n x /\ x < k /\ dB n [] x = 0
 ul:∀ w,In w n.aa.length -> (fb.getD w.toNat []).length <= GW n k
 rl:ready.length <= k
theorem BI.init(n:ab):BI n 0 (List.replicate n.cells.length 0) (List.replicate n.aa.length []) [] where
 nw:=fun i h h0=>by have:=h.1; omega
 zero:=fun i h1 h2=>by rw [List.getD_eq_getElem?_getD,List.getElem?_replicate]; split <;> rfl
 Jz:=fun w x hw hx=>by
  rw [List.getD_eq_getElem?_getD,List.getElem?_replicate] at hx
  split at hx <;> cases hx
 NZ:=fun w x hw _ h h0=>by have:=h.1; omega
 nd:=List.nodup_nil
 rd:=fun x=>⟨fun h=>(by cases h),fun ⟨h,h0,_⟩=>by have:=h.1; omega⟩
 ul:=fun w hw=>by rw [List.getD_eq_getElem?_getD,List.getElem?_replicate]; split <;> exact Nat.zero_le _
 rl:=Nat.le_refl _
theorem nX{n:ab}{k:Nat}{x:Int}(hc:¬ bR (n.cells.getD k default).kind)(h:bD n x)(hx:x < ((k + 1:Nat):Int)):x < k:=by
 rcases Int.lt_or_eq_of_le (show x <= k by omega) with h' | h'
 ·exact h'
 ·subst h'; exact absurd h.2 hc
theorem BI.skip{n:ab}{k:Nat}{rem:List Int}{fb:List (List Int)}{ready:List Int}(h:BI n k rem fb ready)(hk:k < n.cells.length)(hc:¬ bR (n.cells.getD k default).kind):BI n (k + 1) rem fb ready where
 nw:=fun i hi h0=>h.nw i hi (nX hc hi h0)
 zero:=fun i h1 h2=>h.zero i om h2
 Jz:=fun w x hw hx=>⟨(h.Jz w x hw hx).1,by have:=(h.Jz w x hw hx).2; omega⟩
 NZ:=fun w x hw hC hx h0=>h.NZ w x hw hC hx (nX hc hx h0)
 nd:=h.nd
 rd:=fun x=>by
  rw [h.rd x]
  exact ⟨fun ⟨a,b,c⟩=>⟨a,om,c⟩,fun ⟨a,b,c⟩=>⟨a,nX hc a b,c⟩⟩
 ul:=fun w hw=>by have:=h.ul w hw; rw [uA hk]; omega
 rl:=by have:=h.rl; omega
structure BJ(n:ab)(k q:Nat)(rem:List Int)(fb:List (List Int))(lQ:List Int)(gX:List (List Int)):Prop where
 KC:∀ i:Int,0 <= i -> i ≠ k -> lQ.getD i.toNat 0 = rem.getD i.toNat 0
 own:lQ.getD k 0 = ((((n.cells.getD k default).args.take q).countP (fun x=>decide (Bz n x)):Nat):Int)
 us:∀ w,In w n.aa.length -> gX.getD w.toNat [] = fb.getD w.toNat [] ++ List.replicate (if Bz n w then ((n.cells.getD k default).args.take q).count w else 0) (k:Int)
theorem BJ.init{n:ab}{k:Nat}{rem:List Int}{fb:List (List Int)}{ready:List Int}(h:BI n k rem fb ready)(hk:k < n.cells.length):BJ n k 0 rem fb rem fb where
 KC:=fun _ _ _=>rfl
 own:=h.zero k (Int.le_refl _) om
 us:=fun w _=>by simp
section
variable {n:ab} {k q:Nat} {rem lQ:List Int} {fb gX:List (List Int)}
theorem BJ.skip(h:BJ n k q rem fb lQ gX)(hq:q < (n.cells.getD k default).args.length)(hx:¬ Bz n ((n.cells.getD k default).args.getD q 0)):BJ n k (q + 1) rem fb lQ gX where
 KC:=h.KC
 own:=by rw [h.own,kh (d:=0) hq,List.countP_append,List.countP_cons,decide_eq_false hx]; simp
 us:=fun w hw=>by
  rw [h.us w hw]
  by_cases hC:Bz n w
  ·rw [if_pos hC,if_pos hC,kh (d:=0) hq,List.count_append,List.count_cons]
   have:((n.cells.getD k default).args.getD q 0 == w) = false:=by
    rw [beq_eq_false_iff_ne]; rintro rfl; exact hx hC
   rw [this]; simp
  ·rw [if_neg hC,if_neg hC]
theorem BJ.step(h : BJ n k q rem fb lQ gX)(hk : k < n.cells.length)(hl : lQ.length = n.cells.length)(hlu : gX.length = n.aa.length)(hq : q < (n.cells.getD k default).args.length)
  (hi:In ((n.cells.getD k default).args.getD q 0) n.aa.length) (hx:Bz n ((n.cells.getD k default).args.getD q 0)) :
  BJ n k (q + 1) rem fb (lQ.set k (lQ.getD k 0 + 1)) (gX.set ((n.cells.getD k default).args.getD q 0).toNat (gX.getD ((n.cells.getD k default).args.getD q 0).toNat [] ++ [(k:Int)])) where
 KC:=fun i h0 h1=>by rw [bx,if_neg om]; exact h.KC i h0 h1
 own:=by
  rw [bx,if_pos ⟨rfl,om⟩,h.own,kh (d:=0) hq,List.countP_append,List.countP_cons,decide_eq_true hx]; simp
 us:=fun w hw=>by
  unfold In at hi
  have rq:=hw
  unfold In at rq
  rw [bx,kh (d:=0) hq,List.count_append,List.count_cons]
  by_cases e:(n.cells.getD k default).args.getD q 0 = w
  ·rw [e] at hx hi ⊢
   rw [if_pos ⟨rfl,om⟩,h.us w hw,if_pos hx,if_pos hx,List.append_assoc]
   congr 1
   rw [beq_self_eq_true,if_pos rfl]
   show _ = List.replicate (_ + 1) _
   rw [List.replicate_succ']
  ·have:((n.cells.getD k default).args.getD q 0 == w) = false:=by rw [beq_eq_false_iff_ne]; exact e
   rw [if_neg om,h.us w hw,this]; simp
theorem BJ.KD(h:BJ n k q rem fb lQ gX):0 <= lQ.getD k 0 /\ lQ.getD k 0 <= (q:Int):=by
 rw [h.own]
 have:=Nat.le_trans (List.countP_le_length (p:=fun x=>decide (Bz n x)) (l:=(n.cells.getD k default).args.take q)) (List.length_take_le ..)
 omega
variable {ready:List Int}
theorem BJ.len(hb:BI n k rem fb ready)(h:BJ n k q rem fb lQ gX){w:Int}(hw:In w n.aa.length):(gX.getD w.toNat []).length <= GW n k + q:=by
 rw [h.us w hw,List.length_append,List.length_replicate]
 have:=hb.ul w hw
 have h2:((n.cells.getD k default).args.take q).count w <= q:=Nat.le_trans List.count_le_length (by rw [List.length_take]; omega)
 split <;> omega
theorem BJ.fin(hb : BI n k rem fb ready)(hk : k < n.cells.length)(hc : bR (n.cells.getD k default).kind)(h : BJ n k (n.cells.getD k default).args.length rem fb lQ gX) :
  (lQ.getD k 0 = 0 -> BI n (k + 1) lQ gX (ready ++ [(k:Int)])) /\ (lQ.getD k 0 ≠ 0 -> BI n (k + 1) lQ gX ready):=by
 have hn:lQ.getD k 0 = (dB n [] (k:Int):Int):=by rw [h.own,List.take_length,E7]; rfl
 have DC:bD n (k:Int):=⟨⟨om,om⟩,hc⟩
 have nw:∀ i,bD n i -> i < ((k + 1:Nat):Int) -> lQ.getD i.toNat 0 = (dB n [] i:Int):=by
  intro i hi h0
  by_cases e:i = k
  ·subst e; exact hn
  ·rw [h.KC i hi.1.1 e]; exact hb.nw i hi om
 have hzero:∀ i:Int,(((k + 1:Nat)):Int) <= i -> i < n.cells.length -> lQ.getD i.toNat 0 = 0:=by
  intro i h1 h2
  rw [h.KC i om om]; exact hb.zero i om h2
 have Oa:∀ w x,In w n.aa.length -> x ∈ gX.getD w.toNat [] -> bD n x /\ x < ((k + 1:Nat):Int):=by
  intro w x hw hx
  rw [h.us w hw] at hx
  rcases List.mem_append.1 hx with hx | hx
  ·exact ⟨(hb.Jz w x hw hx).1,by have:=(hb.Jz w x hw hx).2; omega⟩
  ·rw [List.eq_of_mem_replicate hx]; exact ⟨DC,om⟩
 have Ob:∀ w x,In w n.aa.length -> Bz n w -> bD n x -> x < ((k + 1:Nat):Int) -> (gX.getD w.toNat []).count x = (n.cell x).args.count w:=by
  intro w x hw hC hx h0
  rw [h.us w hw,if_pos hC,List.take_length,List.count_append]
  by_cases e:x = k
  ·subst e
   have h0:(fb.getD w.toNat []).count (k:Int) = 0:=List.count_eq_zero.2 (fun hm=>by have:=(hb.Jz w _ hw hm).2; omega)
   rw [h0,List.count_replicate_self,Nat.zero_add]; rfl
  ·rw [hb.NZ w x hw hC hx om,List.count_replicate,if_neg (by simpa using fun h=>e h.symm)]; rfl
 have WB:∀ w,In w n.aa.length -> (gX.getD w.toNat []).length <= GW n (k + 1):=fun w hw=>by rw [uA hk]; exact BJ.len hb h hw
 have Kv:=hb.rl
 constructor
 ·intro h0
  refine ⟨nw,hzero,Oa,Ob,?_,fun x=>?_,WB,by rw [List.length_append]; exact Nat.succ_le_succ Kv⟩
  ·rw [List.nodup_append]
   refine ⟨hb.nd,by simp,fun a ha b iG=>?_⟩
   rw [List.mem_singleton.1 iG]
   have:=((hb.rd a).1 ha).2.1; omega
  ·rw [List.mem_append,hb.rd x,List.mem_singleton]
   constructor
   ·rintro (⟨a,b,c⟩ | rfl)
    ·exact ⟨a,om,c⟩
    ·exact ⟨DC,om,om⟩
   ·rintro ⟨a,b,c⟩
    by_cases e:x = k
    ·exact .inr e
    ·exact .inl ⟨a,om,c⟩
 ·intro h0
  refine ⟨nw,hzero,Oa,Ob,hb.nd,fun x=>?_,WB,om⟩
  rw [hb.rd x]
  constructor
  ·rintro ⟨a,b,c⟩; exact ⟨a,om,c⟩
  ·rintro ⟨a,b,c⟩
   refine ⟨a,?_,c⟩
   by_cases e:x = k
   ·subst e; omega
   ·omega
end
structure KI(n:ab)(done ready rem:List Int):Prop where
 nd:(done ++ ready).Nodup
 cm:∀ x ∈ done ++ ready,bD n x
 nw:∀ i,bD n i -> rem.getD i.toNat 0 = (dB n done i:Int)
 full:∀ i,bD n i -> (i ∈ done ++ ready ↔ dB n done i = 0)
 oC:∀ p i s,done = p ++ i :: s -> dB n p i = 0
structure US(n:ab)(fb:List (List Int)):Prop where
 mem:∀ w x,In w n.aa.length -> x ∈ fb.getD w.toNat [] -> bD n x
 Oc:∀ w x,In w n.aa.length -> Bz n w -> bD n x -> (fb.getD w.toNat []).count x = (n.cell x).args.count w
theorem BI.us{n:ab}{rem:List Int}{fb:List (List Int)}{ready:List Int}(h:BI n n.cells.length rem fb ready):US n fb :=
 ⟨fun w x hw hx=>(h.Jz w x hw hx).1,fun w x hw hC hx=>h.NZ w x hw hC hx (by have:=hx.1; omega)⟩
theorem BI.ki{n:ab}{rem:List Int}{fb:List (List Int)}{ready:List Int}(h:BI n n.cells.length rem fb ready):KI n [] ready rem where
 nd:=h.nd
 cm:=fun x hx=>((h.rd x).1 hx).1
 nw:=fun i hi=>h.nw i hi (by have:=hi.1; omega)
 full:=fun i hi=>by
  show i ∈ ready ↔ _
  rw [h.rd i]
  exact ⟨fun h=>h.2.2,fun h=>⟨hi,by have:=hi.1; omega,h⟩⟩
 oC:=fun p i s h=>by simp at h
structure KJ(n:ab)(done:List Int)(i0:Int)(u:List Int)(q:Nat)(ready rem:List Int):Prop where
 nd:(done ++ [i0] ++ ready).Nodup
 cm:∀ x ∈ done ++ [i0] ++ ready,bD n x
 nw:∀ i,bD n i -> rem.getD i.toNat 0 = (dB n done i:Int) - ((u.take q).count i:Int)
 full:∀ i,bD n i -> (i ∈ done ++ [i0] ++ ready ↔ dB n done i <= (u.take q).count i)
theorem KJ.init{n:ab}{done ready rem u:List Int}(h:KI n done ready rem)(h0:0 < ready.length):KJ n done (ready.getD 0 0) u 0 (ready.drop 1) rem:=by
 have e:done ++ [ready.getD 0 0] ++ ready.drop 1 = done ++ ready:=by
  cases ready with
  | nil=>simp at h0
  | cons a r=>simp
 refine ⟨by rw [e]; exact h.nd,by rw [e]; exact h.cm,fun i hi=>by rw [h.nw i hi]; simp,fun i hi=>by rw [e,h.full i hi]; simp⟩
section
variable {n:ab} (hf:bh n) {done ready rem u E9 lQ:List Int} {i0:Int} {q:Nat}
include hf
theorem KJ.count(h:KJ n done i0 u q ready rem)(hu:∀ x,bD n x -> u.count x = (n.cell x).args.count (n.cell i0).out){x:Int}(hx:bD n x):dB n done x = dB n (done ++ [i0]) x + u.count x:=by
 have jB:=(List.nodup_append.1 h.nd).1
 have Rj:i0 ∉ done:=fun hm=>(List.nodup_append.1 jB).2.2 i0 hm i0 (by simp) rfl
 rw [hu x hx]
 exact CJ hf (h.cm i0 (by simp)) (fun j hj=>h.cm j (by simp [hj])) Rj x
theorem KJ.step(h : KJ n done i0 u q ready rem)(hl : rem.length = n.cells.length)(hq : q < u.length)(hu : ∀ x, bD n x → u.count x = (n.cell x).args.count (n.cell i0).out)(hm : ∀ x ∈ u, bD n x) :
  (rem.getD (u.getD q 0).toNat 0 - 1 = 0 -> KJ n done i0 u (q + 1) (ready ++ [u.getD q 0]) (rem.set (u.getD q 0).toNat (rem.getD (u.getD q 0).toNat 0 - 1))) /\
  (rem.getD (u.getD q 0).toNat 0 - 1 ≠ 0 -> KJ n done i0 u (q + 1) ready (rem.set (u.getD q 0).toNat (rem.getD (u.getD q 0).toNat 0 - 1))):=by
 have hk:bD n (u.getD q 0):=hm _ (bC hq)
 have SC:=hk.1
 have ht:=kh (d:=0) hq
 have Od:∀ i,(u.take (q + 1)).count i = (u.take q).count i + if u.getD q 0 = i then 1 else 0:=by
  intro i
  rw [ht,List.count_append,List.count_cons]; simp
 have hle:(u.take (q + 1)).count (u.getD q 0) <= u.count (u.getD q 0):=by
  have e:=congrArg (List.count (u.getD q 0)) (List.take_append_drop (q + 1) u)
  rw [List.count_append] at e; omega
 have hc:=KJ.count hf h hu hk
 have Yt:=Od (u.getD q 0)
 rw [if_pos rfl] at Yt
 have WC:=h.nw _ hk
 have nw:∀ i,bD n i -> (rem.set (u.getD q 0).toNat (rem.getD (u.getD q 0).toNat 0 - 1)).getD i.toNat 0 = (dB n done i:Int) - ((u.take (q + 1)).count i:Int):=by
  intro i hi
  have Yu:=hi.1
  rw [bx,Od i]
  by_cases e:u.getD q 0 = i
  ·rw [if_pos ⟨om,om⟩,if_pos e,WC,e]; omega
  ·rw [if_neg om,if_neg e,h.nw i hi]; omega
 have sy:u.getD q 0 ∉ done ++ [i0] ++ ready:=fun nK=>by
  have:=(h.full _ hk).1 nK; omega
 constructor
 ·intro h0
  refine ⟨?_,?_,nw,fun i hi=>?_⟩
  ·rw [<- List.append_assoc,List.nodup_append]
   refine ⟨h.nd,by simp,fun a ha b hb e=>sy ?_⟩
   rw [<- List.mem_singleton.1 hb,<- e]; exact ha
  ·intro x hx
   rw [<- List.append_assoc] at hx
   rcases List.mem_append.1 hx with hx | hx
   ·exact h.cm x hx
   ·rw [List.mem_singleton.1 hx]; exact hk
  ·rw [<- List.append_assoc,List.mem_append,h.full i hi,List.mem_singleton,Od i]
   by_cases e:u.getD q 0 = i
   ·rw [if_pos e]
    subst e
    exact ⟨fun _=>by omega,fun _=>.inr rfl⟩
   ·rw [if_neg e]
    exact ⟨fun h=>by rcases h with h | h; omega; exact absurd h.symm e,fun h=>.inl om⟩
 ·intro h0
  refine ⟨h.nd,h.cm,nw,fun i hi=>?_⟩
  rw [h.full i hi,Od i]
  by_cases e:u.getD q 0 = i
  ·rw [if_pos e]
   subst e
   omega
  ·rw [if_neg e]; rfl
theorem KJ.bound(hs : n.Small)(h : KJ n done i0 u q ready rem)(hq : q < u.length)(hu : ∀ x, bD n x → u.count x = (n.cell x).args.count (n.cell i0).out)(hm : ∀ x ∈ u, bD n x) :
  1 <= rem.getD (u.getD q 0).toNat 0 /\ rem.getD (u.getD q 0).toNat 0 <= 17592186043904 /\ ready.length < n.cells.length:=by
 have hk:bD n (u.getD q 0):=hm _ (bC hq)
 have ht:=kh (d:=0) hq
 have Od:(u.take (q + 1)).count (u.getD q 0) = (u.take q).count (u.getD q 0) + 1:=by
  rw [ht,List.count_append,List.count_cons]; simp
 have e:=congrArg (List.count (u.getD q 0)) (List.take_append_drop (q + 1) u)
 rw [List.count_append] at e
 have hc:=KJ.count hf h hu hk
 have WC:=h.nw _ hk
 have hn:dB n done (u.getD q 0) <= (n.cell (u.getD q 0)).args.length:=List.countP_le_length
 have ha:(n.cell (u.getD q 0)).args.length <= 17592186043904:=hs.args _ (iw (by have:=hk.1; omega))
 refine ⟨om,om,?_⟩
 have:=length_le_of_subset (m:=(List.range n.cells.length).map (fun (i:Nat)=>(i:Int))) h.nd (fun x hx=>by
  have:=(h.cm x hx).1
  exact List.mem_map.2 ⟨x.toNat,List.mem_range.2 om,om⟩)
 rw [List.length_append,List.length_append,List.length_map,List.length_range] at this
 simp only [List.length_cons,List.length_nil] at this
 omega
theorem KJ.fin(hk:KI n done E9 lQ)(h0:i0 ∈ E9)(h:KJ n done i0 u u.length ready rem)(hu:∀ x,bD n x -> u.count x = (n.cell x).args.count (n.cell i0).out):KI n (done ++ [i0]) ready rem:=by
 have hc:∀ {x},bD n x -> dB n done x = dB n (done ++ [i0]) x + u.count x:=fun hx=>KJ.count hf h hu hx
 refine ⟨h.nd,h.cm,fun i hi=>?_,fun i hi=>?_,fun p i s e=>?_⟩
 ·rw [h.nw i hi,List.take_length,hc hi]; omega
 ·rw [h.full i hi,List.take_length,hc hi]; omega
 ·rcases List.eq_nil_or_concat s with rfl | ⟨s',x,rfl⟩
  ·have e2:=List.append_inj' (t₁:=[i0]) (t₂:=[i]) e rfl
   obtain ⟨rfl,e3⟩:=e2
   cases e3
   have rp:bD n i0:=hk.cm i0 (List.mem_append.2 (.inr h0))
   exact (hk.full i0 rp).1 (List.mem_append.2 (.inr h0))
  ·have e2:=List.append_inj' (s₁:=done) (s₂:=p ++ i :: s') (t₁:=[i0]) (t₂:=[x]) (by rw [e]; simp) rfl
   exact hk.oC p i s' e2.1
end
def Acyclic(n:ab):Prop:=∃ r:Int -> Nat,∀ i j,bD n i -> bD n j -> (n.cell j).out ∈ (n.cell i).args -> r j < r i
noncomputable instance (n:ab):Decidable (Acyclic n):=Classical.propDecidable _
structure Ord(n:ab)(l:List Int):Prop where
 len:l.length = n.cells.length
 nd:l.Nodup
 rE:∀ x ∈ l,0 <= x /\ x < n.cells.length
 oC:∀ p i s,l = p ++ i :: s -> bR (n.cell i).kind -> ∀ x ∈ (n.cell i).args,∃ j ∈ p,bH n j x
theorem KI.all{n:ab}{done ready rem:List Int}(h:KI n done ready rem):(j6 n n.cells.length ++ done ++ ready).Nodup /\ ∀ x ∈ j6 n n.cells.length ++ done ++ ready,0 <= x /\ x < n.cells.length:=by
 rw [List.append_assoc]
 refine ⟨?_,fun x hx=>?_⟩
 ·rw [List.nodup_append]
  refine ⟨u9 _ _,h.nd,fun a ha b hb e=>?_⟩
  subst e
  exact (kK.1 ha).2 (h.cm a hb).2
 ·rcases List.mem_append.1 hx with h' | h'
  ·have:=(kK.1 h').1; omega
  ·exact (h.cm x h').1
theorem KI.len{n:ab}{done ready rem:List Int}(h:KI n done ready rem):(j6 n n.cells.length ++ done).length + ready.length <= n.cells.length:=by
 obtain ⟨h1,h2⟩:=h.all
 have:=length_le_of_subset (m:=(List.range n.cells.length).map (fun (i:Nat)=>(i:Int))) h1 (fun x hx=>by
  have:=h2 x hx
  exact List.mem_map.2 ⟨x.toNat,List.mem_range.2 om,om⟩)
 rw [List.length_append,List.length_map,List.length_range] at this
 exact this
theorem KI.mem{n : ab}{done rem : List Int}(h : KI n done [] rem){r : Int → Nat}(hr : ∀ i j, bD n i → bD n j → (n.cell j).out ∈ (n.cell i).args → r j < r i) : ∀ (m : Nat) (i : Int), bD n i → r i < m → i ∈ done
 | 0,_,_,hm=>by omega
 | m + 1,i,hi,hm=>by
  have hz:dB n done i = 0:=by
   rw [pA]
   rintro x hx ⟨j,hj,rfl⟩
   exact ⟨j,KI.mem h hr m j hj (by have:=hr i j hi hj hx; omega),rfl⟩
  have:=(h.full i hi).2 hz
  simpa using this
theorem CK(M:Nat):((List.range M).map (fun (i:Nat)=>(i:Int))).Nodup:=by
 rw [List.Nodup,List.pairwise_map]
 exact List.Pairwise.imp (fun {a b} h=>by omega) List.nodup_range
theorem KI.J0{n:ab}{done rem:List Int}(h:KI n done [] rem)(hl:(j6 n n.cells.length ++ done).length < n.cells.length):¬ Acyclic n:=by
 rintro ⟨r,hr⟩
 have:=length_le_of_subset (m:=j6 n n.cells.length ++ done) (CK n.cells.length) (fun x hx=>by
  obtain ⟨i,hi,rfl⟩:=List.mem_map.1 hx
  rw [List.mem_range] at hi
  by_cases hc:bR (n.cell (i:Int)).kind
  ·exact List.mem_append.2 (.inr (KI.mem h hr _ (i:Int) ⟨⟨om,om⟩,hc⟩ (Nat.lt_succ_self _)))
  ·exact List.mem_append.2 (.inl (kK.2 ⟨⟨om,om⟩,hc⟩)))
 rw [List.length_map,List.length_range] at this
 omega
theorem rF{l p s:List Int}{i j:Int}(hn:l.Nodup)(e:l = p ++ i :: s)(hj:j ∈ p):l.idxOf j < l.idxOf i:=by
 subst e
 have hi:i ∉ p:=fun h=>(List.nodup_append.1 hn).2.2 i h i (by simp) rfl
 rw [List.idxOf_append,if_pos hj,List.idxOf_append,if_neg hi]
 have:=List.idxOf_lt_length_of_mem hj
 omega
theorem KI.ok{n:ab}(hf:bh n){done rem:List Int}(h:KI n done [] rem)(hl:¬ (j6 n n.cells.length ++ done).length < n.cells.length):Acyclic n /\ Ord n (j6 n n.cells.length ++ done):=by
 obtain ⟨h1,h2⟩:=h.all
 rw [List.append_nil] at h1 h2
 have hle:=h.len
 simp only [List.length_nil,Nat.add_zero] at hle
 have Oe:∀ i:Int,(0 <= i /\ i < n.cells.length) -> i ∈ j6 n n.cells.length ++ done:=by
  intro i hi
  refine Classical.byContradiction fun hn=>?_
  have:=length_le_of_subset (l:=i :: (j6 n n.cells.length ++ done)) (m:=(List.range n.cells.length).map (fun (i:Nat)=>(i:Int))) (List.nodup_cons.2 ⟨hn,h1⟩) (fun x hx=>by
   have j8:0 <= x /\ x < n.cells.length:=by
    rcases List.mem_cons.1 hx with rfl | hx
    ·exact hi
    ·exact h2 x hx
   exact List.mem_map.2 ⟨x.toNat,List.mem_range.2 om,om⟩)
  rw [List.length_cons,List.length_map,List.length_range] at this
  omega
 have Km:∀ i,bD n i -> i ∈ done:=by
  intro i hi
  rcases List.mem_append.1 (Oe i hi.1) with h' | h'
  ·exact absurd hi.2 (kK.1 h').2
  ·exact h'
 have Rl:done.Nodup:=(List.nodup_append.1 h1).2.1
 refine ⟨⟨fun i=>done.idxOf i,fun i j hi hj hx=>?_⟩,om,h1,h2,fun p i s e hc x hx=>?_⟩
 ·obtain ⟨p,s,e⟩:=List.append_of_mem (Km i hi)
  obtain ⟨j',r8,e'⟩:=pA.1 (h.oC p i s e) _ hx ⟨j,hj,rfl⟩
  have KE:bD n j':=h.cm j' (by rw [e]; simp [r8])
  have:=hf.unique KE.la (e' ▸ hj.la)
  subst this
  exact rF Rl e r8
 ·have hi:bD n i:=⟨h2 i (by rw [e]; simp),hc⟩
  obtain ⟨j,hj⟩:=hf.kg (hf.kJ hi.1 hx)
  by_cases KF:bR (n.cell j).kind
  ·-- the kg is combinational
   obtain ⟨p',s',e'⟩:=List.append_of_mem (Km i hi)
   obtain ⟨j',r8,e2⟩:=pA.1 (h.oC p' i s' e') x hx ⟨j,⟨hj.1,KF⟩,hj.2.2⟩
   have KE:bD n j':=h.cm j' (by rw [e']; simp [r8])
   have e3:p ++ i :: s = (j6 n n.cells.length ++ p') ++ i :: s':=by rw [<- e,e',List.append_assoc]
   have hp:p = j6 n n.cells.length ++ p':=by
    have My:i ∉ p:=by
     rw [e] at h1
     exact fun h=>(List.nodup_append.1 h1).2.2 i h i (by simp) rfl
    have mw:i ∉ j6 n n.cells.length ++ p':=by
     rw [e,e3] at h1
     exact fun h=>(List.nodup_append.1 h1).2.2 i h i (by simp) rfl
    have:=congrArg (fun l=>l.idxOf i) e3
    simp only [List.idxOf_append,if_neg My,if_neg mw,List.idxOf_cons_self,Nat.add_zero] at this
    exact (List.append_inj e3 om).1
   exact ⟨j',by rw [hp]; exact List.mem_append.2 (.inr r8),e2 ▸ KE.la⟩
  ·-- it comes first
   refine ⟨j,?_,hj⟩
   have Mt:j ∈ j6 n n.cells.length:=kK.2 ⟨hj.1,KF⟩
   have QR:i ∉ j6 n n.cells.length:=fun h=>(kK.1 h).2 hc
   have:j6 n n.cells.length ++ done = p ++ i :: s:=e
   rcases List.append_eq_append_iff.1 this with ⟨a,ha,hb⟩ | ⟨a,ha,hb⟩
   ·rw [ha]; exact List.mem_append.2 (.inl Mt)
   ·cases a with
    | nil=>rw [List.append_nil] at ha; rw [<- ha]; exact Mt
    | cons b t =>
     rw [List.cons_append] at hb
     cases hb
     exact absurd (by rw [ha]; simp) QR
def lR(n:ab)(l:List Int)(e:Int):Prop :=
 (¬ bh n /\ l = [] /\ e = 3) \/ (bh n /\ ¬ Fit n /\ l = [] /\ e = 13) \/ (bh n /\ Fit n /\ ¬ Acyclic n /\ l = [] /\ e = 12) \/ (bh n /\ Fit n /\ Acyclic n /\ Ord n l /\ e = 0)
theorem cea{p:Prop}(h:p:=by ((try unfold Plain at *); (try unfold Unary at *); (try unfold GX at *); (try unfold Seq at *); (try unfold In at *); first | (intro h; simp only [Shaped] at h; rcases h with h | h | h | h | h | h | h | h | h | h <;> omega) | (subst_vars; simp only [Shaped,Int.reduceEq,Bool.not_eq_true,false_and,true_and,and_true,and_false,or_false,false_or,ne_eq]; first | omega | grind | (unfold cd; grind)))):p:=h
theorem cle{p:Prop}(h:p:=by ((try unfold Plain at *); (try unfold Unary at *); (try unfold GX at *); (try unfold Seq at *); (try unfold In at *); (subst_vars; simp only [Shaped,Int.reduceEq,Bool.not_eq_true,false_and,true_and,and_true,and_false,or_false,false_or,ne_eq]; first | omega | grind | (unfold cd; grind)))):p:=h
noncomputable def mH(n:ab):Int:=if bh n then if Fit n then if Acyclic n then 0 else 12 else 13 else 3
theorem lR.err{n:ab}{l:List Int}{e:Int}(h:lR n l e):e = mH n:=by
 unfold mH
 rcases h with ⟨h1,_,h⟩ | ⟨h1,h2,_,h⟩ | ⟨h1,h2,h3,_,h⟩ | ⟨h1,h2,h3,_,h⟩
 ·rw [if_neg h1,h]
 ·rw [if_pos h1,if_neg h2,h]
 ·rw [if_pos h1,if_pos h2,if_neg h3,h]
 ·rw [if_pos h1,if_pos h2,if_pos h3,h]
open Go Go.AW
structure U2 where
 a:Nat
 b:Nat
instance:Inhabited U2:=⟨⟨0,0⟩⟩
def U2.row(x:U2):List X:=[.v (.int .u8 (x.a:Int)),.v (.int .u8 (x.b:Int))]
theorem U2.bA(c:U2):X.bu c.row = true:=rfl
structure sn where
 kind:Nat
 op:Nat
 width:Nat
 a:Nat
 b:Nat
 d:Nat
 num:Nat
instance:Inhabited sn:=⟨⟨0,0,0,0,0,0,0⟩⟩
def sn.row(x:sn):List X:=[.v (.int .u8 (x.kind:Int)),.v (.int .u8 (x.op:Int)),.v (.int .u8 (x.width:Int)),.v (.int .u8 (x.a:Int)),.v (.int .u8 (x.b:Int)),.v (.int .u8 (x.d:Int)),.v (.int .u64 (x.num:Int))]
theorem sn.bA(c:sn):X.bu c.row = true:=rfl
structure nL where
 aD:List U2
 streams:List U2
 ins:List Nat
 parts:List sn
 cM:List Nat
def nL.row(n:nL):List X:=[.fz 2 (n.aD.map U2.row),.fz 2 (n.streams.map U2.row),.fz 1 (n.ins.map u5),.fz 7 (n.parts.map sn.row),.fz 1 (n.cM.map u5)]
def ab.rG(n : ab) : List X := [.v (.string n.name), .fz 1 (n.aa.map ah), .fz 6 (n.cells.map Cell.row), .fz 1 (n.ins.map ah), .fz 5 (n.aD.map eA.row), .fz 3 (n.streams.map bE.row),
 .v (.slice none 0 0),.v (.slice none 0 0),.v (.int .i64 n.freeze),.v (.int .i64 n.done),.v (.slice none 0 0)]
def Cell.iK(c:Cell):List X:=[.v (.int .i64 c.kind),.v (.int .i64 c.op),.v (.int .i64 c.out),.dH 1 (c.args.map ah),.v (.int .u64 (c.num:Int)),.v (.int .i64 c.mem)]
def ab.iK(n : ab) : List X := [.v (.string n.name), .dH 1 (n.aa.map ah), .dH 6 (n.cells.map Cell.row), .fz 1 (n.ins.map ah), .fz 5 (n.aD.map eA.row), .fz 3 (n.streams.map bE.row),
 .fz 1 (n.bB.map ah),.fz 1 (n.data.map ah),.v (.int .i64 n.freeze),.v (.int .i64 n.done),.fz 1 (n.cM.map ah)]
def az(k:Nat):Int:=([1,2,4,7,8,13,33,64]:List Int).getD (k % 8) 0
def opsL:List Int:=[2,3,9,10,11,12,13,14,15,16,17,18,19,20,21,22,23,24]
theorem dN(k:Nat):dz (az k):=by
 have h:∀ j,j < 8 -> dz (([1,2,4,7,8,13,33,64]:List Int).getD j 0):=by decide
 exact h _ (Nat.mod_lt _ ae)
def ju(ws:List Int)(w:Int)(i:Nat):List Int:=((List.range i).filter (fun j=>decide (ws.getD j 0 = w))).map (fun (j:Nat)=>(j:Int))
theorem pB{ws:List Int}{w:Int}{i:Nat}(h:ws.getD i 0 = w):ju ws w (i + 1) = ju ws w i ++ [(i:Int)]:=by
 simp only [ju,List.range_succ,List.filter_append,List.map_append,List.filter_cons,h,decide_true,if_true,List.filter_nil,List.map_cons,List.map_nil]
theorem rH{ws:List Int}{w:Int}{i:Nat}(h:ws.getD i 0 ≠ w):ju ws w (i + 1) = ju ws w i:=by
 simp only [ju,List.range_succ,List.filter_append,List.filter_cons,h,decide_false,List.filter_nil,List.append_nil,Bool.false_eq_true,if_false]
theorem we(ws:List Int)(w:Int)(i:Nat):(ju ws w i).length <= i:=by
 have:=List.length_filter_le (fun j=>decide (ws.getD j 0 = w)) (List.range i)
 simp only [ju,List.length_map]; rw [List.length_range] at this; exact this
def aB(ws:List Int)(w:Int)(k:Nat):Int:=if (ju ws w ws.length).length = 0 then -1 else (ju ws w ws.length).getD (k % (ju ws w ws.length).length) 0
def EA(ws:List Int)(w:Int):Prop:=∃ j,j < ws.length /\ ws.getD j 0 = w
theorem di{ws:List Int}{w:Int}(h:EA ws w)(k:Nat):In (aB ws w k) ws.length /\ ws.getD (aB ws w k).toNat 0 = w:=by
 obtain ⟨j,hj,hw⟩:=h
 have h0:(j:Int) ∈ ju ws w ws.length:=List.mem_map.2 ⟨j,List.mem_filter.2 ⟨List.mem_range.2 hj,decide_eq_true hw⟩,rfl⟩
 have hp:=List.length_pos_of_mem h0
 unfold aB
 rw [if_neg om]
 have hm:=bC (l:=ju ws w ws.length) (i:=k % (ju ws w ws.length).length) (Nat.mod_lt _ hp)
 obtain ⟨i,hi,he⟩:=List.mem_map.1 hm
 obtain ⟨h1,h2⟩:=List.mem_filter.1 hi
 rw [<- he]
 have:=List.mem_range.1 h1
 exact ⟨⟨om,om⟩,by simpa using h2⟩
def ti(ws:List Int)(cs:List Cell)(p:sn)(i:Nat):List Cell :=
 if (cs.getD ((((cs.length:Int) - 1) - (i:Int)).toNat) default).kind = 4 then
  cs.set ((((cs.length : Int) - 1) - (i : Int)).toNat) ⟨(cs.getD ((((cs.length : Int) - 1) - (i : Int)).toNat) default).kind, (cs.getD ((((cs.length : Int) - 1) - (i : Int)).toNat) default).op, (cs.getD ((((cs.length : Int) - 1) - (i : Int)).toNat) default).out,
   [aB ws 1 p.a,aB ws (ws.getD (cs.getD ((((cs.length:Int) - 1) - (i:Int)).toNat) default).out.toNat 0) p.d],(cs.getD ((((cs.length:Int) - 1) - (i:Int)).toNat) default).num,(cs.getD ((((cs.length:Int) - 1) - (i:Int)).toNat) default).mem⟩
 else cs
structure sn.Ok(p:sn):Prop where
 kind:p.kind < 256
 op:p.op < 256
 width:p.width < 256
 a:p.a < 256
 b:p.b < 256
 d:p.d < 256
 num:p.num < 18446744073709551616
open Go Go.AW
structure Ground(n:ab):Prop where
 has:∀ k,EA n.aa (az k)
 wide:∀ w ∈ n.aa,dz w
 aD:∀ m ∈ n.aD,∃ k,m.width = az k
 strs:∀ s ∈ n.streams,∃ k,s.width = az k
 ins:∀ w ∈ n.ins,∃ k,w = az k
def wh(n:ab)(c:Cell)(w:Int):Prop :=
 (c.kind = 1 /\ gK w c.num = c.num) \/
 (c.kind = 2 /\ ek c.op (n.av c 0) (n.av c 1) (n.av c 2) w) \/
 (c.kind = 3 /\ ∀ k,k < c.args.length -> (k % 2 = 0 /\ n.av c k = 1) \/ (k % 2 = 1 /\ n.av c k = w)) \/
 (c.kind = 4 /\ n.av c 0 = 1 /\ n.av c 1 = w /\ gK w c.num = c.num) \/
 (c.kind = 5 /\ n.av c 0 = w /\ n.av c 1 = w) \/
 (c.kind = 6 /\ n.av c 0 = 1 /\ (n.aD.getD c.mem.toNat default).width = w) \/
 (c.kind = 7 /\ n.av c 0 = 1 /\ (n.aD.getD c.mem.toNat default).width = n.av c 2) \/
 (c.kind = 8 /\ n.ins.getD c.num 0 = w) \/
 (c.kind = 9 /\ w = 1) \/
 (c.kind = 10 /\ (n.streams.getD c.mem.toNat default).width = w)
structure Aa(n:ab)(c:Cell)(w:Int):Prop where
 out:c.kind = 7 -> c.out = -1
 args:∀ x ∈ c.args,In x n.aa.length
 shaped:Shaped n c
 fits:wh n c w
 wide:dz w
 num:c.num < 18446744073709551616
 len:c.args.length <= 4
def lS(n:ab)(c:Cell)(w:Int):Prop:=c.kind = 0 \/ Aa n c w
theorem xW(w:Int)(x:Nat):gK w (gK w x) = gK w x:=Nat.mod_mod _ _
theorem uB:dz 1:=by decide
theorem EB(i:Nat):(2 <= opsL.getD (i % opsL.length) 0 /\ opsL.getD (i % opsL.length) 0 <= 3) \/ (9 <= opsL.getD (i % opsL.length) 0 /\ opsL.getD (i % opsL.length) 0 <= 24):=by
 have h:∀ j,j < 18 -> (2 <= opsL.getD j 0 /\ opsL.getD j 0 <= 3) \/ (9 <= opsL.getD j 0 /\ opsL.getD j 0 <= 24):=by decide
 exact h _ (Nat.mod_lt _ ae)
theorem getD_in{α:Type}{d:α}{l:List α}{i:Nat}(h:i < l.length):l.getD i d ∈ l:=by
 rw [List.getD_eq_getElem?_getD,List.getElem?_eq_getElem h]; exact List.getElem_mem h
section
variable {n:ab} (hg:Ground n)
include hg
theorem Ground.one:EA n.aa 1:=hg.has 0
theorem Ground.mem{i:Nat}(h:i < n.aD.length):EA n.aa (n.aD.getD i default).width /\ dz (n.aD.getD i default).width:=by
 obtain ⟨k,hk⟩:=hg.aD _ (getD_in h)
 rw [hk]; exact ⟨hg.has k,dN k⟩
theorem Ground.str{i:Nat}(h:i < n.streams.length):EA n.aa (n.streams.getD i default).width /\ dz (n.streams.getD i default).width:=by
 obtain ⟨k,hk⟩:=hg.strs _ (getD_in h)
 rw [hk]; exact ⟨hg.has k,dN k⟩
theorem Ground.Yv{i:Nat}(h:i < n.ins.length):dz (n.ins.getD i 0):=by
 obtain ⟨k,hk⟩:=hg.ins _ (getD_in h)
 rw [hk]; exact dN k
theorem wR{x:Nat}(h:0 < n.aa.length):In ((x:Int) % (n.aa.length:Int)) n.aa.length:=by
 have h1:=Int.emod_nonneg (x:Int) (b:=(n.aa.length:Int)) om
 have h2:=Int.emod_lt_of_pos (x:Int) (b:=(n.aa.length:Int)) om
 exact ⟨h1,h2⟩
theorem KG{op:Int}{j a b d:Nat}(h:op = 21):lS n ⟨2,op,0,[aB n.aa 1 a,aB n.aa (az j) b,aB n.aa (az j) d],0,0⟩ (az j):=by
 have h1:=di hg.one a; have h2:=di (hg.has j) b; have h3:=di (hg.has j) d
 subst h
 refine .inr ⟨fun h=>by simp at h,?_,.inr (.inl ⟨rfl,(by show cd 21 ≠ 0; decide),rfl,rfl,rfl⟩),.inr (.inl ⟨rfl,.inl ⟨rfl,h1.2,h2.2,h3.2⟩⟩),dN j,by simp,by simp⟩
 intro x hx
 simp only [List.mem_cons,List.not_mem_nil,or_false] at hx
 rcases hx with rfl | rfl | rfl
 ·exact h1.1
 ·exact h2.1
 ·exact h3.1
theorem Og{op w : Int}{j a : Nat}(h0 : 0 < n.aa.length)(hu : Unary op)(hw : (op = 24 ∧ w = if n.aa.getD (a % n.aa.length) 0 < az j then n.aa.getD (a % n.aa.length) 0 else az j) ∨ (¬ op = 24 ∧ w = if n.aa.getD (a % n.aa.length) 0 > az j then n.aa.getD (a % n.aa.length) 0 else az j)) :
  lS n ⟨2,op,0,[(a:Int) % (n.aa.length:Int)],0,0⟩ w:=by
 have h1:=wR (x:=a) hg h0
 have hv:n.wd ((a:Int) % (n.aa.length:Int)) = n.aa.getD (a % n.aa.length) 0:=by
  unfold ab.wd; congr 1
 have h2:=hg.wide _ (getD_in (d:=(0:Int)) (Nat.mod_lt a h0))
 have h3:=dN j
 have Cy:=hu
 unfold Unary at hu
 generalize n.aa.getD (a % n.aa.length) 0 = v at *
 generalize az j = W at *
 have v3:dz w:=by
  unfold dz at *
  rcases hw with ⟨_,h⟩ | ⟨_,h⟩ <;> (split at h <;> omega)
 refine .inr ⟨fun h=>by simp at h,?_,.inr (.inl ⟨rfl,?_,?_,rfl,rfl⟩),.inr (.inl ⟨rfl,?_⟩),v3,by simp,by simp⟩
 ·intro x hx
  simp only [List.mem_cons,List.not_mem_nil,or_false] at hx
  subst hx; exact h1
 ·rcases hu with h | h | h <;> (simp only [h]; decide)
 ·rcases hu with h | h | h <;> (simp only [h]; rfl)
 ·unfold ek
  simp only [ab.av,List.getD_cons_zero,hv]
  rcases hw with ⟨h,hw⟩ | ⟨h,hw⟩
  ·right; right; left
   refine ⟨h,?_⟩
   split at hw <;> omega
  ·right; left
   refine ⟨om,?_⟩
   split at hw <;> omega
theorem EC{op w : Int}{j a b : Nat}(KH : (2 ≤ op ∧ op ≤ 3) ∨ (9 ≤ op ∧ op ≤ 24))(KL : ¬ op = 21)(hu : ¬ Unary op)(hw : (jY op ∧ w = 1) ∨ (¬ jY op ∧ w = az j)) :
  lS n ⟨2,op,0,[aB n.aa (az j) a,aB n.aa (az j) b],0,0⟩ w:=by
 have h1:=di (hg.has j) a; have h2:=di (hg.has j) b
 unfold Unary at hu
 have h3:=dN j
 have v3:dz w:=by
  rcases hw with ⟨_,rfl⟩ | ⟨_,rfl⟩
  ·exact uB
  ·exact h3
 have WD:cd op = 2:=by unfold cd; rw [if_pos om]
 refine .inr ⟨fun h=>by simp at h,?_,.inr (.inl ⟨rfl,by simp only [WD]; decide,by simp only [WD]; rfl,rfl,rfl⟩),.inr (.inl ⟨rfl,?_⟩),v3,by simp,by simp⟩
 ·intro x hx
  simp only [List.mem_cons,List.not_mem_nil,or_false] at hx
  rcases hx with rfl | rfl
  ·exact h1.1
  ·exact h2.1
 ·have e1:n.wd (aB n.aa (az j) a) = az j:=h1.2
  have e2:n.wd (aB n.aa (az j) b) = az j:=h2.2
  rcases hw with ⟨hc,rfl⟩ | ⟨hc,rfl⟩
  ·exact .inr (.inr (.inr (.inl ⟨hc,rfl,e1.trans e2.symm⟩)))
  ·exact .inr (.inr (.inr (.inr ⟨hc,by show op < 21 \/ 24 < op; omega,e1,e2⟩)))
theorem tV{o m:Int}{q:Int}{l:List Int}{nm:Nat}{w:Int}:lS n ⟨0,o,m,l,nm,q⟩ w:=.inl rfl
theorem ED{k:Int}{j x:Nat}(hk:k = 1):lS n ⟨k,0,-1,[],gK (az j) x,0⟩ (az j):=by
 subst hk
 exact .inr ⟨fun _=>rfl,fun x hx=>(by cases hx),.inl ⟨rfl,rfl,rfl,rfl⟩,.inl ⟨rfl,xW _ _⟩,dN j,vW _ _,by simp⟩
theorem KM{k:Int}{j a b d e:Nat}(hk:k = 3):lS n ⟨k,0,-1,[aB n.aa 1 a,aB n.aa (az j) b,aB n.aa 1 d,aB n.aa (az j) e],0,0⟩ (az j):=by
 have h1:=di hg.one a; have h2:=di (hg.has j) b; have h3:=di hg.one d; have h4:=di (hg.has j) e
 subst hk
 refine .inr ⟨fun _=>rfl,?_,.inr (.inr (.inl ⟨rfl,(by simp),(by simp),rfl,rfl,rfl⟩)),.inr (.inr (.inl ⟨rfl,?_⟩)),dN j,by simp,by simp⟩
 ·intro x hx
  simp only [List.mem_cons,List.not_mem_nil,or_false] at hx
  rcases hx with rfl | rfl | rfl | rfl
  ·exact h1.1
  ·exact h2.1
  ·exact h3.1
  ·exact h4.1
 ·intro i hi
  have iS:i < 4:=hi
  match i,iS with
  | 0,_=>exact .inl ⟨rfl,h1.2⟩
  | 1,_=>exact .inr ⟨rfl,h2.2⟩
  | 2,_=>exact .inl ⟨rfl,h3.2⟩
  | 3,_=>exact .inr ⟨rfl,h4.2⟩
theorem KN{k:Int}{j a b x:Nat}(hk:k = 4):lS n ⟨k,0,-1,[aB n.aa 1 a,aB n.aa (az j) b],gK (az j) x,0⟩ (az j):=by
 have h1:=di hg.one a; have h2:=di (hg.has j) b
 subst hk
 refine .inr ⟨fun _=>rfl,?_,.inr (.inr (.inr (.inl ⟨rfl,rfl,rfl,rfl⟩))),.inr (.inr (.inr (.inl ⟨rfl,h1.2,h2.2,xW _ _⟩))),dN j,vW _ _,by simp⟩
 intro x hx
 simp only [List.mem_cons,List.not_mem_nil,or_false] at hx
 rcases hx with rfl | rfl
 ·exact h1.1
 ·exact h2.1
theorem HL{k o:Int}{j a b x:Nat}(hk:k = 5)(ho:4 <= o /\ o <= 8)(hx:1 <= x /\ x <= 4096):lS n ⟨k,o,-1,[aB n.aa (az j) a,aB n.aa (az j) b],x,0⟩ (az j):=by
 have h1:=di (hg.has j) a; have h2:=di (hg.has j) b
 subst hk
 refine .inr ⟨fun _=>rfl,?_,.inr (.inr (.inr (.inr (.inl ⟨rfl,rfl,ho,hx,rfl⟩)))),.inr (.inr (.inr (.inr (.inl ⟨rfl,h1.2,h2.2⟩)))),dN j,?_,by simp⟩
 ·intro x hx
  simp only [List.mem_cons,List.not_mem_nil,or_false] at hx
  rcases hx with rfl | rfl
  ·exact h1.1
  ·exact h2.1
 ·show x < _; omega
theorem uC{x m:Nat}:((x:Int) % (m:Int)).toNat = x % m:=by rw [<- Int.natCast_emod,Int.toNat_natCast]
theorem tW{x m:Nat}(h:0 < m):0 <= (x:Int) % (m:Int) /\ (x:Int) % (m:Int) < (m:Int):=by
 rw [<- Int.natCast_emod]
 have:=Nat.mod_lt x h
 omega
theorem BA{k : Int}{a b x : Nat}(h0 : 0 < n.aa.length)(hk : k = 6)(hm : 0 < n.aD.length) :
  lS n ⟨k,0,-1,[aB n.aa 1 a,(b:Int) % (n.aa.length:Int)],0,(x:Int) % (n.aD.length:Int)⟩ (n.aD.getD (x % n.aD.length) default).width:=by
 have h1:=di hg.one a; have h2:=wR (x:=b) hg h0; have h3:=tW (x:=x) hg hm; have h4:=uC (x:=x) (m:=n.aD.length) hg
 have h5:=hg.mem (Nat.mod_lt x hm)
 subst hk
 refine .inr ⟨fun _=>rfl,?_,.inr (.inr (.inr (.inr (.inr (.inl ⟨rfl,rfl,rfl,rfl,h3.1,h3.2⟩))))),.inr (.inr (.inr (.inr (.inr (.inl ⟨rfl,h1.2,by simp only [h4]⟩))))),h5.2,by simp,by simp⟩
 intro x hx
 simp only [List.mem_cons,List.not_mem_nil,or_false] at hx
 rcases hx with rfl | rfl
 ·exact h1.1
 ·exact h2
theorem xX{k : Int}{a b d x : Nat}(h0 : 0 < n.aa.length)(hk : k = 7)(hm : 0 < n.aD.length) :
  lS n ⟨k,0,-1,([aB n.aa 1 a,(b:Int) % (n.aa.length:Int)]:List Int) ++ ([aB n.aa ((n.aD.getD (x % n.aD.length) default).width) d]:List Int),0,(x:Int) % (n.aD.length:Int)⟩ (n.aD.getD (x % n.aD.length) default).width:=by
 have h5:=hg.mem (Nat.mod_lt x hm)
 have h1:=di hg.one a; have h2:=wR (x:=b) hg h0; have h3:=tW (x:=x) hg hm; have h4:=uC (x:=x) (m:=n.aD.length) hg
 have h6:=di h5.1 d
 subst hk
 refine .inr ⟨fun _=>rfl,?_,.inr (.inr (.inr (.inr (.inr (.inr (.inl ⟨rfl,rfl,rfl,rfl,h3.1,h3.2⟩)))))),.inr (.inr (.inr (.inr (.inr (.inr (.inl ⟨rfl,h1.2,?_⟩)))))),h5.2,by simp,by simp⟩
 ·intro x hx
  simp only [List.cons_append,List.nil_append,List.mem_cons,List.not_mem_nil,or_false] at hx
  rcases hx with rfl | rfl | rfl
  ·exact h1.1
  ·exact h2
  ·exact h6.1
 ·simp only [h4]; exact h6.2.symm
theorem EE{k:Int}{x:Nat}(hk:k = 8)(hm:0 < n.ins.length)(hl:n.ins.length <= 1048576):lS n ⟨k,0,-1,[],x % n.ins.length,0⟩ (n.ins.getD (x % n.ins.length) 0):=by
 have h1:=Nat.mod_lt x hm
 subst hk
 exact .inr ⟨fun _=>rfl,fun x hx=>(by cases hx),.inr (.inr (.inr (.inr (.inr (.inr (.inr (.inl ⟨rfl,rfl,rfl,h1,rfl⟩))))))),.inr (.inr (.inr (.inr (.inr (.inr (.inr (.inl ⟨rfl,rfl⟩))))))),hg.Yv h1,by show x % _ < _; omega,by simp⟩
theorem HM{k:Int}{x:Nat}(hk:k = 9)(hm:0 < n.streams.length):lS n ⟨k,0,-1,[],0,(x:Int) % (n.streams.length:Int)⟩ 1:=by
 have h3:=tW (x:=x) hg hm
 subst hk
 exact .inr ⟨fun _=>rfl,fun x hx=>(by cases hx),.inr (.inr (.inr (.inr (.inr (.inr (.inr (.inr (.inl ⟨rfl,rfl,rfl,rfl,h3.1,h3.2⟩)))))))),.inr (.inr (.inr (.inr (.inr (.inr (.inr (.inr (.inl ⟨rfl,rfl⟩)))))))),uB,by simp,by simp⟩
theorem HN{k:Int}{x:Nat}(hk:k = 10)(hm:0 < n.streams.length)(ho:(n.streams.getD (x % n.streams.length) default).out = false):lS n ⟨k,0,-1,[],0,(x:Int) % (n.streams.length:Int)⟩ (n.streams.getD (x % n.streams.length) default).width:=by
 have h3:=tW (x:=x) hg hm; have h4:=uC (x:=x) (m:=n.streams.length) hg
 have h5:=hg.str (Nat.mod_lt x hm)
 subst hk
 exact .inr ⟨fun _=>rfl,fun x hx=>(by cases hx),.inr (.inr (.inr (.inr (.inr (.inr (.inr (.inr (.inr ⟨rfl,rfl,rfl,rfl,⟨h3.1,h3.2⟩,by simp only [h4]; exact ho⟩)))))))),.inr (.inr (.inr (.inr (.inr (.inr (.inr (.inr (.inr ⟨rfl,by simp only [h4]⟩)))))))),h5.2,by simp,by simp⟩
end
open Go Go.AW
structure BB(n:ab):Prop where
 name:o3 n.name
 eK:n.cells.length <= 65536
 ew:n.aa.length <= 65536
 aa:∀ j,j < n.aa.length -> dz (n.aa.getD j 0)
 ins:∀ j,j < n.ins.length -> dz (n.ins.getD j 0)
 ln:n.aD.length <= 64
 dh:n.streams.length <= 64
 fi:n.bB.length = n.streams.length
 kI:n.data.length = n.streams.length
 aD:∀ j,j < n.aD.length -> nv (n.aD.getD j default)
 strs:∀ j,j < n.streams.length -> mG n j
noncomputable instance (n:ab):Decidable (BB n):=Classical.propDecidable _
theorem q6{α:Type}{l m:List α}{j:Nat}{d:α}(h:j < l.length):(l ++ m).getD j d = l.getD j d:=by
 rw [List.getD_eq_getElem?_getD,List.getElem?_append_left h,List.getD_eq_getElem?_getD]
theorem q7{α:Type}{l m:List α}{j:Nat}{d:α}(h:l.length <= j):(l ++ m).getD j d = m.getD (j - l.length) d:=by
 rw [List.getD_eq_getElem?_getD,List.getElem?_append_right h,List.getD_eq_getElem?_getD]
theorem bh.parts{n:ab}(h:bh n):BB n where
 name:=h.name
 eK:=h.eK
 ew:=h.ew
 aa:=fun j hj=>by have:=h.wide j (by rw [List.length_append]; omega); rwa [q6 hj] at this
 ins:=fun j hj=>by have:=h.wide (n.aa.length + j) (by rw [List.length_append]; omega); rwa [q7 om,show n.aa.length + j - n.aa.length = j by omega] at this
 ln:=h.ln
 dh:=h.dh
 fi:=h.fi
 kI:=h.kI
 aD:=h.aD
 strs:=h.strs
theorem BB.formed{n : ab}(h : BB n)(h1 : In n.freeze n.aa.length)(h2 : In n.done n.aa.length)(h3 : ∀ j, j < n.cM.length → In (n.cM.getD j 0) n.aa.length)
  (h4:∀ j,j < n.cells.length -> jG n (n.cells.getD j default)) (h5:∀ w,w < n.aa.length -> du n.cells w = 1):bh n where
 name:=h.name
 eK:=h.eK
 ew:=h.ew
 ln:=h.ln
 dh:=h.dh
 fi:=h.fi
 kI:=h.kI
 wide:=fun j hj=>by
  rw [List.length_append] at hj
  by_cases Se:j < n.aa.length
  ·rw [q6 Se]; exact h.aa j Se
  ·rw [q7 om]; exact h.ins _ om
 aD:=h.aD
 strs:=h.strs
 freeze:=h1
 done:=h2
 cM:=xT.1 h3
 cells:=h4
 kZ:=h5
def GY(n:ab)(i:Nat)(d:List Int):Prop:=∀ w,w < n.aa.length -> d.getD w 0 = (du (n.cells.take i) w:Int)
theorem GY.init(n:ab):GY n 0 (List.replicate n.aa.length 0):=by
 intro w hw
 rw [List.getD_eq_getElem?_getD,List.getElem?_replicate,if_pos hw]; simp [du]
theorem GY.skip{n:ab}{i:Nat}{d:List Int}(h:GY n i d)(hi:i < n.cells.length)(h7:(n.cells.getD i default).kind = 7):GY n (i + 1) d:=by
 intro w hw
 rw [gq hi,if_neg (fun h=>h.1 h7)]
 exact h w hw
theorem GY.step{n : ab}{i : Nat}{d : List Int}(h : GY n i d)(hi : i < n.cells.length)(h7 : (n.cells.getD i default).kind ≠ 7)(ho : In (n.cells.getD i default).out n.aa.length)
  (hl:d.length = n.aa.length):GY n (i + 1) (d.set (n.cells.getD i default).out.toNat (d.getD (n.cells.getD i default).out.toNat 0 + 1)):=by
 intro w hw
 have hh:=h w hw
 rw [gq hi,bx]
 unfold In at ho
 by_cases e:(n.cells.getD i default).out = (w:Int)
 ·rw [if_pos ⟨om,om⟩,if_pos ⟨h7,e⟩]
  have e2:(n.cells.getD i default).out.toNat = w:=by omega
  rw [e2,hh]; omega
 ·rw [if_neg om,if_neg (fun h=>e h.2),hh]; omega
theorem GY.le{n:ab}{i:Nat}{d:List Int}(h:GY n i d){w:Nat}(hw:w < n.aa.length):0 <= d.getD w 0 /\ d.getD w 0 <= i:=by
 rw [h w hw]
 have:du (n.cells.take i) w <= i:=Nat.le_trans List.countP_le_length (by rw [List.length_take]; omega)
 omega
open Go Go.AW
def nB:ByteArray:=⟨#[110]⟩
def mB:ByteArray:=⟨#[109]⟩
def sB:ByteArray:=⟨#[115]⟩
theorem sA(b:UInt8)(h:jk b.toNat):o3 ⟨#[b]⟩:=by
 refine ⟨fun i hi=>?_,by show 1 <= 64; decide⟩
 have iS:i < 1:=hi
 obtain rfl:i = 0:=by omega
 exact h
def pn(ws:List Int)(cs:List Cell)(ins:List Int)(aD:List eA)(streams:List bE):ab:=⟨nB,ws,cs,ins,aD,streams,[],[],0,0,[]⟩
structure Gr(n:ab):Prop where
 ground:Ground n
 cells:∀ c ∈ n.cells,jG n c /\ Fits n c /\ c.num < 18446744073709551616 /\ c.args.length <= 4
 kZ:∀ w,w < n.aa.length -> du n.cells w = 1
 oC:∀ i j,bD n i -> bD n j -> (n.cell j).out ∈ (n.cell i).args -> j < i
theorem Fits.ext{n n':ab}{c:Cell}(hm:n'.aD = n.aD)(hi:n'.ins = n.ins)(hs:n'.streams = n.streams)(ha:∀ k,n'.av c k = n.av c k)(ho:n'.ow c = n.ow c)(h:Fits n c):Fits n' c:=by
 unfold Fits kf at *
 simp only [ha,ho,hm,hi,hs]; exact h
theorem wh.fits{n n' : ab}{c c' : Cell}{w : Int}(hm : n'.aD = n.aD)(hi : n'.ins = n.ins)(hs : n'.streams = n.streams)(hk : c'.kind = c.kind)(KH : c'.op = c.op)(hr : c'.args = c.args)(hn : c'.num = c.num)(Yw : c'.mem = c.mem)
  (ha:∀ k,n'.av c' k = n.av c k) (ho:c.kind ≠ 7 -> n'.ow c' = w) (h:wh n c w):Fits n' c':=by
 unfold wh at h
 unfold Fits kf
 simp only [ha,hm,hi,hs,hk,KH,hr,hn,Yw]
 by_cases h7:c.kind = 7
 ·rw [h7] at h ⊢
  simp only [Int.reduceEq,false_and,true_and,or_false,false_or] at h ⊢
  exact h
 ·rw [ho h7]; exact h
theorem BC{ws Ab:List Int}{x:Int}(hs:∀ x,x < ws.length -> Ab.getD x 0 = ws.getD x 0)(hx:In x ws.length):Ab.getD x.toNat 0 = ws.getD x.toNat 0:=hs _ (by unfold In at hx; omega)
theorem Ac(l:List Cell)(c:Cell)(w:Nat):du (l ++ [c]) w = du l w + du [c] w:=by simp only [du,List.countP_append]
theorem xY{l:List Cell}{w:Nat}(h:∀ c ∈ l,¬ (c.kind ≠ 7 /\ c.out = (w:Int))):du l w = 0:=by
 unfold du
 rw [List.countP_eq_zero]
 intro c hc
 simpa using h c hc
theorem eL{α:Type}{d:α}{l r:List α}{i:Nat}(h:i < l.length):(l ++ r).getD i d = l.getD i d:=by
 rw [List.getD_eq_getElem?_getD,List.getElem?_append_left h,<- List.getD_eq_getElem?_getD]
theorem gY{α:Type}{d c:α}{l:List α}{i:Nat}(h:i = l.length):(l ++ [c]).getD i d = c:=by
 subst h
 rw [List.getD_eq_getElem?_getD,List.getElem?_append_right (Nat.le_refl _),Nat.sub_self]; rfl
section
variable {ws Ab:List Int} {cs:List Cell} {ins:List Int} {aD:List eA} {streams:List bE} {c0:Cell}
theorem Gr.push(h : Gr (pn ws cs ins aD streams))(h0 : 0 < ws.length)(hw : ∀ w ∈ Ab, dz w)(hs : ∀ x, x < ws.length → Ab.getD x 0 = ws.getD x 0)(hle : ws.length ≤ Ab.length)
  (hc:jG (pn Ab cs ins aD streams) c0) (ha:∀ x ∈ c0.args,In x ws.length) (hf:Fits (pn Ab cs ins aD streams) c0) (Oh:c0.num < 18446744073709551616) (hlen:c0.args.length <= 4)
  (Yx:∀ x,x < Ab.length -> du [c0] x = if x < ws.length then 0 else 1) (kG:bR c0.kind -> c0.out = ws.length) (Mz:Ab.length <= ws.length + 1):Gr (pn Ab (cs ++ [c0]) ins aD streams) where
 ground:=⟨fun k=>by
   obtain ⟨j,h1,h2⟩:=h.ground.has k
   exact ⟨j,Nat.lt_of_lt_of_le h1 hle,(hs j h1).trans h2⟩,hw,h.ground.aD,h.ground.strs,h.ground.ins⟩
 cells:=by
  intro c DC
  rcases List.mem_append.1 DC with h1 | h1
  ·obtain ⟨a1,a2,a3,a4⟩:=h.cells c h1
   have b1:∀ x ∈ c.args,In x ws.length:=a1.1
   refine ⟨⟨fun x hx=>?_,a1.2.1,a1.2.2.1,fun h7=>?_⟩,?_,a3,a4⟩
   ·have:=b1 x hx; unfold In at *; exact ⟨this.1,by show x < (Ab.length:Int); omega⟩
   ·have:=a1.2.2.2 h7; unfold In at *; exact ⟨this.1,by have:=this.2; show c.out < (Ab.length:Int); change c.out < (ws.length:Int) at this; omega⟩
   ·refine Fits.ext (n:=pn ws cs ins aD streams) rfl rfl rfl (fun k=>?_) ?_ a2
    ·refine BC hs ?_
     rcases Nat.lt_or_ge k c.args.length with hk | hk
     ·exact b1 _ (bC hk)
     ·rw [List.getD_eq_getElem?_getD,List.getElem?_eq_none hk]; exact ⟨Int.le_refl 0,by show (0:Int) < (ws.length:Int); omega⟩
    ·unfold ab.ow
     split
     ·rename_i h2
      by_cases h7:c.kind = 7
      ·have:=a1.2.2.1 h7; omega
      ·exact BC hs (a1.2.2.2 h7)
     ·rfl
  ·rw [List.mem_singleton.1 h1]
   exact ⟨hc,hf,Oh,hlen⟩
 kZ:=by
  intro w vy
  show du (cs ++ [c0]) w = 1
  rw [Ac,Yx w vy]
  by_cases h1:w < ws.length
  ·rw [if_pos h1]; have h2:=h.kZ w h1; change du cs w = 1 at h2; omega
  ·rw [if_neg h1,xY]
   rintro c DC ⟨h2,h3⟩
   have:=(h.cells c DC).1.2.2.2 h2
   unfold In at this
   have h4:=this.2
   change c.out < (ws.length:Int) at h4
   omega
 oC:=by
  intro i j hi hj ho
  have cl:∀ {k:Int},0 <= k /\ k < (cs.length:Int) -> (pn Ab (cs ++ [c0]) ins aD streams).cell k = (pn ws cs ins aD streams).cell k:=fun hk=>eL om
  have cr:∀ {k:Int},k = (cs.length:Int) -> (pn Ab (cs ++ [c0]) ins aD streams).cell k = c0:=fun hk=>gY om
  have li:0 <= i /\ i < (cs.length:Int) + 1:=by have:=hi.1; simp [pn] at this; omega
  have lj:0 <= j /\ j < (cs.length:Int) + 1:=by have:=hj.1; simp [pn] at this; omega
  by_cases e1:i = (cs.length:Int)
  ·by_cases e2:j = (cs.length:Int)
   ·exfalso
    rw [cr e1,cr e2] at ho
    have h1:=ha _ ho
    have h2:=hj.2
    rw [cr e2] at h2
    rw [kG h2] at h1
    unfold In at h1; omega
   ·omega
  ·have iS:bD (pn ws cs ins aD streams) i:=⟨⟨li.1,by show i < (cs.length:Int); omega⟩,by have:=hi.2; rwa [cl ⟨li.1,om⟩] at this⟩
   rw [cl (k:=i) ⟨li.1,om⟩] at ho
   by_cases e2:j = (cs.length:Int)
   ·exfalso
    have h2:=hj.2
    rw [cr e2] at h2 ho
    rw [kG h2] at ho
    have h3:In (ws.length:Int) ws.length:=(h.cells ((pn ws cs ins aD streams).cell i) (getD_in (l:=cs) om)).1.1 _ ho
    unfold In at h3; omega
   ·have r8:bD (pn ws cs ins aD streams) j:=⟨⟨lj.1,by show j < (cs.length:Int); omega⟩,by have:=hj.2; rwa [cl ⟨lj.1,om⟩] at this⟩
    rw [cl (k:=j) ⟨lj.1,om⟩] at ho
    exact h.oC i j iS r8 ho
theorem KO{w:Int}{x:Int}(hx:In x ws.length):(ws ++ [w]).getD x.toNat 0 = ws.getD x.toNat 0:=eL (by unfold In at hx; omega)
theorem Gr.add{c : Cell}{w : Int}(h : Gr (pn ws cs ins aD streams))(h0 : 0 < ws.length)(hp : Aa (pn ws cs ins aD streams) c w)(h7 : c.kind ≠ 7) :
  Gr (pn (ws ++ [w]) (cs ++ [⟨c.kind,c.op,(ws.length:Int),c.args,c.num,c.mem⟩]) ins aD streams):=by
 have ha:∀ k,In (c.args.getD k 0) ws.length:=fun k=>by
  rcases Nat.lt_or_ge k c.args.length with hk | hk
  ·exact hp.args _ (bC hk)
  ·rw [List.getD_eq_getElem?_getD,List.getElem?_eq_none hk]; exact ⟨Int.le_refl 0,by show (0:Int) < (ws.length:Int); omega⟩
 refine Gr.push h h0 (fun v hv=>?_) (fun x hx=>eL hx) (by simp) ⟨fun x hx=>?_,hp.shaped,fun h=>absurd h h7,fun _=>⟨by show (0:Int) <= (ws.length:Int); omega,by simp [pn]; omega⟩⟩ hp.args ?_ hp.num hp.len (fun x hx=>?_) (fun _=>rfl) (by simp)
 ·rcases List.mem_append.1 hv with h1 | h1
  ·exact h.ground.wide v h1
  ·rw [List.mem_singleton.1 h1]; exact hp.wide
 ·have:=hp.args x hx
  unfold In at *
  exact ⟨this.1,by have:=this.2; change x < (ws.length:Int) at this; simp [pn]; omega⟩
 ·refine wh.fits (n:=pn ws cs ins aD streams) (c:=c) (w:=w) rfl rfl rfl rfl rfl rfl rfl rfl (fun k=>KO (ha k)) (fun _=>?_) hp.fits
  show (if (0:Int) <= (ws.length:Int) then (ws ++ [w]).getD ((ws.length:Int)).toNat 0 else 0) = w
  rw [if_pos om]
  exact gY (by simp)
 ·have j8:x < ws.length + 1:=by simpa using hx
  show List.countP _ _ = _
  rw [List.countP_singleton]
  by_cases e:x < ws.length
  ·rw [if_pos e,if_neg (by simp only [decide_eq_true_eq]; rintro ⟨_,h2⟩; omega)]
  ·rw [if_neg e,if_pos (by simp only [decide_eq_true_eq]; exact ⟨h7,by show (ws.length:Int) = (x:Int); omega⟩)]
theorem Gr.tH{c : Cell}{w : Int}(h : Gr (pn ws cs ins aD streams))(h0 : 0 < ws.length)(hp : Aa (pn ws cs ins aD streams) c w)(h7 : c.kind = 7) :
  Gr (pn ws (cs ++ [c]) ins aD streams):=by
 refine Gr.push h h0 h.ground.wide (fun _ _=>rfl) (Nat.le_refl _) ⟨hp.args,hp.shaped,hp.out,fun h=>absurd h7 h⟩ hp.args ?_ hp.num hp.len (fun x hx=>?_) (fun hc=>?_) om
 ·exact wh.fits (n:=pn ws cs ins aD streams) (c:=c) (w:=w) rfl rfl rfl rfl rfl rfl rfl rfl (fun k=>rfl) (fun h=>absurd h7 h) hp.fits
 ·show List.countP _ _ = _
  rw [List.countP_singleton,if_pos hx,if_neg (by simp only [decide_eq_true_eq]; rintro ⟨h2,_⟩; exact h2 h7)]
 ·rw [h7] at hc; exact absurd hc ae
theorem Gr.setArgs{k : Nat}{args : List Int}(h : Gr (pn ws cs ins aD streams))(hk : k < cs.length)(h4 : (cs.getD k default).kind = 4)(ha : ∀ x ∈ args, In x ws.length)
  (hl:args.length = 2) (h1:ws.getD (args.getD 0 0).toNat 0 = 1) (h2:ws.getD (args.getD 1 0).toNat 0 = ws.getD (cs.getD k default).out.toNat 0) :
  Gr (pn ws (cs.set k ⟨(cs.getD k default).kind,(cs.getD k default).op,(cs.getD k default).out,args,(cs.getD k default).num,(cs.getD k default).mem⟩) ins aD streams):=by
 have DC:cs.getD k default ∈ cs:=getD_in hk
 obtain ⟨a1,a2,a3,a4⟩:=h.cells _ DC
 have ho:=a1.2.2.2 (by rw [h4]; decide)
 generalize hc:cs.getD k default = c at *
 have cell:∀ i:Int,(pn ws (cs.set k ⟨c.kind,c.op,c.out,args,c.num,c.mem⟩) ins aD streams).cell i = if k = i.toNat /\ k < cs.length then ⟨c.kind,c.op,c.out,args,c.num,c.mem⟩ else (pn ws cs ins aD streams).cell i:=fun i=>bx ..
 refine ⟨⟨h.ground.has,h.ground.wide,h.ground.aD,h.ground.strs,h.ground.ins⟩,?_,?_,?_⟩
 ·intro c' rz
  rcases List.mem_or_eq_of_mem_set rz with h5 | h5
  ·exact h.cells c' h5
  ·subst h5
   refine ⟨⟨ha,?_,fun h7=>?_,fun _=>ho⟩,?_,a3,by simp only [hl]; decide⟩
   ·have:=a1.2.1
    simp only [Shaped,h4,Int.reduceEq,false_and,true_and,false_or,or_false] at this
    exact .inr (.inr (.inr (.inl ⟨h4,hl,this.2.1,this.2.2⟩)))
   ·simp only [h4] at h7; exact absurd h7 ae
   ·simp only [Fits,h4,Int.reduceEq,false_and,true_and,false_or,or_false] at a2
    refine .inr (.inr (.inr (.inl ⟨h4,h1,?_,a2.2.2⟩)))
    show ws.getD (args.getD 1 0).toNat 0 = if 0 <= c.out then ws.getD c.out.toNat 0 else 0
    unfold In at ho
    rw [if_pos ho.1]; exact h2
 ·intro w hw
  have:=h.kZ w hw
  rw [<- this]
  show List.countP _ (cs.set k _) = List.countP _ cs
  have e:∀ (l:List Cell) (f:Cell -> Bool),List.countP f l = List.countP id (l.map f):=fun l f=>by rw [List.countP_map]; rfl
  rw [e,e cs,List.map_set]
  congr 1
  have Bq:k < (cs.map (fun c=>decide (c.kind ≠ 7 /\ c.out = (w:Int)))).length:=by simpa using hk
  have hg:(cs.map (fun c=>decide (c.kind ≠ 7 /\ c.out = (w:Int))))[k] = decide (c.kind ≠ 7 /\ c.out = (w:Int)):=by
   rw [List.getElem_map]
   have:cs[k] = c:=by rw [<- hc,List.getD_eq_getElem?_getD,List.getElem?_eq_getElem hk]; rfl
   rw [this]
  rw [<- hg,List.set_getElem_self]
 ·intro i j hi hj hm
  have key:∀ {i:Int},bD (pn ws (cs.set k ⟨c.kind,c.op,c.out,args,c.num,c.mem⟩) ins aD streams) i -> (pn ws (cs.set k ⟨c.kind,c.op,c.out,args,c.num,c.mem⟩) ins aD streams).cell i = (pn ws cs ins aD streams).cell i /\ bD (pn ws cs ins aD streams) i:=by
   intro i hi
   have mw:=hi.2
   have My:0 <= i /\ i < (cs.length:Int):=by have:=hi.1; simp [pn] at this; omega
   rw [cell] at mw
   by_cases e:k = i.toNat /\ k < cs.length
   ·rw [if_pos e] at mw
    simp only [h4] at mw
    exact absurd mw ae
   ·rw [if_neg e] at mw
    exact ⟨by rw [cell,if_neg e],My,mw⟩
  rw [(key hi).1,(key hj).1] at hm
  exact h.oC i j (key hi).2 (key hj).2 hm
end
open Go Go.AW
def z3(i:Nat):List Int:=(List.range i).map az
def DD(i:Nat):List Cell:=(List.range i).map (fun (j:Nat)=>(⟨1,0,(j:Int),[],j % 2,0⟩:Cell))
theorem EF(i:Nat):z3 (i + 1) = z3 i ++ [az i]:=by simp [z3,List.range_succ]
theorem EG(i:Nat):DD (i + 1) = DD i ++ [(⟨1,0,(i:Int),[],i % 2,0⟩:Cell)]:=by simp [DD,List.range_succ]
theorem rI(i:Nat):(z3 i).length = i:=by simp [z3]
theorem HO(i:Nat):(DD i).length = i:=by simp [DD]
theorem BD{i j:Nat}(h:j < i):(z3 i).getD j 0 = az j:=by
 rw [List.getD_eq_getElem?_getD,List.getElem?_eq_getElem (by rw [rI]; exact h)]; simp [z3]
theorem Yy{ins:List Int}{aD:List eA}{streams:List bE}(hm:∀ m ∈ aD,∃ k,m.width = az k)(hs:∀ s ∈ streams,∃ k,s.width = az k)(hi:∀ w ∈ ins,∃ k,w = az k):Gr (pn (z3 8) (DD 8) ins aD streams) where
 ground:=⟨fun k=>⟨k % 8,by show k % 8 < (z3 8).length; rw [rI]; omega,by show (z3 8).getD (k % 8) 0 = _; rw [BD om]; simp only [az,Nat.mod_mod]⟩,fun w hw=>by
  obtain ⟨k,_,rfl⟩:=List.mem_map.1 hw
  exact dN k,hm,hs,hi⟩
 cells:=by
  intro c hc
  obtain ⟨j,hj,rfl⟩:=List.mem_map.1 hc
  have r8:j < 8:=List.mem_range.1 hj
  have h8:(z3 8).length = 8:=rI 8
  refine ⟨⟨fun x hx=>(by cases hx),.inl ⟨rfl,rfl,rfl,rfl⟩,fun h=>by simp at h,fun _=>⟨by show (0:Int) <= (j:Int); omega,by show (j:Int) < ((z3 8).length:Int); omega⟩⟩,.inl ⟨rfl,?_⟩,by show j % 2 < _; omega,by simp⟩
  show gK (if (0:Int) <= (j:Int) then (z3 8).getD ((j:Int)).toNat 0 else 0) (j % 2) = j % 2
  rw [if_pos om,Int.toNat_natCast,BD r8]
  have:∀ j,j < 8 -> gK (az j) (j % 2) = j % 2:=by decide
  exact this j r8
 kZ:=by
  have:∀ w,w < 8 -> du (DD 8) w = 1:=by decide
  intro w hw
  have rq:w < (z3 8).length:=hw
  rw [rI] at rq
  exact this w rq
 oC:=by
  intro i j hi _ ho
  exfalso
  have h1:=hi.1
  have h2:0 <= i /\ i < ((DD 8).length:Int):=h1
  have h3:(pn (z3 8) (DD 8) ins aD streams).cell i ∈ DD 8:=getD_in (l:=DD 8) om
  obtain ⟨k,_,hk⟩:=List.mem_map.1 h3
  rw [<- hk] at ho
  cases ho
section
variable {ws:List Int} {cs:List Cell} {ins:List Int} {aD:List eA} {streams:List bE}
theorem wi(p:sn)(i:Nat):(ti ws cs p i).length = cs.length:=by
 unfold ti; split
 ·rw [List.length_set]
 ·rfl
theorem bJ{p:Prop}(h:p:=by first | omega | (simp only [wi]; omega) | (simp [-List.getD_eq_getElem?_getD]; done) | (simp [-List.getD_eq_getElem?_getD]; omega)):p:=h
theorem Gr.outs(h:Gr (pn ws cs ins aD streams)){k:Nat}(hk:k < cs.length)(h4:(cs.getD k default).kind = 4):In (cs.getD k default).out ws.length:=(h.cells (cs.getD k default) (getD_in hk)).1.2.2.2 (by rw [h4]; decide)
theorem Gr.late(h:Gr (pn ws cs ins aD streams)){p:sn}{i:Nat}(hi:i < cs.length):Gr (pn ws (ti ws cs p i) ins aD streams):=by
 unfold ti
 split
 ·rename_i h4
  have hk:(((cs.length:Int) - 1) - (i:Int)).toNat < cs.length:=by omega
  have ho:=h.outs hk h4
  have h1:=di h.ground.one p.a
  have h2:=di (ws:=ws) (w:=ws.getD (cs.getD (((cs.length:Int) - 1) - (i:Int)).toNat default).out.toNat 0) ⟨_,by unfold In at ho; omega,rfl⟩ p.d
  refine h.setArgs hk h4 ?_ rfl h1.2 h2.2
  intro x hx
  simp only [List.mem_cons,List.not_mem_nil,or_false] at hx
  rcases hx with rfl | rfl
  ·exact h1.1
  ·exact h2.1
 ·exact h
def wj(ws:List Int)(streams:List bE)(bB data:List Int)(j:Nat):Prop :=
 (In (bB.getD j 0) ws.length ∧ ws.getD (bB.getD j 0).toNat 0 = 1) ∧ ((streams.getD j default).out = true → In (data.getD j 0) ws.length ∧ ws.getD (data.getD j 0).toNat 0 = (streams.getD j default).width) ∧
  ((streams.getD j default).out = false -> data.getD j 0 = -1)
structure J1(n:ab):Prop where
 formed:bh n
 fit:Fit n
 acyclic:Acyclic n
 small:n.Small
 eK:8 <= n.cells.length /\ n.cells.length <= 48
 ew:8 <= n.aa.length /\ n.aa.length <= 48
 tj:∀ c ∈ n.cells,c.args.length <= 4
 tk:n.cM.length <= 3
 ln:n.aD.length <= 3
 dh:n.streams.length <= 4
 CL:n.ins.length <= 4
theorem BE : ∀ {l : List Cell}, (∀ c ∈ l, c.args.length ≤ 4) → (l.map (fun c => c.args.length)).sum ≤ 4 * l.length
 | [],_=>by simp
 | c :: r,h=>by
  have h1:=h c (by simp)
  have h2:=BE (l:=r) (fun c hc=>h c (List.mem_cons_of_mem _ hc))
  simp only [List.map_cons,List.sum_cons,List.length_cons]; omega
theorem Gr.made(h : Gr (pn ws cs ins aD streams)){bB data cM : List Int}{f d : Int}(tE : 8 ≤ cs.length ∧ cs.length ≤ 48)(Mz : 8 ≤ ws.length ∧ ws.length ≤ 48)(Oi : aD.length ≤ 3)(SH : streams.length ≤ 4)(SI : ins.length ≤ 4)(Oj : cM.length ≤ 3)
  (hm:∀ m ∈ aD,nv m) (hs:∀ s ∈ streams,o3 s.name) (ha:bB.length = streams.length) (hd:data.length = streams.length) (he:∀ j,j < streams.length -> wj ws streams bB data j)
  (hr:∀ r ∈ cM,In r ws.length) (hf:In f ws.length /\ ws.getD f.toNat 0 = 1) (Rl:In d ws.length /\ ws.getD d.toNat 0 = 1):J1 ⟨nB,ws,cs,ins,aD,streams,bB,data,f,d,cM⟩ where
 formed := {
  name:=sA 110 (by unfold jk; decide)
  eK:=by show cs.length <= _; omega
  ew:=by show ws.length <= _; omega
  ln:=by show aD.length <= _; omega
  dh:=by show streams.length <= _; omega
  fi:=ha
  kI:=hd
  wide:=fun j hj=>by
   have r8:j < (ws ++ ins).length:=hj
   have h1:(ws ++ ins).getD j 0 ∈ ws ++ ins:=getD_in r8
   rcases List.mem_append.1 h1 with h2 | h2
   ·exact h.ground.wide _ h2
   ·obtain ⟨k,hk⟩:=h.ground.ins _ h2
    show dz ((ws ++ ins).getD j 0)
    rw [hk]; exact dN k
  aD:=fun j hj=>hm _ (getD_in hj)
  strs:=fun j hj=>by
   have h1:=he j hj
   exact ⟨hs _ (getD_in hj),(h.ground.str hj).2,h1.1.1,fun ho=>(h1.2.1 ho).1,h1.2.2⟩
  freeze:=hf.1
  done:=Rl.1
  cM:=hr
  cells:=fun j hj=>(h.cells _ (getD_in hj)).1
  kZ:=h.kZ }
 fit := {
  freeze:=hf.2
  done:=Rl.2
  strs:=fun j hj=>⟨(he j hj).1.2,fun ho=>((he j hj).2.1 ho).2⟩
  cells:=fun j hj=>(h.cells _ (getD_in hj)).2.1 }
 acyclic:=⟨fun i=>i.toNat,fun i j hi hj ho=>by
  have h1:=h.oC i j hi hj ho
  have h2:=hi.1.1; have h3:=hj.1.1
  show j.toNat < i.toNat
  omega⟩
 small := {
  name:=by show nB.size <= _; decide
  aa:=by show ws.length <= _; omega
  cells:=by show cs.length <= _; omega
  args:=fun c hc=>by have:=(h.cells c hc).2.2.2; omega
  GW:=by
   have:=BE (l:=cs) (fun c hc=>(h.cells c hc).2.2.2)
   show (cs.map (fun c=>c.args.length)).sum <= _
   omega
  Ew:=fun c hc=>(h.cells c hc).2.2.1
  rB:=fun m Nj=>by have:=(hm m Nj).1.2; omega
  rC:=fun m Nj=>by have:=(hs m Nj).2; omega
  ins:=by show ins.length <= _; omega
  aD:=by show aD.length <= _; omega
  streams:=by show streams.length <= _; omega
  bB:=by show bB.length <= _; omega
  data:=by show data.length <= _; omega
  cM:=by show cM.length <= _; omega }
 eK:=tE
 ew:=Mz
 tj:=fun c hc=>(h.cells c hc).2.2.2
 tk:=Oj
 ln:=Oi
 dh:=SH
 CL:=SI
end
structure nL.Rm(p:nL):Prop where
 aD:p.aD.length <= 3
 streams:p.streams.length <= 4
 ins:p.ins.length <= 4
 parts:p.parts.length <= 40
 cM:p.cM.length <= 3
structure nL.Ok(p:nL):Prop where
 aD:∀ m ∈ p.aD,m.a < 256 /\ m.b < 256
 streams:∀ m ∈ p.streams,m.a < 256 /\ m.b < 256
 ins:∀ k ∈ p.ins,k < 256
 parts:∀ q ∈ p.parts,q.Ok
 cM:∀ k ∈ p.cM,k < 256
theorem tX{α:Type}{P:α -> Prop}{l:List α}{c:α}(h:∀ m ∈ l,P m)(hc:P c):∀ m ∈ l ++ [c],P m:=by
 intro m hm
 rcases List.mem_append.1 hm with h1 | h1
 ·exact h m h1
 ·rw [List.mem_singleton.1 h1]; exact hc
theorem Ad{x:Nat}{l:Int}(h:1 <= l /\ l <= 4096):nv ⟨mB,az x,l,0,0⟩ /\ ∃ k,(⟨mB,az x,l,0,0⟩:eA).width = az k :=
 ⟨⟨sA 109 (by unfold jk; decide),dN x,h.1,h.2,rfl,rfl⟩,x,rfl⟩
theorem Ae{x:Nat}{o:Bool}:o3 (⟨sB,az x,o⟩:bE).name /\ ∃ k,(⟨sB,az x,o⟩:bE).width = az k:=⟨sA 115 (by unfold jk; decide),x,rfl⟩
theorem Gr.KP{ws : List Int}{cs : List Cell}{ins : List Int}{aD : List eA}{streams : List bE}(h : Gr (pn ws cs ins aD streams)){i : Nat}(hi : i < cs.length) :
  In (cs.getD ((((cs.length:Int) - 1) - (i:Int)).toNat) default).out ws.length \/ (cs.getD ((((cs.length:Int) - 1) - (i:Int)).toNat) default).kind ≠ 4:=by
 by_cases h4:(cs.getD ((((cs.length:Int) - 1) - (i:Int)).toNat) default).kind = 4
 ·exact .inl (h.outs om h4)
 ·exact .inr h4
def BF(ws:List Int)(streams:List bE)(i:Nat)(d0 d:List Int):Prop :=
 d.length = i + 1 /\ (∀ j,j < i -> d.getD j 0 = d0.getD j 0) /\ ((streams.getD i default).out = true -> In (d.getD i 0) ws.length /\ ws.getD (d.getD i 0).toNat 0 = (streams.getD i default).width) /\ ((streams.getD i default).out = false -> d.getD i 0 = -1)
theorem xZ{ws : List Int}{streams : List bE}{i : Nat}{d0 : List Int}{x : Int}(hl : d0.length = i)(hx : In x ws.length ∧ ws.getD x.toNat 0 = (streams.getD i default).width)(ho : (streams.getD i default).out = true) :
  BF ws streams i d0 ((d0 ++ ([-1]:List Int)).set i x):=by
 have e:((d0 ++ ([-1]:List Int)).set i x).getD i 0 = x:=by rw [bx,if_pos ⟨rfl,by simp; omega⟩]
 refine ⟨by simp [hl],fun j hj=>?_,fun _=>by rw [e]; exact hx,fun h=>by rw [ho] at h; cases h⟩
 rw [bx,if_neg om,eL om]
theorem ya{ws:List Int}{streams:List bE}{i:Nat}{d0:List Int}(hl:d0.length = i)(ho:(streams.getD i default).out = false):BF ws streams i d0 (d0 ++ ([-1]:List Int)) :=
 ⟨by simp [hl],fun j hj=>eL om,fun h=>(by rw [ho] at h; cases h),fun _=>gY hl.symm⟩
theorem CM{ws : List Int}{streams : List bE}{i : Nat}{a d0 d : List Int}{x : Int}(tI : a.length = i)(h : ∀ j, j < i → wj ws streams a d0 j)(hx : In x ws.length ∧ ws.getD x.toNat 0 = 1)(hd : BF ws streams i d0 d) :
  ∀ j,j < i + 1 -> wj ws streams (a ++ [x]) d j:=by
 intro j hj
 rcases Nat.lt_or_ge j i with h1 | h1
 ·have h2:=h j h1
  unfold wj at *
  rw [eL om,hd.2.1 j h1]; exact h2
 ·obtain rfl:j = i:=by omega
  unfold wj
  rw [gY tI.symm]
  exact ⟨hx,hd.2.2.1,hd.2.2.2⟩
open Go Go.AW Go.Proofs
section
variable {H:Type} {enc:TypeId × Value -> H} {W:World} {base:Nat}
theorem EH:Try.prog.cellsOf 5 = 1:=by kernel_rfl
theorem KQ:Try.prog.cellsOf 138 = 3:=by kernel_rfl
theorem SJ:Reads enc Try.prog W base 81 U2.row (fun m=>m.a < 256 /\ m.b < 256) (fun _=>0) :=
 (Reads.S8 Try.underlying81 EH au s7).map (fun x=>(⟨x.1,x.2⟩:U2)) (fun _=>rfl) (fun _ h=>h) (fun _=>Nat.zero_le _)
theorem SK:Reads enc Try.prog W base 138 (fun x:Nat × Nat × Nat=>u5 x.1 ++ (u5 x.2.1 ++ u5 x.2.2)) (fun x=>x.1 < 256 /\ x.2.1 < 256 /\ x.2.2 < 256) (fun _=>0):=Reads.S9 Try.underlying138 EH au s7
theorem Ol:Reads enc Try.prog W base 140 sn.row sn.Ok (fun _=>0) :=
 (Reads.struct Try.underlying140 au (gJ.cons rfl EH s7 (gJ.cons rfl EH s7 (gJ.cons rfl EH s7 (gJ.cons rfl KQ SK (gJ.cons rfl NX HH gJ.nil)))))).map
  (fun x=>(⟨x.1,x.2.1,x.2.2.1,x.2.2.2.1.1,x.2.2.2.1.2.1,x.2.2.2.1.2.2,x.2.2.2.2.1⟩:sn)) (fun _=>rfl) (fun x h=>⟨h.1,h.2.1,h.2.2.1,h.2.2.2.1.1,h.2.2.2.1.2.1,h.2.2.2.1.2.2,h.2.2.2.2.1⟩) (fun _=>Nat.zero_le _)
theorem J2:Reads enc Try.prog W base 54 (fun l:List U2=>[.fz 2 (l.map U2.row)]) (fun l=>l.length * 2 <= 140737488351232 /\ ∀ a ∈ l,a.a < 256 /\ a.b < 256) (fun l=>(l.map (fun _=>0)).sum):=Reads.slice Try.underlying54 au ae au SJ
theorem J3:Reads enc Try.prog W base 55 (fun l:List Nat=>[.fz 1 (l.map u5)]) (fun l=>l.length * 1 <= 140737488351232 /\ ∀ a ∈ l,a < 256) (fun l=>(l.map (fun _=>1)).sum):=Reads.slice Try.underlying55 au ae au s7
theorem KR:Reads enc Try.prog W base 56 (fun l:List sn=>[.fz 7 (l.map sn.row)]) (fun l=>l.length * 16 <= 140737488351232 /\ ∀ a ∈ l,a.Ok) (fun l=>(l.map (fun _=>0)).sum):=Reads.slice Try.underlying56 au ae au Ol
theorem J4:Try.prog.cellsOf 54 = 1:=by kernel_rfl
theorem J5:Try.prog.cellsOf 55 = 1:=by kernel_rfl
theorem Om:Try.prog.cellsOf 56 = 1:=by kernel_rfl
theorem Oo:Reads enc Try.prog W base 58 nL.row nL.Ok (fun _=>0) :=
 (Reads.struct Try.underlying58 au (gJ.cons rfl J4 J2 (gJ.cons rfl J4 J2 (gJ.cons rfl J5 J3 (gJ.cons rfl Om KR (gJ.cons rfl J5 J3 gJ.nil)))))).map
  (fun x=>(⟨x.1,x.2.1,x.2.2.1,x.2.2.2.1,x.2.2.2.2.1⟩:nL)) (fun _=>rfl) (fun x h=>⟨h.1.2,h.2.1.2,h.2.2.1.2,h.2.2.2.1.2,h.2.2.2.2.1.2⟩) (fun _=>Nat.zero_le _)
end
open Go Go.AW Go.Proofs
end Go.Proofs.Ytlimckldnjmabaa
namespace Go.Proofs.Ytlimckldnjmabaa
open Go Go.AW Go.Proofs
theorem jf:TY.jQ Try.prog 100 0 = some (0,3):=by kernel_rfl
theorem cN:TY.jQ Try.prog 100 2 = some (2,3):=by kernel_rfl
theorem ky:TY.jQ Try.prog 100 3 = some (3,3):=by kernel_rfl
theorem kz:TY.jQ Try.prog 100 4 = some (4,3):=by kernel_rfl
theorem bW:TY.jQ Try.prog 100 5 = some (5,3):=by kernel_rfl
theorem HP:TY.jQ Try.prog 128 0 = some (0,9):=by kernel_rfl
theorem rJ:TY.jQ Try.prog 128 1 = some (1,3):=by kernel_rfl
theorem BG:TY.jQ Try.prog 128 2 = some (2,3):=by kernel_rfl
theorem HQ:TY.jQ Try.prog 128 3 = some (3,3):=by kernel_rfl
theorem HR:TY.jQ Try.prog 128 4 = some (4,3):=by kernel_rfl
theorem HS:TY.jQ Try.prog 130 0 = some (0,9):=by kernel_rfl
theorem rK:TY.jQ Try.prog 130 1 = some (1,3):=by kernel_rfl
theorem k9:TY.jQ Try.prog 130 2 = some (2,4):=by kernel_rfl
theorem jg:TY.jQ Try.prog 152 0 = some (0,27):=by kernel_rfl
theorem KS:TY.jQ Try.prog 27 0 = some (0,9):=by kernel_rfl
theorem bO:TY.jQ Try.prog 27 1 = some (1,22):=by kernel_rfl
theorem pC:TY.jQ Try.prog 27 10 = some (10,22):=by kernel_rfl
theorem bX:TY.jQ Try.prog 27 2 = some (2,23):=by kernel_rfl
theorem lb:TY.jQ Try.prog 27 3 = some (3,22):=by kernel_rfl
theorem gZ:TY.jQ Try.prog 27 4 = some (4,24):=by kernel_rfl
theorem eS:TY.jQ Try.prog 27 5 = some (5,25):=by kernel_rfl
theorem oW:TY.jQ Try.prog 27 6 = some (6,22):=by kernel_rfl
theorem oX:TY.jQ Try.prog 27 7 = some (7,22):=by kernel_rfl
theorem sC:TY.jQ Try.prog 27 8 = some (8,3):=by kernel_rfl
theorem wS:TY.jQ Try.prog 27 9 = some (9,3):=by kernel_rfl
theorem dC:TY.jQ Try.prog 73 0 = some (0,3):=by kernel_rfl
theorem fc:TY.jQ Try.prog 73 1 = some (1,3):=by kernel_rfl
theorem eo:TY.jQ Try.prog 73 2 = some (2,3):=by kernel_rfl
theorem bU:TY.jQ Try.prog 73 3 = some (3,22):=by kernel_rfl
theorem eB:TY.jQ Try.prog 73 4 = some (4,66):=by kernel_rfl
theorem dv:TY.jQ Try.prog 73 5 = some (5,3):=by kernel_rfl
theorem Oq:TY.isInt Try.prog 232 = some .u64:=by kernel_rfl
theorem sD:TY.isInt Try.prog 3 = some .i64:=by kernel_rfl
theorem wT:TY.isInt Try.prog 5 = some .u8:=by kernel_rfl
theorem yb:TY.isInt Try.prog 66 = some .u64:=by kernel_rfl
theorem J6:aT Try.prog 100 = true:=by kernel_rfl
theorem Ot:aT Try.prog 108 = true:=by kernel_rfl
theorem Ou:aT Try.prog 109 = true:=by kernel_rfl
theorem uD:aT Try.prog 117 = true:=by kernel_rfl
theorem Ov:aT Try.prog 118 = true:=by kernel_rfl
theorem EJ:aT Try.prog 123 = true:=by kernel_rfl
theorem Ow:aT Try.prog 153 = true:=by kernel_rfl
theorem EL:aT Try.prog 154 = true:=by kernel_rfl
theorem EM:aT Try.prog 155 = true:=by kernel_rfl
theorem uE:aT Try.prog 156 = true:=by kernel_rfl
theorem J7:aT Try.prog 157 = true:=by kernel_rfl
theorem Ox:aT Try.prog 158 = true:=by kernel_rfl
theorem Oy:aT Try.prog 159 = true:=by kernel_rfl
theorem Oz:aT Try.prog 160 = true:=by kernel_rfl
theorem O0:aT Try.prog 161 = true:=by kernel_rfl
theorem O1:aT Try.prog 162 = true:=by kernel_rfl
theorem O2:aT Try.prog 163 = true:=by kernel_rfl
theorem O3:aT Try.prog 164 = true:=by kernel_rfl
theorem O4:aT Try.prog 167 = true:=by kernel_rfl
theorem yc:aT Try.prog 174 = true:=by kernel_rfl
theorem O5:aT Try.prog 184 = true:=by kernel_rfl
theorem O6:aT Try.prog 185 = true:=by kernel_rfl
theorem EO:aT Try.prog 186 = true:=by kernel_rfl
theorem O7:aT Try.prog 187 = true:=by kernel_rfl
theorem O8:aT Try.prog 188 = true:=by kernel_rfl
theorem O9:aT Try.prog 189 = true:=by kernel_rfl
theorem OA:aT Try.prog 190 = true:=by kernel_rfl
theorem OB:aT Try.prog 194 = true:=by kernel_rfl
theorem OC:aT Try.prog 197 = true:=by kernel_rfl
theorem OD:aT Try.prog 42 = true:=by kernel_rfl
theorem SL:aT Try.prog 43 = true:=by kernel_rfl
theorem OE:aT Try.prog 52 = true:=by kernel_rfl
theorem KT:aT Try.prog 72 = true:=by kernel_rfl
theorem KU:aT Try.prog 73 = true:=by kernel_rfl
theorem SM:aT Try.prog 80 = true:=by kernel_rfl
theorem SN:aT Try.prog 81 = true:=by kernel_rfl
theorem KV:aT Try.prog 84 = true:=by kernel_rfl
theorem pV:aT Try.prog 85 = true:=by kernel_rfl
theorem SO:aT Try.prog 88 = true:=by kernel_rfl
theorem HT:aT Try.prog 93 = true:=by kernel_rfl
theorem mI:TY.gI Try.prog 100 = some [(0,1),(1,1),(2,1),(3,1),(4,1),(5,1)]:=by kernel_rfl
theorem vB:TY.gI Try.prog 73 = some [(0,1),(1,1),(2,1),(3,1),(4,1),(5,1)]:=by kernel_rfl
theorem dL:TY.shape Try.prog 100 = some (some 6):=by kernel_rfl
theorem OF:TY.shape Try.prog 128 = some (some 5):=by kernel_rfl
theorem J8:TY.shape Try.prog 130 = some (some 3):=by kernel_rfl
theorem bt:TY.shape Try.prog 22 = some none:=by kernel_rfl
theorem gk:TY.shape Try.prog 23 = some none:=by kernel_rfl
theorem pW:TY.shape Try.prog 24 = some none:=by kernel_rfl
theorem lT:TY.shape Try.prog 25 = some none:=by kernel_rfl
theorem gm:TY.shape Try.prog 27 = some (some 11):=by kernel_rfl
theorem bj:TY.shape Try.prog 3 = some none:=by kernel_rfl
theorem Af:TY.shape Try.prog 4 = some none:=by kernel_rfl
theorem iY:TY.shape Try.prog 66 = some none:=by kernel_rfl
theorem fA:TY.shape Try.prog 73 = some (some 6):=by kernel_rfl
theorem SP:TY.shape Try.prog 9 = some none:=by kernel_rfl
theorem Ag:TY.shape Try.prog 98 = some none:=by kernel_rfl
theorem bK:TY.size Try.prog 100 = some 6:=by kernel_rfl
theorem OG:TY.size Try.prog 128 = some 5:=by kernel_rfl
theorem J9:TY.size Try.prog 130 = some 3:=by kernel_rfl
theorem fJ:TY.size Try.prog 22 = some 1:=by kernel_rfl
theorem tJ:TY.size Try.prog 23 = some 1:=by kernel_rfl
theorem dS:TY.size Try.prog 3 = some 1:=by kernel_rfl
theorem Rn:TY.size Try.prog 4 = some 1:=by kernel_rfl
theorem g6:TY.size Try.prog 73 = some 6:=by kernel_rfl
theorem SQ:TY.size Try.prog 98 = some 1:=by kernel_rfl
theorem dI:TY.slice Try.prog 105 = some (22,1,24):=by kernel_rfl
theorem a7:TY.slice Try.prog 22 = some (3,1,8):=by kernel_rfl
theorem dV:TY.slice Try.prog 23 = some (73,6,64):=by kernel_rfl
theorem mV:TY.slice Try.prog 24 = some (128,5,48):=by kernel_rfl
theorem jH:TY.slice Try.prog 25 = some (130,3,32):=by kernel_rfl
theorem sE:TY.slice Try.prog 62 = some (4,1,1):=by kernel_rfl
theorem Yz:Try.prog.underlying 4 = some .bool:=by kernel_rfl
theorem Ro:Try.prog.underlying 9 = some .string:=by kernel_rfl
theorem iE:TY.zero Try.prog 100 = some [.int .i64 0,.int .i64 0,.int .i64 0,.int .i64 0,.int .i64 0,.int .i64 0]:=by kernel_rfl
theorem o4:TY.zero Try.prog 128 = some [.string ByteArray.empty,.int .i64 0,.int .i64 0,.int .i64 0,.int .i64 0]:=by kernel_rfl
theorem ny:TY.zero Try.prog 130 = some [.string ByteArray.empty,.int .i64 0,.bool false]:=by kernel_rfl
theorem pX:TY.zero Try.prog 22 = some [.slice none 0 0]:=by kernel_rfl
theorem dD:TY.zero Try.prog 3 = some [.int .i64 0]:=by kernel_rfl
theorem SR:TY.zero Try.prog 4 = some [.bool false]:=by kernel_rfl
theorem ez:TY.zero Try.prog 73 = some [.int .i64 0,.int .i64 0,.int .i64 0,.slice none 0 0,.int .u64 0,.int .i64 0]:=by kernel_rfl
theorem SS:TY.zero Try.prog 98 = some [.nilFunc]:=by kernel_rfl
open Go Go.AW Go.Proofs
theorem oY:TY.array Try.prog 138 = some (3,5,1):=by kernel_rfl
theorem HU:TY.array Try.prog 81 = some (2,5,1):=by kernel_rfl
theorem HV:TY.jQ Try.prog 140 0 = some (0,5):=by kernel_rfl
theorem pD:TY.jQ Try.prog 140 1 = some (1,5):=by kernel_rfl
theorem BH:TY.jQ Try.prog 140 2 = some (2,5):=by kernel_rfl
theorem jI:TY.jQ Try.prog 140 3 = some (3,138):=by kernel_rfl
theorem tY:TY.jQ Try.prog 140 4 = some (6,66):=by kernel_rfl
theorem wU:TY.jQ Try.prog 58 0 = some (0,54):=by kernel_rfl
theorem wV:TY.jQ Try.prog 58 1 = some (1,54):=by kernel_rfl
theorem Ah:TY.jQ Try.prog 58 2 = some (2,55):=by kernel_rfl
theorem qO:TY.jQ Try.prog 58 3 = some (3,56):=by kernel_rfl
theorem Ai:TY.jQ Try.prog 58 4 = some (4,55):=by kernel_rfl
theorem OH:aT Try.prog 119 = true:=by kernel_rfl
theorem JA:aT Try.prog 124 = true:=by kernel_rfl
theorem OI:aT Try.prog 35 = true:=by kernel_rfl
theorem vC:aT Try.prog 64 = true:=by kernel_rfl
theorem OJ:aT Try.prog 65 = true:=by kernel_rfl
theorem SU:aT Try.prog 66 = true:=by kernel_rfl
theorem jm:aT Try.prog 67 = true:=by kernel_rfl
theorem SV:aT Try.prog 98 = true:=by kernel_rfl
theorem OK:aT Try.prog 99 = true:=by kernel_rfl
theorem EP:TY.gI Try.prog 128 = some [(0,1),(1,1),(2,1),(3,1),(4,1)]:=by kernel_rfl
theorem ER:TY.gI Try.prog 130 = some [(0,1),(1,1),(2,1)]:=by kernel_rfl
theorem SW:TY.gI Try.prog 27 = some [(0,1),(1,1),(2,1),(3,1),(4,1),(5,1),(6,1),(7,1),(8,1),(9,1),(10,1)]:=by kernel_rfl
theorem ES:TY.shape Try.prog 140 = some (some 7):=by kernel_rfl
theorem tl:TY.shape Try.prog 5 = some none:=by kernel_rfl
theorem yd:TY.shape Try.prog 54 = some none:=by kernel_rfl
theorem CN:TY.shape Try.prog 55 = some none:=by kernel_rfl
theorem Aj:TY.shape Try.prog 56 = some none:=by kernel_rfl
theorem HW:TY.size Try.prog 24 = some 1:=by kernel_rfl
theorem HX:TY.size Try.prog 25 = some 1:=by kernel_rfl
theorem KW:TY.size Try.prog 27 = some 11:=by kernel_rfl
theorem HY:TY.size Try.prog 66 = some 1:=by kernel_rfl
theorem ye:TY.slice Try.prog 54 = some (81,2,2):=by kernel_rfl
theorem CO:TY.slice Try.prog 55 = some (5,1,1):=by kernel_rfl
theorem Ak:TY.slice Try.prog 56 = some (140,7,16):=by kernel_rfl
theorem HZ:TY.zero Try.prog 27 = some [.string ByteArray.empty,.slice none 0 0,.slice none 0 0,.slice none 0 0,.slice none 0 0,.slice none 0 0,.slice none 0 0,.slice none 0 0,.int .i64 0,.int .i64 0,.slice none 0 0]:=by kernel_rfl
open Go Go.AW Go.Proofs
theorem pE:TY.jQ Try.prog 107 0 = some (0,85):=by kernel_rfl
theorem kA:TY.jQ Try.prog 107 1 = some (1,105):=by kernel_rfl
theorem rL:TY.jQ Try.prog 107 2 = some (2,105):=by kernel_rfl
theorem eT:TY.jQ Try.prog 114 0 = some (0,3):=by kernel_rfl
theorem iy:TY.jQ Try.prog 114 1 = some (1,3):=by kernel_rfl
theorem e8:TY.jQ Try.prog 114 2 = some (2,3):=by kernel_rfl
theorem nY:TY.jQ Try.prog 159 0 = some (0,85):=by kernel_rfl
theorem mJ:TY.jQ Try.prog 221 0 = some (0,3):=by kernel_rfl
theorem l3:TY.jQ Try.prog 221 1 = some (1,3):=by kernel_rfl
theorem tm:aT Try.prog 125 = true:=by kernel_rfl
theorem OL:aT Try.prog 126 = true:=by kernel_rfl
theorem OM:aT Try.prog 127 = true:=by kernel_rfl
theorem ET:aT Try.prog 128 = true:=by kernel_rfl
theorem EU:aT Try.prog 129 = true:=by kernel_rfl
theorem JB:aT Try.prog 130 = true:=by kernel_rfl
theorem BK:aT Try.prog 131 = true:=by kernel_rfl
theorem ON:aT Try.prog 132 = true:=by kernel_rfl
theorem EV:aT Try.prog 142 = true:=by kernel_rfl
theorem yf:aT Try.prog 143 = true:=by kernel_rfl
theorem wm:aT Try.prog 175 = true:=by kernel_rfl
theorem JC:aT Try.prog 176 = true:=by kernel_rfl
theorem OO:aT Try.prog 177 = true:=by kernel_rfl
theorem EW:aT Try.prog 178 = true:=by kernel_rfl
theorem OP:aT Try.prog 195 = true:=by kernel_rfl
theorem JD:aT Try.prog 198 = true:=by kernel_rfl
theorem SX:aT Try.prog 22 = true:=by kernel_rfl
theorem OQ:aT Try.prog 30 = true:=by kernel_rfl
theorem SY:aT Try.prog 32 = true:=by kernel_rfl
theorem SZ:aT Try.prog 33 = true:=by kernel_rfl
theorem OR:aT Try.prog 34 = true:=by kernel_rfl
theorem OS:aT Try.prog 37 = true:=by kernel_rfl
theorem Ta:aT Try.prog 41 = true:=by kernel_rfl
theorem Tb:aT Try.prog 46 = true:=by kernel_rfl
theorem Tc:aT Try.prog 47 = true:=by kernel_rfl
theorem Td:aT Try.prog 74 = true:=by kernel_rfl
theorem Te:aT Try.prog 75 = true:=by kernel_rfl
theorem Tf:aT Try.prog 76 = true:=by kernel_rfl
theorem Tg:aT Try.prog 77 = true:=by kernel_rfl
theorem OT:aT Try.prog 78 = true:=by kernel_rfl
theorem OU:aT Try.prog 79 = true:=by kernel_rfl
theorem Th:aT Try.prog 92 = true:=by kernel_rfl
theorem Ti:aT Try.prog 94 = true:=by kernel_rfl
theorem uF:aT Try.prog 95 = true:=by kernel_rfl
theorem tK:aT Try.prog 96 = true:=by kernel_rfl
theorem Ia:aT Try.prog 97 = true:=by kernel_rfl
theorem rM:TY.gI Try.prog 107 = some [(0,1),(1,1),(2,1)]:=by kernel_rfl
theorem OV:TY.gI Try.prog 114 = some [(0,1),(1,1),(2,1)]:=by kernel_rfl
theorem OW:TY.gI Try.prog 152 = some [(0,11)]:=by kernel_rfl
theorem JE:TY.gI Try.prog 159 = some [(0,1)]:=by kernel_rfl
theorem BL:TY.gI Try.prog 221 = some [(0,1),(1,1)]:=by kernel_rfl
theorem lU:TY.shape Try.prog 105 = some none:=by kernel_rfl
theorem JF:TY.shape Try.prog 107 = some (some 3):=by kernel_rfl
theorem JG:TY.shape Try.prog 114 = some (some 3):=by kernel_rfl
theorem EX:TY.shape Try.prog 221 = some (some 2):=by kernel_rfl
theorem OX:TY.shape Try.prog 58 = some (some 5):=by kernel_rfl
theorem uG:TY.shape Try.prog 85 = some none:=by kernel_rfl
theorem oZ:TY.size Try.prog 107 = some 3:=by kernel_rfl
theorem JH:TY.size Try.prog 114 = some 3:=by kernel_rfl
theorem BM:TY.size Try.prog 221 = some 2:=by kernel_rfl
theorem OY:TY.size Try.prog 85 = some 1:=by kernel_rfl
theorem ei:TY.slice Try.prog 219 = some (221,2,16):=by kernel_rfl
theorem rN:TY.slice Try.prog 85 = some (114,3,24):=by kernel_rfl
theorem jZ:TY.zero Try.prog 107 = some [.slice none 0 0,.slice none 0 0,.slice none 0 0]:=by kernel_rfl
theorem yg:TY.zero Try.prog 114 = some [.int .i64 0,.int .i64 0,.int .i64 0]:=by kernel_rfl
theorem OZ:TY.zero Try.prog 152 = some [.string ByteArray.empty,.slice none 0 0,.slice none 0 0,.slice none 0 0,.slice none 0 0,.slice none 0 0,.slice none 0 0,.slice none 0 0,.int .i64 0,.int .i64 0,.slice none 0 0]:=by kernel_rfl
theorem JI:TY.zero Try.prog 159 = some [.slice none 0 0]:=by kernel_rfl
theorem jv:TY.zero Try.prog 221 = some [.int .i64 0,.int .i64 0]:=by kernel_rfl
open Go Go.AW Go.Proofs
theorem Tj:aT Try.prog 48 = true:=by kernel_rfl
theorem Tk:aT Try.prog 49 = true:=by kernel_rfl
open Go Go.AW Go.Proofs
theorem sF{w:Int}:aw Try.prog 155 [vi w] [] [] (fun r o=>r = .v (.bool (decide (dz w))) /\ o = []):=by
 refine aw.of Try.func155 U U U (n:=9) ae (aH U) (.sr (.an (.nil (.sr ?_))))
 refine .mv ?_
 refine .vl (Y.qq U U) (.mv ?_)
 refine .aC (d:=5) U (fun c5=>?_) (fun c5=>?_)
 refine .gw 5 (Y.zh U U) (.gw 5 (Y.qz U U) (.pk ?_))
 refine .an (.nil (.ret ?_))
 exact .rb rfl (dd (by (simp only [dz]) <;> (first | omega | grind)))
 refine .gz 5 (.gz 5 (.pk ?_))
 refine .an (.nil (.ret ?_))
 exact .rb rfl (df (by (simp only [dz]) <;> (first | omega | grind)))
theorem qQ{s:ByteArray}(hs:s.size <= 140737488351232):aw Try.prog 154 [.v (.string s)] [] [] (fun r o=>r = .v (.bool (decide (o3 s))) /\ o = []):=by
 refine aw.of Try.func154 U U U (n:=44) ae (aH U) (.sr (.an ?_))
 refine .nil (.seq (.sr (.mv ?_)))
 refine .vl (Y.qy Ro U) (.mv ?_)
 refine .nil (.block (.jt (fun (cq:Nat)=>⟨[(0,.v (.string s)),(6,vi s.size),(7,vi cq)],[]⟩) (fun cq=>((cq:Int) <= (s.size:Int)) /\ (∀ j,j < cq -> jk (b9 s j))) (fun cq=>((s.size:Int) - (cq:Int)).toNat) 0 (⟨om,by intro j h; omega⟩) (Le.mk (.c2 (.cons (ak U bc) .nil)) .nil) (fun cq CB=>?_)))
 obtain ⟨DX,hb⟩:=CB
 refine .sr (.vl (Y.zc U U) (.nil (.seq (.aA U (fun c8=>?_) (fun c8=>?_)))))
 refine .skip ?_
 refine .ux (⟨[(0,.v (.string s)),(6,vi s.size),(7,vi cq)],[]⟩) (((97 <= ((b9 s cq:Nat):Int)) /\ (((b9 s cq:Nat):Int) <= 122)) \/ ((97 <= ((b9 s cq:Nat):Int)) /\ (¬ (((b9 s cq:Nat):Int) <= 122)) /\ (65 <= ((b9 s cq:Nat):Int)) /\ (((b9 s cq:Nat):Int) <= 90)) \/ ((97 <= ((b9 s cq:Nat):Int)) /\ (¬ (((b9 s cq:Nat):Int) <= 122)) /\ (65 <= ((b9 s cq:Nat):Int)) /\ (¬ (((b9 s cq:Nat):Int) <= 90)) /\ (48 <= ((b9 s cq:Nat):Int)) /\ (((b9 s cq:Nat):Int) <= 57)) \/ ((97 <= ((b9 s cq:Nat):Int)) /\ (¬ (((b9 s cq:Nat):Int) <= 122)) /\ (65 <= ((b9 s cq:Nat):Int)) /\ (¬ (((b9 s cq:Nat):Int) <= 90)) /\ (48 <= ((b9 s cq:Nat):Int)) /\ (¬ (((b9 s cq:Nat):Int) <= 57)) /\ (((b9 s cq:Nat):Int) = 95)) \/ ((97 <= ((b9 s cq:Nat):Int)) /\ (¬ (((b9 s cq:Nat):Int) <= 122)) /\ (65 <= ((b9 s cq:Nat):Int)) /\ (¬ (((b9 s cq:Nat):Int) <= 90)) /\ (¬ (48 <= ((b9 s cq:Nat):Int))) /\ (((b9 s cq:Nat):Int) = 95)) \/ ((97 <= ((b9 s cq:Nat):Int)) /\ (¬ (((b9 s cq:Nat):Int) <= 122)) /\ (¬ (65 <= ((b9 s cq:Nat):Int))) /\ (48 <= ((b9 s cq:Nat):Int)) /\ (((b9 s cq:Nat):Int) <= 57)) \/ ((97 <= ((b9 s cq:Nat):Int)) /\ (¬ (((b9 s cq:Nat):Int) <= 122)) /\ (¬ (65 <= ((b9 s cq:Nat):Int))) /\ (48 <= ((b9 s cq:Nat):Int)) /\ (¬ (((b9 s cq:Nat):Int) <= 57)) /\ (((b9 s cq:Nat):Int) = 95)) \/ ((97 <= ((b9 s cq:Nat):Int)) /\ (¬ (((b9 s cq:Nat):Int) <= 122)) /\ (¬ (65 <= ((b9 s cq:Nat):Int))) /\ (¬ (48 <= ((b9 s cq:Nat):Int))) /\ (((b9 s cq:Nat):Int) = 95)) \/ ((¬ (97 <= ((b9 s cq:Nat):Int))) /\ (65 <= ((b9 s cq:Nat):Int)) /\ (((b9 s cq:Nat):Int) <= 90)) \/ ((¬ (97 <= ((b9 s cq:Nat):Int))) /\ (65 <= ((b9 s cq:Nat):Int)) /\ (¬ (((b9 s cq:Nat):Int) <= 90)) /\ (48 <= ((b9 s cq:Nat):Int)) /\ (((b9 s cq:Nat):Int) <= 57)) \/ ((¬ (97 <= ((b9 s cq:Nat):Int))) /\ (65 <= ((b9 s cq:Nat):Int)) /\ (¬ (((b9 s cq:Nat):Int) <= 90)) /\ (48 <= ((b9 s cq:Nat):Int)) /\ (¬ (((b9 s cq:Nat):Int) <= 57)) /\ (((b9 s cq:Nat):Int) = 95)) \/ ((¬ (97 <= ((b9 s cq:Nat):Int))) /\ (65 <= ((b9 s cq:Nat):Int)) /\ (¬ (((b9 s cq:Nat):Int) <= 90)) /\ (¬ (48 <= ((b9 s cq:Nat):Int))) /\ (((b9 s cq:Nat):Int) = 95)) \/ ((¬ (97 <= ((b9 s cq:Nat):Int))) /\ (¬ (65 <= ((b9 s cq:Nat):Int))) /\ (48 <= ((b9 s cq:Nat):Int)) /\ (((b9 s cq:Nat):Int) <= 57)) \/ ((¬ (97 <= ((b9 s cq:Nat):Int))) /\ (¬ (65 <= ((b9 s cq:Nat):Int))) /\ (48 <= ((b9 s cq:Nat):Int)) /\ (¬ (((b9 s cq:Nat):Int) <= 57)) /\ (((b9 s cq:Nat):Int) = 95)) \/ ((¬ (97 <= ((b9 s cq:Nat):Int))) /\ (¬ (65 <= ((b9 s cq:Nat):Int))) /\ (¬ (48 <= ((b9 s cq:Nat):Int))) /\ (((b9 s cq:Nat):Int) = 95))) ?_ (fun WI=>?_)
 refine .block (.sr (.mv ?_))
 refine .an (.nil (.sr ?_))
 refine .mv ?_
 refine .mv ?_
 refine .vl (Y.qw (m:=cq) Ro U U bc om) (.an (.nil (.sr ?_)))
 refine .mv ?_
 refine .vl (Y.qq U U) (.mv ?_)
 refine .aC (d:=15) U (fun ua=>?_) (fun ua=>?_)
 refine .gw 15 (Y.zh U U) (.gw 15 (Y.qz U U) (.pk ?_))
 refine .mv ?_
 refine .aC (d:=19) U (fun vD=>?_) (fun vD=>?_)
 refine .gz 19 (.gz 19 (.gz 19 (.gz 22 (.gz 22 (.gz 19 (.pk ?_))))))
 refine .mv ?_
 refine .gz 27 (.gz 27 (.gz 27 (.gz 30 (.gz 30 (.gz 27 (.pk ?_))))))
 refine .mv ?_
 refine .gz 35 (.gz 35 (.pk ?_))
 refine .vl (Y.zn U) (.nil (.cZ U ?_))
 refine .skip (⟨.inl ⟨ua,vD⟩,Le.mk (.c2 (.c .nil)) .nil⟩)
 refine .gw 19 (Y.zh U U) (.gw 19 (Y.qq U U) (.gw 19 (Y.zh U U) (.aC (d:=22) U (fun pa=>?_) (fun pa=>?_))))
 refine .gw 22 (Y.zh U U) (.gw 22 (Y.qz U U) (.gw 19 (Y.zo U U U) (.pk ?_)))
 refine .mv ?_
 refine .aC (d:=27) U (fun z4=>?_) (fun z4=>?_)
 refine .gz 27 (.gz 27 (.gz 27 (.gz 30 (.gz 30 (.gz 27 (.pk ?_))))))
 refine .mv ?_
 refine .gz 35 (.gz 35 (.pk ?_))
 refine .vl (Y.zn U) (.nil (.cZ U ?_))
 refine .skip (⟨.inr (.inl ⟨ua,vD,pa,z4⟩),Le.mk (.c2 (.c .nil)) .nil⟩)
 refine .gw 27 (Y.zh U U) (.gw 27 (Y.qq U U) (.gw 27 (Y.zh U U) (.aC (d:=30) U (fun sG=>?_) (fun sG=>?_))))
 refine .gw 30 (Y.zh U U) (.gw 30 (Y.qz U U) (.gw 27 (Y.zo U U U) (.pk ?_)))
 refine .mv ?_
 refine .aC (d:=35) U (fun vE=>?_) (fun vE=>?_)
 refine .gz 35 (.gz 35 (.pk ?_))
 refine .vl (Y.zn U) (.nil (.cZ U ?_))
 refine .skip (⟨.inr (.inr (.inl ⟨ua,vD,pa,z4,sG,vE⟩)),Le.mk (.c2 (.c .nil)) .nil⟩)
 refine .gw 35 (Y.zh U U) (.gw 35 (Y.ql U U) (.pk ?_))
 refine .vl (Y.zn U) (.nil (.lh U (fun sH=>?_) (fun sH=>?_)))
 refine .sr (.an (.nil (.ret ?_)))
 exact .rb rfl (df (fun h=>by have h1:=h.1 cq om; unfold jk at h1; omega))
 refine .skip (⟨.inr (.inr (.inr (.inl ⟨ua,vD,pa,z4,sG,vE,sH⟩))),Le.mk (.c2 (.c .nil)) .nil⟩)
 refine .gz 30 (.gz 30 (.gw 27 (Y.zo U U U) (.pk ?_)))
 refine .mv ?_
 refine .gw 35 (Y.zh U U) (.gw 35 (Y.ql U U) (.pk ?_))
 refine .vl (Y.zn U) (.nil (.lh U (fun sH=>?_) (fun sH=>?_)))
 refine .sr (.an (.nil (.ret ?_)))
 exact .rb rfl (df (fun h=>by have h1:=h.1 cq om; unfold jk at h1; omega))
 refine .skip (⟨.inr (.inr (.inr (.inr (.inl ⟨ua,vD,pa,z4,sG,sH⟩)))),Le.mk (.c2 (.c .nil)) .nil⟩)
 refine .gz 22 (.gz 22 (.gw 19 (Y.zo U U U) (.pk ?_)))
 refine .mv ?_
 refine .gw 27 (Y.zh U U) (.gw 27 (Y.qq U U) (.gw 27 (Y.zh U U) (.aC (d:=30) U (fun sG=>?_) (fun sG=>?_))))
 refine .gw 30 (Y.zh U U) (.gw 30 (Y.qz U U) (.gw 27 (Y.zo U U U) (.pk ?_)))
 refine .mv ?_
 refine .aC (d:=35) U (fun vE=>?_) (fun vE=>?_)
 refine .gz 35 (.gz 35 (.pk ?_))
 refine .vl (Y.zn U) (.nil (.cZ U ?_))
 refine .skip (⟨.inr (.inr (.inr (.inr (.inr (.inl ⟨ua,vD,pa,sG,vE⟩))))),Le.mk (.c2 (.c .nil)) .nil⟩)
 refine .gw 35 (Y.zh U U) (.gw 35 (Y.ql U U) (.pk ?_))
 refine .vl (Y.zn U) (.nil (.lh U (fun sH=>?_) (fun sH=>?_)))
 refine .sr (.an (.nil (.ret ?_)))
 exact .rb rfl (df (fun h=>by have h1:=h.1 cq om; unfold jk at h1; omega))
 refine .skip (⟨.inr (.inr (.inr (.inr (.inr (.inr (.inl ⟨ua,vD,pa,sG,vE,sH⟩)))))),Le.mk (.c2 (.c .nil)) .nil⟩)
 refine .gz 30 (.gz 30 (.gw 27 (Y.zo U U U) (.pk ?_)))
 refine .mv ?_
 refine .gw 35 (Y.zh U U) (.gw 35 (Y.ql U U) (.pk ?_))
 refine .vl (Y.zn U) (.nil (.lh U (fun sH=>?_) (fun sH=>?_)))
 refine .sr (.an (.nil (.ret ?_)))
 exact .rb rfl (df (fun h=>by have h1:=h.1 cq om; unfold jk at h1; omega))
 refine .skip (⟨.inr (.inr (.inr (.inr (.inr (.inr (.inr (.inl ⟨ua,vD,pa,sG,sH⟩))))))),Le.mk (.c2 (.c .nil)) .nil⟩)
 refine .gz 15 (.gz 15 (.pk ?_))
 refine .mv ?_
 refine .gw 19 (Y.zh U U) (.gw 19 (Y.qq U U) (.gw 19 (Y.zh U U) (.aC (d:=22) U (fun pa=>?_) (fun pa=>?_))))
 refine .gw 22 (Y.zh U U) (.gw 22 (Y.qz U U) (.gw 19 (Y.zo U U U) (.pk ?_)))
 refine .mv ?_
 refine .aC (d:=27) U (fun z4=>?_) (fun z4=>?_)
 refine .gz 27 (.gz 27 (.gz 27 (.gz 30 (.gz 30 (.gz 27 (.pk ?_))))))
 refine .mv ?_
 refine .gz 35 (.gz 35 (.pk ?_))
 refine .vl (Y.zn U) (.nil (.cZ U ?_))
 refine .skip (⟨.inr (.inr (.inr (.inr (.inr (.inr (.inr (.inr (.inl ⟨ua,pa,z4⟩)))))))),Le.mk (.c2 (.c .nil)) .nil⟩)
 refine .gw 27 (Y.zh U U) (.gw 27 (Y.qq U U) (.gw 27 (Y.zh U U) (.aC (d:=30) U (fun sG=>?_) (fun sG=>?_))))
 refine .gw 30 (Y.zh U U) (.gw 30 (Y.qz U U) (.gw 27 (Y.zo U U U) (.pk ?_)))
 refine .mv ?_
 refine .aC (d:=35) U (fun vE=>?_) (fun vE=>?_)
 refine .gz 35 (.gz 35 (.pk ?_))
 refine .vl (Y.zn U) (.nil (.cZ U ?_))
 refine .skip (⟨.inr (.inr (.inr (.inr (.inr (.inr (.inr (.inr (.inr (.inl ⟨ua,pa,z4,sG,vE⟩))))))))),Le.mk (.c2 (.c .nil)) .nil⟩)
 refine .gw 35 (Y.zh U U) (.gw 35 (Y.ql U U) (.pk ?_))
 refine .vl (Y.zn U) (.nil (.lh U (fun sH=>?_) (fun sH=>?_)))
 refine .sr (.an (.nil (.ret ?_)))
 exact .rb rfl (df (fun h=>by have h1:=h.1 cq om; unfold jk at h1; omega))
 refine .skip (⟨.inr (.inr (.inr (.inr (.inr (.inr (.inr (.inr (.inr (.inr (.inl ⟨ua,pa,z4,sG,vE,sH⟩)))))))))),Le.mk (.c2 (.c .nil)) .nil⟩)
 refine .gz 30 (.gz 30 (.gw 27 (Y.zo U U U) (.pk ?_)))
 refine .mv ?_
 refine .gw 35 (Y.zh U U) (.gw 35 (Y.ql U U) (.pk ?_))
 refine .vl (Y.zn U) (.nil (.lh U (fun sH=>?_) (fun sH=>?_)))
 refine .sr (.an (.nil (.ret ?_)))
 exact .rb rfl (df (fun h=>by have h1:=h.1 cq om; unfold jk at h1; omega))
 refine .skip (⟨.inr (.inr (.inr (.inr (.inr (.inr (.inr (.inr (.inr (.inr (.inr (.inl ⟨ua,pa,z4,sG,sH⟩))))))))))),Le.mk (.c2 (.c .nil)) .nil⟩)
 refine .gz 22 (.gz 22 (.gw 19 (Y.zo U U U) (.pk ?_)))
 refine .mv ?_
 refine .gw 27 (Y.zh U U) (.gw 27 (Y.qq U U) (.gw 27 (Y.zh U U) (.aC (d:=30) U (fun sG=>?_) (fun sG=>?_))))
 refine .gw 30 (Y.zh U U) (.gw 30 (Y.qz U U) (.gw 27 (Y.zo U U U) (.pk ?_)))
 refine .mv ?_
 refine .aC (d:=35) U (fun vE=>?_) (fun vE=>?_)
 refine .gz 35 (.gz 35 (.pk ?_))
 refine .vl (Y.zn U) (.nil (.cZ U ?_))
 refine .skip (⟨.inr (.inr (.inr (.inr (.inr (.inr (.inr (.inr (.inr (.inr (.inr (.inr (.inl ⟨ua,pa,sG,vE⟩)))))))))))),Le.mk (.c2 (.c .nil)) .nil⟩)
 refine .gw 35 (Y.zh U U) (.gw 35 (Y.ql U U) (.pk ?_))
 refine .vl (Y.zn U) (.nil (.lh U (fun sH=>?_) (fun sH=>?_)))
 refine .sr (.an (.nil (.ret ?_)))
 exact .rb rfl (df (fun h=>by have h1:=h.1 cq om; unfold jk at h1; omega))
 refine .skip (⟨.inr (.inr (.inr (.inr (.inr (.inr (.inr (.inr (.inr (.inr (.inr (.inr (.inr (.inl ⟨ua,pa,sG,vE,sH⟩))))))))))))),Le.mk (.c2 (.c .nil)) .nil⟩)
 refine .gz 30 (.gz 30 (.gw 27 (Y.zo U U U) (.pk ?_)))
 refine .mv ?_
 refine .gw 35 (Y.zh U U) (.gw 35 (Y.ql U U) (.pk ?_))
 refine .vl (Y.zn U) (.nil (.lh U (fun sH=>?_) (fun sH=>?_)))
 refine .sr (.an (.nil (.ret ?_)))
 exact .rb rfl (df (fun h=>by have h1:=h.1 cq om; unfold jk at h1; omega))
 refine .skip (⟨.inr (.inr (.inr (.inr (.inr (.inr (.inr (.inr (.inr (.inr (.inr (.inr (.inr (.inr (⟨ua,pa,sG,sH⟩)))))))))))))),Le.mk (.c2 (.c .nil)) .nil⟩)
 refine .region (.vl (Y.qb U U aG) (.mv ?_))
 refine .nil (⟨cq + 1,⟨om,zP hb (by unfold jk; omega)⟩,om,Le.mk (.c2 (.cons (ak U bc) .nil)) .nil⟩)
 refine .exit (.sr (.mv ?_))
 refine .vl (Y.qy Ro U) (.vl (Y.qz U U) (.an (.nil (.ret ?_))))
 exact .rb rfl (dd ⟨fun h=>⟨fun j hj=>hb j om,om⟩,fun h=>by have:=h.2; omega⟩)
theorem mY{op:Int}:aw Try.prog 186 [vi op] [] [] (fun r o=>r = (vi (cd op)) /\ o = []):=by
 refine aw.of Try.func186 U U U (n:=25) ae (aH U) (.sr (.an ?_))
 refine .nil (.seq (.sr (.mv ?_)))
 refine .nil (.block (.seq (.sr (.vl (Y.ql U U) (.an (.nil ?_))))))
 refine .bm U (fun c4=>?_) (fun c4=>?_)
 refine .skip (.aO U (.sr (.an (.nil (.ret ?_)))))
 exact .ri rfl (by simp only [cd]; omega)
 refine .sr (.vl (Y.ql U U) (.an (.nil ?_)))
 refine .bm U (fun c4=>?_) (fun c4=>?_)
 refine .skip (.aO U (.sr (.an (.nil (.ret ?_)))))
 exact .ri rfl (by simp only [cd]; omega)
 refine .sr (.vl (Y.ql U U) (.an (.nil ?_)))
 refine .bm U (fun c4=>?_) (fun c4=>?_)
 refine .skip (.aO U (.sr (.an (.nil (.ret ?_)))))
 exact .ri rfl (by simp only [cd]; omega)
 refine .sr (.vl (Y.ql U U) (.an (.nil ?_)))
 refine .bm U (fun c4=>?_) (fun c4=>?_)
 refine .skip (.aO U (.sr (.an (.nil (.ret ?_)))))
 exact .ri rfl (by simp only [cd]; omega)
 refine .sr (.vl (Y.ql U U) (.an (.nil ?_)))
 refine .bm U (fun c4=>?_) (fun c4=>?_)
 refine .skip (.aO U (.sr (.an (.nil (.ret ?_)))))
 exact .ri rfl (by simp only [cd]; omega)
 refine .sr (.vl (Y.ql U U) (.an (.nil ?_)))
 refine .bm U (fun c4=>?_) (fun c4=>?_)
 refine .skip (.aO U (.sr (.an (.nil (.ret ?_)))))
 exact .ri rfl (by simp only [cd]; omega)
 refine .sr (.vl (Y.ql U U) (.an (.nil ?_)))
 refine .bm U (fun c4=>?_) (fun c4=>?_)
 refine .skip (.aO U (.sr (.an (.nil (.ret ?_)))))
 exact .ri rfl (by simp only [cd]; omega)
 refine .sr (.vl (Y.ql U U) (.an (.nil ?_)))
 refine .bm U (fun c4=>?_) (fun c4=>?_)
 refine .skip (.aO U (.sr (.an (.nil (.ret ?_)))))
 exact .ri rfl (by simp only [cd]; omega)
 refine .sr (.vl (Y.ql U U) (.an (.nil ?_)))
 refine .bm U (fun c4=>?_) (fun c4=>?_)
 refine .skip (.aO U (.sr (.an (.nil (.ret ?_)))))
 exact .ri rfl (by simp only [cd]; omega)
 refine .sr (.vl (Y.ql U U) (.an (.nil ?_)))
 refine .bm U (fun c4=>?_) (fun c4=>?_)
 refine .skip (.aO U (.sr (.an (.nil (.ret ?_)))))
 exact .ri rfl (by simp only [cd]; omega)
 refine .sr (.vl (Y.ql U U) (.an (.nil ?_)))
 refine .bm U (fun c4=>?_) (fun c4=>?_)
 refine .skip (.aO U (.sr (.an (.nil (.ret ?_)))))
 exact .ri rfl (by simp only [cd]; omega)
 refine .sr (.vl (Y.ql U U) (.an (.nil ?_)))
 refine .bm U (fun c4=>?_) (fun c4=>?_)
 refine .skip (.aO U (.sr (.an (.nil (.ret ?_)))))
 exact .ri rfl (by simp only [cd]; omega)
 refine .sr (.vl (Y.ql U U) (.an (.nil ?_)))
 refine .bm U (fun c4=>?_) (fun c4=>?_)
 refine .skip (.aO U (.sr (.an (.nil (.ret ?_)))))
 exact .ri rfl (by simp only [cd]; omega)
 refine .region (.vl (Y.ql U U) (.an (.nil ?_)))
 refine .bm U (fun c4=>?_) (fun c4=>?_)
 refine .sr (.an (.nil (.ret ?_)))
 exact .ri rfl (by simp only [cd]; omega)
 refine .sr (.vl (Y.ql U U) (.an (.nil ?_)))
 refine .aA U (fun vD=>?_) (fun vD=>?_)
 refine .sr (.an (.nil (.ret ?_)))
 exact .ri rfl (by simp only [cd]; omega)
 refine .seq (.sr (.vl (Y.ql U U) (.an (.nil ?_))))
 refine .bm U (fun Fb=>?_) (fun Fb=>?_)
 refine .skip (.aO U (.sr (.an (.nil (.ret ?_)))))
 exact .ri rfl (by simp only [cd]; omega)
 refine .sr (.vl (Y.ql U U) (.an (.nil ?_)))
 refine .bm U (fun Fb=>?_) (fun Fb=>?_)
 refine .skip (.aO U (.sr (.an (.nil (.ret ?_)))))
 exact .ri rfl (by simp only [cd]; omega)
 refine .region (.vl (Y.ql U U) (.an (.nil ?_)))
 refine .bm U (fun Fb=>?_) (fun Fb=>?_)
 refine .sr (.an (.nil (.ret ?_)))
 exact .ri rfl (by simp only [cd]; omega)
 refine .skip (.sr (.an (.nil (.ret ?_))))
 exact .ri rfl (by simp only [cd]; omega)
open Go Go.AW Go.Proofs
theorem yo{w:Int}:aw Try.prog 190 [vi w] [] [] (fun r o=>r = (vi ((iL w:Nat):Int)) /\ o = []):=by
 refine aw.of Try.func190 U U U (n:=6) ae (aH U) (.sr (.an (.nil (.sr ?_))))
 refine .mv ?_
 refine .vl (Y.ze U U U) (.vl (Y.zg U U U) (.an (.nil (.ret ?_))))
 exact .ri rfl (by unfold iL; (repeat' split) <;> omega)
theorem yp{w:Int}:aw Try.prog 118 [vi w] [] [] (fun r o=>r = (vi ((iL w:Nat):Int)) /\ o = []):=by
 refine aw.of Try.func118 U U U (n:=6) ae (aH U) (.sr (.an (.nil (.sr ?_))))
 refine .mv ?_
 refine .vl (Y.ze U U U) (.vl (Y.zg U U U) (.an (.nil (.ret ?_))))
 exact .ri rfl (by unfold iL; (repeat' split) <;> omega)
theorem CP{w:Int}:aw Try.prog 167 [vi w] [] [] (fun r o=>r = .v (.int .u64 ((2 ^ iL w - 1:Nat):Int)) /\ o = []):=by
 refine aw.of Try.func167 U U U (n:=10) ae (aH U) ?_
 have hl:=nW w
 refine .sr (.an ?_)
 refine .nil (.seq (.sr (.mv ?_)))
 refine .aZ OA (yo (w:=w)) U (.aj U U .nil) ae U ?_
 refine .an (.nil (.sr ?_))
 refine .mv ?_
 refine .vl (Y.ql U U) (.nil (.aA U (fun c6=>?_) (fun c6=>?_)))
 refine .sr (.an (.nil (.ret ?_)))
 exact .ri rfl (by rw [show iL w = 0 by omega]; rfl)
 refine .skip (.sr (.mv ?_))
 refine .vl (Y.wc U U aG) (.vl (Y.zx (a:=18446744073709551615) ((64 - ((iL w:Nat):Int)).toNat) U U om om) (.an (.nil (.ret ?_))))
 exact .ri rfl (by rw [show ((64:Int) - ((iL w:Nat):Int)).toNat = 64 - iL w by omega,HJ])
theorem km{w:Int}{x:Nat}(hx:x < 18446744073709551616):aw Try.prog 117 [vi w,.v (.int .u64 (x:Int))] [] [] (fun r o=>r = .v (.int .u64 ((gK w x:Nat):Int)) /\ o = []):=by
 refine aw.of Try.func117 U U U (n:=9) ae (aH U) ?_
 have hm:=HK w
 refine .sr (.an (.nil (.sr ?_)))
 refine .mv ?_
 refine .mv ?_
 refine .aZ O4 (CP (w:=w)) U (.aj U U .nil) ae U (.vl (Y.qe (a:=x) (b:=(2 ^ iL w - 1)) U U om) (.an (.nil (.ret ?_))))
 exact .ri rfl (by rw [Ex])
theorem uI{w:Int}:aw Try.prog 189 [vi w] [] [] (fun r o=>r = .v (.bool (decide (jY w))) /\ o = []):=by
 refine aw.of Try.func189 U U U (n:=9) ae (aH U) (.sr (.an (.nil (.sr ?_))))
 refine .mv ?_
 refine .vl (Y.qq U U) (.mv ?_)
 refine .aC (d:=5) U (fun c5=>?_) (fun c5=>?_)
 refine .gw 5 (Y.zh U U) (.gw 5 (Y.qz U U) (.pk ?_))
 refine .an (.nil (.ret ?_))
 exact .rb rfl (dd (by (simp only [jY]) <;> (first | omega | grind)))
 refine .gz 5 (.gz 5 (.pk ?_))
 refine .an (.nil (.ret ?_))
 exact .rb rfl (df (by (simp only [jY]) <;> (first | omega | grind)))
theorem mL{w:Int}:aw Try.prog 42 [vi w] [] [] (fun r o=>r = .v (.bool (decide (jY w))) /\ o = []):=by
 refine aw.of Try.func42 U U U (n:=9) ae (aH U) (.sr (.an (.nil (.sr ?_))))
 refine .mv ?_
 refine .vl (Y.qq U U) (.mv ?_)
 refine .aC (d:=5) U (fun c5=>?_) (fun c5=>?_)
 refine .gw 5 (Y.zh U U) (.gw 5 (Y.qz U U) (.pk ?_))
 refine .an (.nil (.ret ?_))
 exact .rb rfl (dd (by (simp only [jY]) <;> (first | omega | grind)))
 refine .gz 5 (.gz 5 (.pk ?_))
 refine .an (.nil (.ret ?_))
 exact .rb rfl (df (by (simp only [jY]) <;> (first | omega | grind)))
theorem An{w:Int}:aw Try.prog 88 [vi w] [] [] (fun r o=>r = .v (.bool (decide (Unary w))) /\ o = []):=by
 refine aw.of Try.func88 U U U (n:=13) ae (aH U) (.sr (.an (.nil (.sr ?_))))
 refine .mv ?_
 refine .vl (Y.ql U U) (.mv ?_)
 refine .aC (d:=5) U (fun c5=>?_) (fun c5=>?_)
 refine .gz 5 (.gz 5 (.pk ?_))
 refine .mv ?_
 refine .gz 9 (.gz 9 (.pk ?_))
 refine .an (.nil (.ret ?_))
 exact .rb rfl (dt (by (simp only [Unary]) <;> (first | omega | grind)))
 refine .gw 5 (Y.zh U U) (.gw 5 (Y.ql U U) (.pk ?_))
 refine .mv ?_
 refine .aC (d:=9) U (fun c9=>?_) (fun c9=>?_)
 refine .gz 9 (.gz 9 (.pk ?_))
 refine .an (.nil (.ret ?_))
 exact .rb rfl (dt (by (simp only [Unary]) <;> (first | omega | grind)))
 refine .gw 9 (Y.zh U U) (.gw 9 (Y.ql U U) (.pk ?_))
 refine .an (.nil (.ret ?_))
 exact .rb rfl (dd (by (simp only [Unary]) <;> (first | omega | grind)))
theorem pF{w:Int}:aw Try.prog 93 [vi w] [] [] (fun r o=>r = .v (.bool (decide (bR w))) /\ o = []):=by
 refine aw.of Try.func93 U U U (n:=13) ae (aH U) (.sr (.an (.nil (.sr ?_))))
 refine .mv ?_
 refine .vl (Y.ql U U) (.mv ?_)
 refine .aC (d:=5) U (fun c5=>?_) (fun c5=>?_)
 refine .gz 5 (.gz 5 (.pk ?_))
 refine .mv ?_
 refine .gz 9 (.gz 9 (.pk ?_))
 refine .an (.nil (.ret ?_))
 exact .rb rfl (dt (by (simp only [bR]) <;> (first | omega | grind)))
 refine .gw 5 (Y.zh U U) (.gw 5 (Y.ql U U) (.pk ?_))
 refine .mv ?_
 refine .aC (d:=9) U (fun c9=>?_) (fun c9=>?_)
 refine .gz 9 (.gz 9 (.pk ?_))
 refine .an (.nil (.ret ?_))
 exact .rb rfl (dt (by (simp only [bR]) <;> (first | omega | grind)))
 refine .gw 9 (Y.zh U U) (.gw 9 (Y.ql U U) (.pk ?_))
 refine .an (.nil (.ret ?_))
 exact .rb rfl (dd (by (simp only [bR]) <;> (first | omega | grind)))
theorem rO{w:Int}:aw Try.prog 100 [vi w] [] [] (fun r o=>r = .v (.bool (decide (bR w))) /\ o = []):=by
 refine aw.of Try.func100 U U U (n:=13) ae (aH U) (.sr (.an (.nil (.sr ?_))))
 refine .mv ?_
 refine .vl (Y.ql U U) (.mv ?_)
 refine .aC (d:=5) U (fun c5=>?_) (fun c5=>?_)
 refine .gz 5 (.gz 5 (.pk ?_))
 refine .mv ?_
 refine .gz 9 (.gz 9 (.pk ?_))
 refine .an (.nil (.ret ?_))
 exact .rb rfl (dt (by (simp only [bR]) <;> (first | omega | grind)))
 refine .gw 5 (Y.zh U U) (.gw 5 (Y.ql U U) (.pk ?_))
 refine .mv ?_
 refine .aC (d:=9) U (fun c9=>?_) (fun c9=>?_)
 refine .gz 9 (.gz 9 (.pk ?_))
 refine .an (.nil (.ret ?_))
 exact .rb rfl (dt (by (simp only [bR]) <;> (first | omega | grind)))
 refine .gw 9 (Y.zh U U) (.gw 9 (Y.ql U U) (.pk ?_))
 refine .an (.nil (.ret ?_))
 exact .rb rfl (dd (by (simp only [bR]) <;> (first | omega | grind)))
open Go Go.AW Go.Proofs
theorem CQ{w:Int}{x:Nat}(hx:x < 18446744073709551616):aw Try.prog 81 [vi w,.v (.int .u64 (x:Int))] [] [] (fun r o=>r = .dH 1 ((jX (iL w) x).map ah) /\ o = []):=by
 refine aw.of Try.func81 U U U (n:=22) ae (aH U) ?_
 have hl:=nW w
 refine .sr (.an (.nil (.sr ?_)))
 refine .an ?_
 refine .sh (Sh.nil (d:=5) 105 1 U ae) (.nil (.seq (.sr (.an (.nil (.block ?_))))))
 refine .eh (fun (tL:Nat) (uJ:Nat) (bf:List Int)=>⟨[(0,vi w),(1,.v (.int .u64 (tL:Int))),(5,.aL 105 1 0 bf.length),(6,vi uJ)],[(105,.rows 1 (bf.map ah))]⟩) (fun tL uJ bf=>((uJ:Int) <= ((iL w:Nat):Int)) /\ (bf.length = uJ) /\ (bf = jX uJ x) /\ (tL = x / 2 ^ uJ) /\ (tL < 18446744073709551616)) (fun tL uJ bf=>(((iL w:Nat):Int) - (uJ:Int)).toNat) x 0 ([]:List Int) (⟨mz,U,U,by simp,hx⟩) (Le.mk (.c (.cons (ak U bc) (.cons (aN U aG) (.cons (ak U bc) .nil)))) (.c .nil)) (fun tL uJ bf qR=>?_)
 obtain ⟨Fc,hlen,hb,hv,hm⟩:=qR
 refine .seq (.sr (.mv ?_))
 refine .mv ?_
 refine .aZ Ov (yp (w:=w)) U (.aj U U .nil) ae U (.vl (Y.zc U U) (.nil (.aA U (fun Ts=>?_) (fun Ts=>?_))))
 refine .skip (.seq (.block (.sr (.mv ?_))))
 refine .mv ?_
 refine .vl (Y.zu (a:=tL) (b:=2) U U om) (.vl (Y.qk yb sD U zT) (.buildSlice (([((tL % 2:Nat):Int)]:List Int).map ah) a7 dD U U U U U (aq (s:=1) (f:=ah) (fun _=>U)) U U U ae ?_))
 refine .cL ah (bf ++ ([((tL % 2:Nat):Int)]:List Int)) a7 dD U U U U (bg aG) (aR aG) (bz aG) aG aG ae ae ?_
 refine .an (.nil (.region ?_))
 refine .mv ?_
 refine .vl (Y.zr (a:=tL) (b:=2) U U om) (.an (.nil (.region ?_)))
 refine .mv ?_
 refine .vl (Y.qb U U aG) (.an ?_)
 refine .nil (⟨tL / 2,uJ + 1,bf ++ ([((tL % 2:Nat):Int)]:List Int),⟨om,by simp; omega,by rw [hb,zW,hv],by rw [hv,Nat.div_div_eq_div_mul,Nat.pow_succ],om⟩,om,Le.mk (.c (.cons (ak U bc) (.cons (aN U om) (.cons (ak U bc) .nil)))) (.c .nil)⟩)
 refine .exit (.sr (.mv ?_))
 refine .an ?_
 exact .sh (Sh.dA (d:=4) (o:=105) U U (aU om) ae) (.nil (.ret ⟨_,_,U,U,(Em (fun (z0:List Int)=>X.dH 1 (z0.map ah)) (by rw [hb,show uJ = iL w by omega]:bf = jX (iL w) x):X.dH 1 (bf.map ah) = X.dH 1 ((jX (iL w) x).map ah)),U⟩))
theorem CR{l:List Int}(h1:∀ b ∈ l,0 <= b /\ b <= 1)(h2:l.length <= 64):aw Try.prog 80 [.fz 1 (l.map ah)] [] [] (fun r o=>r = .v (.int .u64 ((gp l:Nat):Int)) /\ o = []):=by
 refine aw.of Try.func80 U U U (n:=21) ae (aH U) (.sr (.an (.nil (.sr ?_))))
 refine .an ?_
 refine .nil (.seq (.sr (.mv ?_)))
 refine .vl (Y.qx (n:=l.length) a7 U fV) (.vl (Y.wc U U aG) (.an (.nil (.block ?_))))
 refine .iD (fun (yq:Nat) (dO:Int)=>⟨[(0,.fz 1 (l.map ah)),(3,.v (.int .u64 (yq:Int))),(4,vi dO)],[]⟩) (fun yq dO=>(-1 <= dO /\ dO < (l.length:Int)) /\ (yq = gp (l.drop (dO + 1).toNat))) (fun yq dO=>(dO + 1).toNat) 0 ((l.length:Int) - 1) (⟨om,by rw [List.drop_eq_nil_of_le om]; rfl⟩) (Le.mk (.c (.cons (ak U bc) (.cons (ak U bc) .nil))) .nil) (fun yq dO qR=>?_)
 obtain ⟨hi,hx⟩:=qR
 refine .seq (.sr (.mv ?_))
 refine .vl (Y.qq U U) (.nil (.aA U (fun c9=>?_) (fun c9=>?_)))
 refine .skip (.seq (.block (.region (.mv ?_))))
 refine .vl (Y.zk (a:=2) (b:=yq) U U) (.mv ?_)
 refine .mv ?_
 refine .vl (Y.qs (m:=(dO).toNat) a7 U U om (ao (d:=0) om)) ?_
 have hb:=h1 _ (bC (l:=l) (i:=dO.toNat) om)
 refine .ld bj ?_
 refine .vl (Y.qj sD yb U (vV _ om)) (.vl (Y.qc (a:=((2 * yq) % 18446744073709551616)) (b:=((l.getD ((dO).toNat) 0).toNat)) U U) (.an (.nil (.region ?_))))
 refine .mv ?_
 refine .vl (Y.wc U U aG) (.an ?_)
 refine .nil (⟨(((2 * yq) % 18446744073709551616) + ((l.getD ((dO).toNat) 0).toNat)) % 18446744073709551616,dO - 1,⟨om,CH h1 h2 om hx⟩,om,Le.mk (.c (.cons (ak U bc) (.cons (ak U bc) .nil))) .nil⟩)
 refine .exit (.sr (.mv ?_))
 refine .an (.nil (.ret ?_))
 exact .ri rfl (by rw [hx,show (dO + 1).toNat = 0 by omega,List.drop_zero])
theorem wy{w:Int}{x:Nat}(hx:x < 18446744073709551616):aw Try.prog 35 [vi w,.v (.int .u64 (x:Int))] [] [] (fun r o=>r = .v (.int .u64 ((gK w x:Nat):Int)) /\ o = []):=by
 refine aw.of Try.func35 U U U (n:=9) ae (aH U) (.sr (.an (.nil (.sr ?_))))
 refine .mv ?_
 refine .mv ?_
 refine .aZ SN (CQ (w:=w) (x:=x) (om)) U (.aj U U (.aj U U .nil)) ae U ?_
 refine .sh (Sh.cG (d:=7) ((jX (iL w) x).map ah) U iJ (cC.map aI)) (.aZ SM (CR (l:=(jX (iL w) x)) (Ey _ _) (by rw [CG]; exact nW _)) U (.aj U U .nil) ae U ?_)
 refine .an (.nil (.ret ?_))
 exact .ri rfl (by rw [zY]; rfl)
open Go Go.AW
structure Gate where
 kind:Int
 a:Int
 b:Int
instance:Inhabited Gate:=⟨⟨0,0,0⟩⟩
def Gate.row(g:Gate):List X:=[.v (.int .i64 g.kind),.v (.int .i64 g.a),.v (.int .i64 g.b)]
theorem Gate.bA(g:Gate):X.bu g.row = true:=rfl
theorem Gate.lP(g:Gate):X.fw g.row:=by simp [Gate.row,X.fw,X.plain]
def lW(i:Nat)(g:Gate):Prop :=
 (1 <= g.kind /\ g.kind <= 7) /\ (if 4 <= g.kind then 0 <= g.a /\ g.a < i else g.a = 0) /\ (if 5 <= g.kind then 0 <= g.b /\ g.b < i else g.b = 0)
def Good(l:List Gate):Prop:=∀ i g,l[i]? = some g -> lW i g
def iZ(l:List Gate):Nat:=l.countP (fun g=>decide (g.kind = 3))
theorem kB(l e:List Gate):iZ (l ++ e) = iZ l + iZ e:=List.countP_append
theorem pG(g:Gate):iZ [g] = if g.kind = 3 then 1 else 0:=by simp [iZ,List.countP_cons]
theorem Ao(l:List Gate):iZ l <= l.length:=List.countP_le_length
theorem Good.nil:Good []:=fun i g h=>by simp at h
theorem Good.snoc{l:List Gate}{g:Gate}(h:Good l)(hg:lW l.length g):Good (l ++ [g]):=by
 intro i q hi
 rcases Nat.lt_or_ge i l.length with h1 | h1
 ·rw [List.getElem?_append_left h1] at hi; exact h i q hi
 ·rw [List.getElem?_append_right h1] at hi
  rcases Nat.eq_zero_or_pos (i - l.length) with h2 | h2
  ·rw [h2] at hi; simp at hi; subst hi
   rwa [show i = l.length by omega]
  ·rw [List.getElem?_eq_none (by simp; omega)] at hi; cases hi
theorem Good.left{l e:List Gate}(h:Good (l ++ e)):Good l:=fun i g hi=>h i g (by
 have:i < l.length:=(List.getElem?_eq_some_iff.1 hi).1
 rw [List.getElem?_append_left this]; exact hi)
def valOf(out ins:List Bool)(n:Nat)(g:Gate):Bool :=
 if g.kind = 2 then true else if g.kind = 3 then ins.getD n false else if g.kind = 4 then !out.getD g.a.toNat false
 else if g.kind = 5 then out.getD g.a.toNat false && out.getD g.b.toNat false else if g.kind = 6 then out.getD g.a.toNat false || out.getD g.b.toNat false
 else if g.kind = 7 then out.getD g.a.toNat false != out.getD g.b.toNat false else false
def nZ(out ins:List Int)(n:Nat)(g:Gate):Int :=
 if g.kind = 3 then ins.getD n 0 else if g.kind = 4 then out.getD g.a.toNat 0 + 10 else if 5 <= g.kind /\ g.kind <= 7 then max (out.getD g.a.toNat 0) (out.getD g.b.toNat 0) + 20 else 0
section
variable {α:Type} (f:List α -> Nat -> Gate -> α)
def oD(l : List Gate) : Nat → List α
 | 0=>[]
 | i + 1=>oD l i ++ (match l[i]? with | some g=>[f (oD l i) (iZ (l.take i)) g] | none=>[])
theorem jx{l:List Gate}{i:Nat}{q:Gate}(hg:l[i]? = some q):oD f l (i + 1) = oD f l i ++ [f (oD f l i) (iZ (l.take i)) q]:=by
 simp [oD,hg]
theorem jy{l : List Gate} : ∀ {i : Nat}, i ≤ l.length → (oD f l i).length = i
 | 0,_=>rfl
 | i + 1,h=>by
  rw [jx f (List.getElem?_eq_getElem (show i < l.length by omega)),List.length_append,jy om]; rfl
theorem uK{l e : List Gate} : ∀ {i : Nat}, i ≤ l.length → oD f (l ++ e) i = oD f l i
 | 0,_=>rfl
 | i + 1,h=>by
  have hg:l[i]? = some l[i]:=List.getElem?_eq_getElem (show i < l.length by omega)
  have Y2:(l ++ e)[i]? = some l[i]:=by rw [List.getElem?_append_left om]; exact hg
  rw [jx f hg,jx f Y2,uK om,List.take_append_of_le_length om]
theorem sI{l:List Gate}{g:Gate}:oD f (l ++ [g]) (l.length + 1) = oD f l l.length ++ [f (oD f l l.length) (iZ l) g]:=by
 rw [jx f (q:=g) (by simp),uK f (Nat.le_refl _),List.take_append_of_le_length (Nat.le_refl _),List.take_length]
end
def outs(l:List Gate)(ins:List Bool)(i:Nat):List Bool:=oD (fun o n g=>valOf o ins n g) l i
def fT(l:List Gate)(ins:List Int)(i:Nat):List Int:=oD (fun o n g=>nZ o ins n g) l i
def val(l:List Gate)(ins:List Bool)(i:Int):Bool:=(outs l ins l.length).getD i.toNat false
def CS(c:Int)(l:List Gate)(i:Int):Int:=(fT l (List.replicate (iZ l) c) l.length).getD i.toNat 0
theorem CT{o ins yr:List Int}{n:Nat}{g:Gate}(h:g.kind = 3 -> ins.getD n 0 = yr.getD n 0):nZ o ins n g = nZ o yr n g:=by
 unfold nZ
 by_cases h3:g.kind = 3
 ·rw [if_pos h3,if_pos h3,h h3]
 ·rw [if_neg h3,if_neg h3]
theorem Pn{o ins yr:List Int}{n n':Nat}{g:Gate}(h:g.kind ≠ 3):nZ o ins n g = nZ o yr n' g:=by
 unfold nZ
 rw [if_neg h,if_neg h]
theorem tq{l : List Gate}{ins yr : List Int}(h : ∀ k, k < iZ l → ins.getD k 0 = yr.getD k 0) : ∀ {i : Nat}, i ≤ l.length → fT l ins i = fT l yr i
 | 0,_=>rfl
 | i + 1,hi=>by
  have hg:l[i]? = some l[i]:=List.getElem?_eq_getElem (show i < l.length by omega)
  have ih:=tq h (i:=i) om
  unfold fT at ih ⊢
  rw [jx _ hg,jx _ hg,ih]
  congr 2
  refine CT fun h3=>h _ ?_
  have h1:iZ l = iZ (l.take i) + iZ (l.drop i):=by rw [<- kB,List.take_append_drop]
  have h2:1 <= iZ (l.drop i):=by
   have h4:l.drop i = [l[i]] ++ l.drop (i + 1):=List.drop_eq_getElem_cons (show i < l.length by omega)
   rw [h4,kB,pG,if_pos h3]; omega
  omega
theorem uL{n k:Nat}{c:Int}(h:k < n):(List.replicate n c).getD k 0 = c:=by
 rw [List.getD_eq_getElem?_getD,List.getElem?_replicate,if_pos h]; rfl
theorem yt{α : Type}{l : List Gate}{f : List α → Nat → Gate → α}{i j : Nat}(hi : i < j) : ∀ {m : Nat}, j ≤ m → m ≤ l.length → (oD f l m)[i]? = (oD f l j)[i]?
 | 0,h,_=>by omega
 | m + 1,h,hl=>by
  rcases Nat.lt_or_ge m j with h1 | h1
  ·rw [show m + 1 = j by omega]
  ·rw [jx f (List.getElem?_eq_getElem (show m < l.length by omega)),List.getElem?_append_left (by rw [jy f om]; omega)]
   exact yt hi h1 om
theorem wz{α:Type}{l:List Gate}{f:List α -> Nat -> Gate -> α}{e:List Gate}{i:Nat}{d:α}(h:i < l.length):(oD f (l ++ e) (l ++ e).length).getD i d = (oD f l l.length).getD i d:=by
 rw [List.getD_eq_getElem?_getD,List.getD_eq_getElem?_getD,yt (j:=l.length) h (by simp) (Nat.le_refl _),uK f (Nat.le_refl _)]
theorem BO{l e:List Gate}{ins:List Bool}{i:Int}(h0:0 <= i)(h:i < l.length):val (l ++ e) ins i = val l ins i:=wz om
theorem BP{l e:List Gate}{c i:Int}(h0:0 <= i)(h:i < l.length):CS c (l ++ e) i = CS c l i:=by
 unfold CS
 have h1:(fT (l ++ e) (List.replicate (iZ (l ++ e)) c) (l ++ e).length).getD i.toNat 0 = (fT l (List.replicate (iZ (l ++ e)) c) l.length).getD i.toNat 0:=wz om
 rw [h1,tq (yr:=List.replicate (iZ l) c) (fun k hk=>by rw [uL (by rw [kB]; omega),uL hk]) (Nat.le_refl _)]
theorem lB{α:Type}{l:List α}{x d:α}{n:Nat}(h:n = l.length):(l ++ [x]).getD n d = x:=by subst h; simp
theorem val_last{l:List Gate}{g:Gate}{ins:List Bool}:val (l ++ [g]) ins (l.length:Int) = valOf (outs l ins l.length) ins (iZ l) g:=by
 unfold val outs
 rw [List.length_append,List.length_singleton,sI,Int.toNat_natCast]
 exact lB (jy _ (Nat.le_refl _)).symm
theorem Fe{l:List Gate}{g:Gate}{c:Int}(h:g.kind ≠ 3):CS c (l ++ [g]) (l.length:Int) = nZ (fT l (List.replicate (iZ l) c) l.length) [] 0 g:=by
 have h1:iZ (l ++ [g]) = iZ l:=by rw [kB,pG,if_neg h]; omega
 unfold CS fT
 rw [h1,List.length_append,List.length_singleton,sI,Int.toNat_natCast,lB (jy _ (Nat.le_refl _)).symm]
 exact Pn h
open Go Go.AW
structure Ext(l l':List Gate):Prop where
 ex:∃ e,l' = l ++ e /\ ∀ g ∈ e,g.kind ≠ 3
 dP:Good l'
theorem Ext.refl{l:List Gate}(h:Good l):Ext l l:=⟨⟨[],by simp,by simp⟩,h⟩
theorem Ext.trans{l l' WJ:List Gate}(h:Ext l l')(h':Ext l' WJ):Ext l WJ:=by
 obtain ⟨e,he,hk⟩:=h.ex
 obtain ⟨e',Y3,Bq⟩:=h'.ex
 refine ⟨⟨e ++ e',by rw [Y3,he,List.append_assoc],fun g hg=>?_⟩,h'.dP⟩
 rcases List.mem_append.1 hg with h1 | h1
 ·exact hk g h1
 ·exact Bq g h1
theorem Ext.one{l:List Gate}{g:Gate}(h:Good l)(hg:lW l.length g)(hk:g.kind ≠ 3):Ext l (l ++ [g]) :=
 ⟨⟨[g],rfl,fun x hx=>by rw [List.mem_singleton.1 hx]; exact hk⟩,h.snoc hg⟩
theorem Ext.len{l l':List Gate}(h:Ext l l'):l.length <= l'.length:=by obtain ⟨e,rfl,_⟩:=h.ex; simp
theorem yu : ∀ {e : List Gate}, (∀ g ∈ e, g.kind ≠ 3) → iZ e = 0
 | [],_=>rfl
 | g :: e,h=>by
  have h1:iZ (g :: e) = iZ [g] + iZ e:=kB [g] e
  rw [h1,pG,if_neg (h g (by simp)),yu (fun x hx=>h x (by simp [hx]))]
theorem Ext.iZ{l l':List Gate}(h:Ext l l'):iZ l' = iZ l:=by
 obtain ⟨e,rfl,hk⟩:=h.ex
 rw [kB,yu hk]; omega
structure Wr(c:Int)(l:List Gate)(i:Int)(f:List Bool -> Bool)(t:Int):Prop where
 lo:0 <= i
 hi:i < l.length
 v:∀ ins,val l ins i = f ins
 t:CS c l i <= t
theorem Wr.ext{c:Int}{l l':List Gate}{i:Int}{f:List Bool -> Bool}{t:Int}(h:Wr c l i f t)(he:Ext l l'):Wr c l' i f t:=by
 have hl:=he.len
 obtain ⟨e,rfl,_⟩:=he.ex
 exact ⟨h.lo,by have:=h.hi; omega,fun ins=>by rw [BO h.lo h.hi]; exact h.v ins,by rw [BP h.lo h.hi]; exact h.t⟩
theorem Wr.late{c:Int}{l:List Gate}{i:Int}{f:List Bool -> Bool}{t t':Int}(h:Wr c l i f t)(ht:t <= t'):Wr c l i f t':=⟨h.lo,h.hi,h.v,by have:=h.t; omega⟩
theorem Wr.as{c:Int}{l:List Gate}{i:Int}{f f':List Bool -> Bool}{t:Int}(h:Wr c l i f t)(hf:∀ ins,f ins = f' ins):Wr c l i f' t:=⟨h.lo,h.hi,fun ins=>by rw [h.v,hf],h.t⟩
section
variable {c:Int} {l:List Gate} {a b:Int} {f g:List Bool -> Bool} {s t u:Int}
theorem Wr.last{g:Gate}{h:List Bool -> Bool}(hk:g.kind ≠ 3)(hv:∀ ins,valOf (outs l ins l.length) ins (iZ l) g = h ins)(ht:nZ (fT l (List.replicate (iZ l) c) l.length) [] 0 g <= u):Wr c (l ++ [g]) (l.length:Int) h u :=
 ⟨om,by simp; omega,fun ins=>by rw [val_last]; exact hv ins,by rw [Fe hk]; exact ht⟩
theorem Wr.and(ha:Wr c l a f s)(hb:Wr c l b g t)(hs:s + 20 <= u)(ht:t + 20 <= u):Wr c (l ++ [⟨5,a,b⟩]) (l.length:Int) (fun ins=>f ins && g ins) u:=by
 refine Wr.last (by simp) (fun ins=>?_) ?_
 ·have h1:=ha.v ins; have h2:=hb.v ins; unfold val at h1 h2
  simp only [valOf,h1,h2]; rfl
 ·have h1:=ha.t; have h2:=hb.t; unfold CS at h1 h2
  simp only [nZ]; rw [if_neg ae,if_neg ae,if_pos ae]; omega
theorem Wr.or(ha:Wr c l a f s)(hb:Wr c l b g t)(hs:s + 20 <= u)(ht:t + 20 <= u):Wr c (l ++ [⟨6,a,b⟩]) (l.length:Int) (fun ins=>f ins || g ins) u:=by
 refine Wr.last (by simp) (fun ins=>?_) ?_
 ·have h1:=ha.v ins; have h2:=hb.v ins; unfold val at h1 h2
  simp only [valOf,h1,h2]; rfl
 ·have h1:=ha.t; have h2:=hb.t; unfold CS at h1 h2
  simp only [nZ]; rw [if_neg ae,if_neg ae,if_pos ae]; omega
theorem Wr.xor(ha:Wr c l a f s)(hb:Wr c l b g t)(hs:s + 20 <= u)(ht:t + 20 <= u):Wr c (l ++ [⟨7,a,b⟩]) (l.length:Int) (fun ins=>f ins ^^ g ins) u:=by
 refine Wr.last (by simp) (fun ins=>?_) ?_
 ·have h1:=ha.v ins; have h2:=hb.v ins; unfold val at h1 h2
  simp only [valOf,h1,h2]
  cases f ins <;> cases g ins <;> rfl
 ·have h1:=ha.t; have h2:=hb.t; unfold CS at h1 h2
  simp only [nZ]; rw [if_neg ae,if_neg ae,if_pos ae]; omega
theorem Wr.not(ha:Wr c l a f s)(hs:s + 10 <= u):Wr c (l ++ [⟨4,a,0⟩]) (l.length:Int) (fun ins=>!f ins) u:=by
 refine Wr.last (by simp) (fun ins=>?_) ?_
 ·have h1:=ha.v ins; unfold val at h1
  simp only [valOf,h1]; rfl
 ·have h1:=ha.t; unfold CS at h1
  simp only [nZ]; rw [if_neg ae,if_pos ae]; omega
theorem Wr.zero(hu:0 <= u):Wr c (l ++ [⟨1,0,0⟩]) (l.length:Int) (fun _=>false) u:=Wr.last ae (fun ins=>rfl) (by simpa [nZ] using hu)
theorem Wr.one(hu:0 <= u):Wr c (l ++ [⟨2,0,0⟩]) (l.length:Int) (fun _=>true) u:=Wr.last ae (fun ins=>rfl) (by simpa [nZ] using hu)
theorem ok_two{k:Int}(hk:5 <= k /\ k <= 7)(ha:Wr c l a f s)(hb:Wr c l b g t):lW l.length ⟨k,a,b⟩ :=
 ⟨⟨by show 1 <= k; omega,hk.2⟩,by rw [if_pos (by show 4 <= k; omega)]; exact ⟨ha.lo,ha.hi⟩,by rw [if_pos hk.1]; exact ⟨hb.lo,hb.hi⟩⟩
theorem Lc(ha:Wr c l a f s):lW l.length ⟨4,a,0⟩:=⟨⟨by simp,by simp⟩,by rw [if_pos (by simp)]; exact ⟨ha.lo,ha.hi⟩,by rw [if_neg (by simp)]⟩
theorem Ff{k:Int}{i:Nat}(hk:1 <= k /\ k <= 3):lW i ⟨k,0,0⟩:=⟨⟨hk.1,by show k <= 7; omega⟩,by rw [if_neg (by show ¬ 4 <= k; omega)],by rw [if_neg (by show ¬ 5 <= k; omega)]⟩
theorem Ext.two{k:Int}(hg:Good l)(hk:5 <= k /\ k <= 7)(ha:Wr c l a f s)(hb:Wr c l b g t):Ext l (l ++ [⟨k,a,b⟩]):=Ext.one hg (ok_two hk ha hb) (by show k ≠ 3; omega)
theorem Ext.not(hg:Good l)(ha:Wr c l a f s):Ext l (l ++ [⟨4,a,0⟩]):=Ext.one hg (Lc ha) (by simp)
theorem Ext.MB{k:Int}(hg:Good l)(hk:1 <= k /\ k <= 2):Ext l (l ++ [⟨k,0,0⟩]):=Ext.one hg (Ff ⟨hk.1,om⟩) (by show k ≠ 3; omega)
end
structure Wd(c:Int)(l:List Gate)(a:List Int)(w:Nat)(N:List Bool -> BitVec w)(t:Int):Prop where
 len:a.length = w
 bit:∀ k,k < w -> Wr c l (a.getD k 0) (fun ins=>(N ins).getLsbD k) t
theorem Wd.ext{c:Int}{l l':List Gate}{a:List Int}{w:Nat}{N:List Bool -> BitVec w}{t:Int}(h:Wd c l a w N t)(he:Ext l l'):Wd c l' a w N t:=⟨h.len,fun k hk=>(h.bit k hk).ext he⟩
theorem Wd.late{c:Int}{l:List Gate}{a:List Int}{w:Nat}{N:List Bool -> BitVec w}{t t':Int}(h:Wd c l a w N t)(ht:t <= t'):Wd c l a w N t':=⟨h.len,fun k hk=>(h.bit k hk).late ht⟩
structure Ws(c:Int)(l:List Gate)(a:List Int)(f:Nat -> List Bool -> Bool)(t:Int):Prop where
 bit:∀ k,k < a.length -> Wr c l (a.getD k 0) (f k) t
theorem Ws.nil{c:Int}{l:List Gate}{f:Nat -> List Bool -> Bool}{t:Int}:Ws c l [] f t:=⟨fun k hk=>by simp at hk⟩
theorem Ws.ext{c:Int}{l l':List Gate}{a:List Int}{f:Nat -> List Bool -> Bool}{t:Int}(h:Ws c l a f t)(he:Ext l l'):Ws c l' a f t:=⟨fun k hk=>(h.bit k hk).ext he⟩
theorem Ws.snoc{c:Int}{l:List Gate}{a:List Int}{x:Int}{f:Nat -> List Bool -> Bool}{t:Int}(h:Ws c l a f t)(hx:Wr c l x (f a.length) t):Ws c l (a ++ [x]) f t:=⟨fun k hk=>by
 rcases Nat.lt_or_ge k a.length with h1 | h1
 ·rw [List.getD_eq_getElem?_getD,List.getElem?_append_left h1,<- List.getD_eq_getElem?_getD]; exact h.bit k h1
 ·have:k = a.length:=by simp at hk; omega
  subst this; rw [lB rfl]; exact hx⟩
theorem Ws.late{c:Int}{l:List Gate}{a:List Int}{f:Nat -> List Bool -> Bool}{t t':Int}(h:Ws c l a f t)(ht:t <= t'):Ws c l a f t':=⟨fun k hk=>(h.bit k hk).late ht⟩
theorem Ws.as{c:Int}{l:List Gate}{a:List Int}{f f':Nat -> List Bool -> Bool}{t:Int}(h:Ws c l a f t)(hf:∀ k,k < a.length -> ∀ ins,f k ins = f' k ins):Ws c l a f' t:=⟨fun k hk=>(h.bit k hk).as (hf k hk)⟩
theorem Wd.ws{c:Int}{l:List Gate}{a:List Int}{w:Nat}{N:List Bool -> BitVec w}{t:Int}(h:Wd c l a w N t):Ws c l a (fun k ins=>(N ins).getLsbD k) t:=⟨fun k hk=>h.bit k (by have:=h.len; omega)⟩
theorem Ws.wd{c:Int}{l:List Gate}{a:List Int}{w:Nat}{f:Nat -> List Bool -> Bool}{N:List Bool -> BitVec w}{t:Int}(h:Ws c l a f t)(hl:a.length = w)(hf:∀ k,k < w -> ∀ ins,f k ins = (N ins).getLsbD k):Wd c l a w N t :=
 ⟨hl,fun k hk=>(h.bit k om).as (hf k hk)⟩
open Go Go.AW
def ca(G P : Nat → Bool)(j : Nat) : Nat → Bool → Bool
 | 0,z=>z
 | k + 1,z=>G (j + k) || (P (j + k) && ca G P j k z)
def pp(P : Nat → Bool)(j : Nat) : Nat → Bool
 | 0=>true
 | k + 1=>P (j + k) && pp P j k
theorem JN{G P : Nat → Bool}{j : Nat}{z : Bool} : ∀ k, ca G P j k z = (ca G P j k false || (pp P j k && z))
 | 0=>by simp [ca,pp]
 | k + 1=>by
  simp only [ca,pp]
  rw [JN k]
  cases G (j + k) <;> cases P (j + k) <;> cases pp P j k <;> cases ca G P j k false <;> cases z <;> rfl
theorem Fg{G P : Nat → Bool}{j k : Nat}{z : Bool} : ∀ m, ca G P j (k + m) z = ca G P (j + k) m (ca G P j k z)
 | 0=>rfl
 | m + 1=>by
  show (G (j + (k + m)) || (P (j + (k + m)) && ca G P j (k + m) z)) = _
  rw [Fg m,<- Nat.add_assoc]; rfl
theorem Fh{P : Nat → Bool}{j k : Nat} : ∀ m, pp P j (k + m) = (pp P (j + k) m && pp P j k)
 | 0=>by simp [pp]
 | m + 1=>by
  show (P (j + (k + m)) && pp P j (k + m)) = _
  rw [Fh m,<- Nat.add_assoc]
  simp only [pp,Bool.and_assoc]
theorem rP{G P G' P' : Nat → Bool}{z : Bool} : ∀ {k}, (∀ i, i < k → G i = G' i) → (∀ i, i < k → P i = P' i) → ca G P 0 k z = ca G' P' 0 k z
 | 0,_,_=>rfl
 | k + 1,hg,hp=>by
  simp only [ca,Nat.zero_add]
  rw [hg k om,hp k om,rP (fun i hi=>hg i om) (fun i hi=>hp i om)]
def gen(G P:Nat -> Bool)(d i:Nat):Bool:=ca G P (i + 1 - d) (i + 1 - (i + 1 - d)) false
theorem Ic{G P:Nat -> Bool}{i:Nat}:gen G P 1 i = G i:=by
 unfold gen
 rw [show i + 1 - 1 = i by omega,show i + 1 - i = 1 by omega]
 simp [ca]
theorem wX{G P:Nat -> Bool}{d i:Nat}(h:i < d):gen G P d i = ca G P 0 (i + 1) false:=by
 unfold gen
 rw [show i + 1 - d = 0 by omega]; rfl
theorem BQ{G P:Nat -> Bool}{d i:Nat}(h:d <= i):gen G P (2 * d) i = (gen G P d i || (pp P (i + 1 - d) d && gen G P d (i - d))):=by
 unfold gen
 rw [show i + 1 - (i + 1 - d) = d by omega,<- JN]
 have h1:i - d + 1 - d = i + 1 - 2 * d:=by omega
 have h2:i + 1 - (i + 1 - 2 * d) = (i - d + 1 - (i - d + 1 - d)) + d:=by omega
 rw [h2,Fg,h1,show i + 1 - 2 * d + (i - d + 1 - (i + 1 - 2 * d)) = i + 1 - d by omega]
theorem Fi{G P:Nat -> Bool}{d i:Nat}(h:i < d):gen G P (2 * d) i = gen G P d i:=by
 rw [wX h,wX om]
theorem Ld{P:Nat -> Bool}{d i:Nat}(h:2 * d <= i + 1):pp P (i + 1 - 2 * d) (2 * d) = (pp P (i + 1 - d) d && pp P (i - d + 1 - d) d):=by
 rw [Nat.two_mul,Fh,show i + 1 - (d + d) + d = i + 1 - d by omega,show i - d + 1 - d = i + 1 - (d + d) by omega]
theorem uM{w : Nat}{x y : BitVec w}{z : Bool} : ∀ n, ca (fun i => x.getLsbD i && y.getLsbD i) (fun i => x.getLsbD i ^^ y.getLsbD i) 0 n z = BitVec.carry n x y z
 | 0=>by simp [ca,BitVec.carry_zero]
 | n + 1=>by
  simp only [ca,Nat.zero_add]
  rw [uM n,BitVec.carry_succ]
  cases x.getLsbD n <;> cases y.getLsbD n <;> cases BitVec.carry n x y z <;> rfl
theorem Ie{w:Nat}{x y:BitVec w}{i:Nat}(h:i < w):(x + y).getLsbD i = ((x.getLsbD i ^^ y.getLsbD i) ^^ ca (fun i=>x.getLsbD i && y.getLsbD i) (fun i=>x.getLsbD i ^^ y.getLsbD i) 0 i false):=by
 rw [uM,BitVec.getLsbD_add h,Bool.xor_assoc]
def Ig{w:Nat}(x y:BitVec w)(i:Nat):Bool:=if i = 0 then x.getLsbD 0 || !y.getLsbD 0 else x.getLsbD i && !y.getLsbD i
theorem Fj{w : Nat}{x y : BitVec w} : ∀ n, n + 1 ≤ w → ca (Ig x y) (fun i => x.getLsbD i ^^ !y.getLsbD i) 0 (n + 1) false = ca (fun i => x.getLsbD i && (~~~y).getLsbD i) (fun i => x.getLsbD i ^^ (~~~y).getLsbD i) 0 (n + 1) true
 | 0,hw=>by
  simp only [ca,Ig,Nat.add_zero,if_true,BitVec.getLsbD_not,show 0 < w by omega,decide_true,Bool.true_and]
  cases x.getLsbD 0 <;> cases y.getLsbD 0 <;> rfl
 | n + 1,hw=>by
  have h:=Fj (x:=x) (y:=y) n om
  rw [ca,h]
  conv=>rhs; rw [ca]
  simp only [Nat.zero_add,Ig,Nat.add_one_ne_zero,if_false,BitVec.getLsbD_not,show n + 1 < w by omega,decide_true,Bool.true_and]
theorem Ih{w:Nat}{x y:BitVec w}{i:Nat}(h:i < w)(h0:0 < i):(x - y).getLsbD i = ((x.getLsbD i ^^ !y.getLsbD i) ^^ ca (Ig x y) (fun i=>x.getLsbD i ^^ !y.getLsbD i) 0 i false):=by
 obtain ⟨i,rfl⟩:∃ j,i = j + 1:=⟨i - 1,om⟩
 rw [Fj i om,uM,BitVec.sub_eq_add_neg,BitVec.neg_eq_not_add,<- BitVec.add_assoc]
 have h1:=BitVec.getLsbD_add_add_bool h x (~~~y) true
 rw [show BitVec.setWidth w (BitVec.ofBool true) = 1#w by
  apply BitVec.eq_of_toNat_eq; simp] at h1
 rw [h1,BitVec.getLsbD_not]
 simp [show i + 1 < w by omega,Bool.xor_assoc]
theorem Fk{w:Nat}{x y:BitVec w}(h:0 < w):(x - y).getLsbD 0 = (x.getLsbD 0 ^^ y.getLsbD 0):=by
 have h1:=BitVec.getLsbD_add_add_bool h x (~~~y) true
 rw [show BitVec.setWidth w (BitVec.ofBool true) = 1#w by
  apply BitVec.eq_of_toNat_eq; simp] at h1
 rw [BitVec.sub_eq_add_neg,BitVec.neg_eq_not_add,<- BitVec.add_assoc,h1,BitVec.getLsbD_not,BitVec.carry_zero]
 simp only [h,decide_true,Bool.true_and]
 cases x.getLsbD 0 <;> cases y.getLsbD 0 <;> rfl
open Go Go.AW
noncomputable instance (p:nL):Decidable p.Rm:=Classical.propDecidable _
structure o5(n:ab)(de:List Int):Prop where
 len:de.length = n.aa.length
 Ii:∀ w:Int,In w n.aa.length -> bH n (de.getD w.toNat 0) w
def tr(n:ab)(k:Nat)(de:List Int):Prop:=de.length = n.aa.length /\ ∀ j w:Int,bH n j w -> j < k -> de.getD w.toNat 0 = j
theorem tr.done{n:ab}{de:List Int}(hf:bh n)(h:tr n n.cells.length de):o5 n de:=by
 refine ⟨h.1,fun w hw=>?_⟩
 obtain ⟨i,hi⟩:=hf.kg hw
 rw [h.2 i w hi hi.1.2]; exact hi
theorem tr.set{n:ab}{k:Nat}{de:List Int}(hf:bh n)(h:tr n k de)(hk:k < n.cells.length)(h0:(n.cells.getD k default).out ≥ 0):tr n (k + 1) (de.set (n.cells.getD k default).out.toNat (k:Int)):=by
 refine ⟨by rw [List.length_set]; exact h.1,fun j w hd hj=>?_⟩
 have hc:=hf.cells k hk
 have h7:(n.cells.getD k default).kind ≠ 7:=fun e=>by have:=hc.2.2.1 e; omega
 have wY:bH n (k:Int) (n.cells.getD k default).out:=⟨⟨om,om⟩,h7,rfl⟩
 have hw:=hf.fS hd; have BR:=hf.fS wY
 unfold In at hw BR
 rw [bx]
 by_cases e:(n.cells.getD k default).out.toNat = w.toNat /\ (n.cells.getD k default).out.toNat < de.length
 ·rw [if_pos e]
  have e2:(n.cells.getD k default).out = w:=by omega
  exact hf.unique (e2 ▸ wY) hd
 ·rw [if_neg e]
  have fH:j ≠ (k:Int):=by
   rintro rfl
   apply e
   have e2:(n.cells.getD k default).out = w:=hd.2.2
   have:=h.1
   omega
  exact h.2 j w hd om
theorem tr.skip{n:ab}{k:Nat}{de:List Int}(hf:bh n)(h:tr n k de)(h0:¬ (n.cells.getD k default).out ≥ 0):tr n (k + 1) de:=by
 refine ⟨h.1,fun j w hd hj=>?_⟩
 have hw:=hf.fS hd
 unfold In at hw
 have fH:j ≠ (k:Int):=by
  rintro rfl
  have:(n.cells.getD k default).out = w:=hd.2.2
  omega
 exact h.2 j w hd om
structure Po(n:ab)(l:List Int)(k:Nat)(pl:List Int):Prop where
 len:pl.length = n.cells.length
 at_:∀ j,j < k -> pl.getD (l.getD j 0).toNat 0 = (j:Int) + 1
 none_:∀ c:Int,In c n.cells.length -> (∀ j,j < k -> l.getD j 0 ≠ c) -> pl.getD c.toNat 0 = 0
theorem uN{l:List Int}(h:l.Nodup){i j:Nat}(hi:i < l.length)(hj:j < l.length)(e:l.getD i 0 = l.getD j 0):i = j:=by
 rw [List.getD_eq_getElem?_getD,List.getD_eq_getElem?_getD,List.getElem?_eq_getElem hi,List.getElem?_eq_getElem hj] at e
 simp only [Option.getD_some] at e
 rw [List.Nodup,List.pairwise_iff_getElem] at h
 rcases Nat.lt_trichotomy i j with h1 | h1 | h1
 ·exact absurd e (h i j hi hj h1)
 ·exact h1
 ·exact absurd e.symm (h j i hj hi h1)
theorem Po.init(n:ab)(l:List Int):Po n l 0 (List.replicate n.cells.length 0) :=
 ⟨by simp,fun j hj=>by omega,fun c hc _=>by
  unfold In at hc
  rw [List.getD_eq_getElem?_getD,List.getElem?_eq_getElem (by simp; omega)]; simp⟩
theorem Po.step{n:ab}{l pl:List Int}{k:Nat}(ho:Ord n l)(h:Po n l k pl)(hk:k < l.length):Po n l (k + 1) (pl.set (l.getD k 0).toNat ((k:Int) + 1)):=by
 have hr:=ho.rE _ (bC hk)
 have hl:=h.len
 refine ⟨by rw [List.length_set]; exact hl,fun j hj=>?_,fun c hc fH=>?_⟩
 ·rw [bx]
  rcases Nat.lt_or_ge j k with h1 | h1
  ·have QX:=ho.rE _ (bC (l:=l) (i:=j) om)
   rw [if_neg (fun e=>by have:=uN ho.nd hk (by omega:j < l.length) om; omega)]
   exact h.at_ j h1
  ·obtain rfl:j = k:=by omega
   rw [if_pos ⟨rfl,om⟩]
 ·have h1:=fH k om
  unfold In at hc
  rw [bx,if_neg (fun e=>h1 om)]
  exact h.none_ c hc (fun j hj=>fH j om)
theorem Ord.mem{n:ab}{l:List Int}(ho:Ord n l){i:Int}(hi:0 <= i /\ i < n.cells.length):i ∈ l:=by
 refine Classical.byContradiction fun hn=>?_
 have h1:∀ x ∈ i :: l,x ∈ (List.range n.cells.length).map (fun (j:Nat)=>(j:Int)):=by
  intro x hx
  have hr:0 <= x /\ x < n.cells.length:=by
   rcases List.mem_cons.1 hx with rfl | hx
   ·exact hi
   ·exact ho.rE x hx
  exact List.mem_map.2 ⟨x.toNat,List.mem_range.2 om,om⟩
 have h2:=length_le_of_subset (List.nodup_cons.2 ⟨hn,ho.nd⟩) h1
 simp only [List.length_cons,List.length_map,List.length_range,ho.len] at h2
 omega
theorem Pp{p:Prop}{inst:Decidable p}(h:(!decide p) = true):¬ p:=by simpa using h
theorem lR.ok{n:ab}{l:List Int}{e:Int}(h:lR n l e)(hf:bh n)(ht:Fit n)(ha:Acyclic n):Ord n l /\ e = 0:=by
 rcases h with ⟨h1,_⟩ | ⟨_,h2,_⟩ | ⟨_,_,h3,_⟩ | ⟨_,_,_,h4,h5⟩
 ·exact absurd hf h1
 ·exact absurd ht h2
 ·exact absurd ha h3
 ·exact ⟨h4,h5⟩
theorem uO{n:ab}(hf:bh n)(ht:Fit n)(ha:Acyclic n):mH n = 0:=by unfold mH; rw [if_pos hf,if_pos ht,if_pos ha]
open Go Go.AW
inductive Ha (n:ab) (ws:List Int):Int -> Prop where
 | root {w i:Int} (hw:w ∈ ws) (h:bH n i w):Ha n ws i
 | step {i x j:Int} (hi:Ha n ws i) (hc:bR (n.cell i).kind) (hx:x ∈ (n.cell i).args) (h:bH n j x):Ha n ws j
def ia(l:List Bool):Nat:=l.countP (fun b=>!b)
theorem pH(l:List Bool):ia l <= l.length:=List.countP_le_length
theorem lX : ∀ {l : List Bool} {i : Nat}, i < l.length → l.getD i false = false → ia (l.set i true) + 1 = ia l
 | [],_,h,_=>by simp at h
 | b :: r,0,_,hb=>by
  simp only [List.getD_cons_zero] at hb
  subst hb
  simp [ia]
 | b :: r,i + 1,h,hb=>by
  have:=lX (l:=r) (i:=i) (by simpa using h) (by simpa using hb)
  unfold ia at this ⊢
  simp only [List.set_cons_succ,List.countP_cons]
  omega
structure tM(n:ab)(de ws:List Int)(l:List Int)(seen:List Bool):Prop where
 len:seen.length = n.cells.length
 rE:∀ w ∈ l,In w n.aa.length
 snd:∀ w ∈ l,∀ i,bH n i w -> Ha n ws i
 CU:∀ i:Nat,i < n.cells.length -> seen.getD i false = true -> Ha n ws i
 root:∀ w ∈ ws,seen.getD (de.getD w.toNat 0).toNat false = true \/ w ∈ l
 j7:∀ i:Nat,i < n.cells.length -> seen.getD i false = true -> bR (n.cells.getD i default).kind -> ∀ x ∈ (n.cells.getD i default).args,seen.getD (de.getD x.toNat 0).toNat false = true \/ x ∈ l
 sz:l.length + 4 * ia seen <= ws.length + 4 * n.cells.length
theorem nt{k i:Nat}:(List.replicate k false).getD i false = false:=by
 rw [List.getD_eq_getElem?_getD]
 by_cases h:i < k
 ·rw [List.getElem?_eq_getElem (by simpa using h)]; simp
 ·rw [List.getElem?_eq_none (by simpa using h)]; rfl
theorem tM.init{n:ab}{de ws:List Int}(hw:∀ w ∈ ws,In w n.aa.length):tM n de ws ws (List.replicate n.cells.length false) where
 len:=by simp
 rE:=hw
 snd:=fun w hw i hi=>.root hw hi
 CU:=fun i _ h=>by rw [nt] at h; cases h
 root:=fun w hw=>.inr hw
 j7:=fun i _ h=>by rw [nt] at h; cases h
 sz:=by have:=pH (List.replicate n.cells.length false); simp at this; omega
section
variable {n:ab} {de ws l:List Int} {seen:List Bool}
theorem jz{l:List Int}(h:0 < l.length){x:Int}(hx:x ∈ l):x = l.getD (l.length - 1) 0 \/ x ∈ l.take (l.length - 1):=by
 obtain ⟨i,hi,rfl⟩:=List.mem_iff_getElem.1 hx
 by_cases e:i = l.length - 1
 ·left; subst e; rw [List.getD_eq_getElem?_getD,List.getElem?_eq_getElem hi]; rfl
 ·right
  refine List.mem_iff_getElem.2 ⟨i,by simp; omega,by simp⟩
theorem tM.skip(h:tM n de ws l seen)(h0:0 < l.length)(hs:seen.getD (de.getD (l.getD (l.length - 1) 0).toNat 0).toNat false = true):tM n de ws (l.take (l.length - 1)) seen where
 len:=h.len
 rE:=fun w hw=>h.rE w (List.mem_of_mem_take hw)
 snd:=fun w hw=>h.snd w (List.mem_of_mem_take hw)
 CU:=h.CU
 root:=fun w hw=>by
  rcases h.root w hw with h1 | h1
  ·exact .inl h1
  ·rcases jz h0 h1 with h2 | h2
   ·exact .inl (by rw [h2]; exact hs)
   ·exact .inr h2
 j7:=fun i hi hm hc x hx=>by
  rcases h.j7 i hi hm hc x hx with h1 | h1
  ·exact .inl h1
  ·rcases jz h0 h1 with h2 | h2
   ·exact .inl (by rw [h2]; exact hs)
   ·exact .inr h2
 sz:=by have:=h.sz; simp only [List.length_take]; omega
theorem tM.mark(hb : o5 n de)(Jw : ∀ c ∈ n.cells, c.args.length ≤ 4)(hf : bh n)(h : tM n de ws l seen)(h0 : 0 < l.length)(hs : seen.getD (de.getD (l.getD (l.length - 1) 0).toNat 0).toNat false = false){more : List Int}
  (hm:(bR (n.cells.getD (de.getD (l.getD (l.length - 1) 0).toNat 0).toNat default).kind /\ more = (n.cells.getD (de.getD (l.getD (l.length - 1) 0).toNat 0).toNat default).args) \/ (¬ bR (n.cells.getD (de.getD (l.getD (l.length - 1) 0).toNat 0).toNat default).kind /\ more = [])) :
  tM n de ws (l.take (l.length - 1) ++ more) (seen.set (de.getD (l.getD (l.length - 1) 0).toNat 0).toNat true) /\ ia (seen.set (de.getD (l.getD (l.length - 1) 0).toNat 0).toNat true) + 1 = ia seen /\ more.length <= 4:=by
 have hw:=h.rE _ (bC (l:=l) (i:=l.length - 1) om)
 have hd:=hb.Ii _ hw
 have hr:=h.snd _ (bC (l:=l) (i:=l.length - 1) om) _ hd
 generalize Pq:l.getD (l.length - 1) 0 = w at *
 generalize Pr:de.getD w.toNat 0 = i at *
 have hi:=hd.1
 have hc:n.cell i = n.cells.getD i.toNat default:=rfl
 have hl:=h.len
 have get:∀ k,(seen.set i.toNat true).getD k false = if i.toNat = k /\ i.toNat < seen.length then true else seen.getD k false:=fun k=>bx ..
 have aj:∀ k,seen.getD k false = true -> (seen.set i.toNat true).getD k false = true:=fun k hk=>by rw [get]; split <;> simp_all
 have JO:more.length <= 4:=by
  rcases hm with ⟨_,rfl⟩ | ⟨_,rfl⟩
  ·exact Jw _ (getD_in om)
  ·simp
 have hu:=lX (l:=seen) (i:=i.toNat) om hs
 refine ⟨?_,hu,JO⟩
 exact {
  len:=by rw [List.length_set]; exact hl
  rE:=fun x hx=>by
   rcases List.mem_append.1 hx with h1 | h1
   ·exact h.rE x (List.mem_of_mem_take h1)
   ·rcases hm with ⟨_,rfl⟩ | ⟨_,rfl⟩
    ·exact hf.kJ hi h1
    ·cases h1
  snd:=fun x hx j hj=>by
   rcases List.mem_append.1 hx with h1 | h1
   ·exact h.snd x (List.mem_of_mem_take h1) j hj
   ·rcases hm with ⟨h2,rfl⟩ | ⟨_,rfl⟩
    ·exact .step hr h2 h1 hj
    ·cases h1
  CU:=fun k hk vL=>by
   rw [get] at vL
   by_cases e:i.toNat = k /\ i.toNat < seen.length
   ·rw [show (k:Int) = i by omega]; exact hr
   ·rw [if_neg e] at vL; exact h.CU k hk vL
  root:=fun x hx=>by
   rcases h.root x hx with h1 | h1
   ·exact .inl (aj _ h1)
   ·rcases jz h0 h1 with h2 | h2
    ·left
     rw [Pq] at h2
     rw [h2,Pr,get,if_pos ⟨rfl,om⟩]
    ·exact .inr (List.mem_append.2 (.inl h2))
  j7:=fun k hk vL Ij x hx=>by
   rw [get] at vL
   by_cases e:i.toNat = k /\ i.toNat < seen.length
   ·rcases hm with ⟨_,rfl⟩ | ⟨h2,_⟩
    ·right
     rw [<- e.1] at hx
     exact List.mem_append.2 (.inr hx)
    ·rw [<- e.1] at Ij; exact absurd Ij h2
   ·rw [if_neg e] at vL
    rcases h.j7 k hk vL Ij x hx with h1 | h1
    ·exact .inl (aj _ h1)
    ·rcases jz h0 h1 with h2 | h2
     ·left
      rw [Pq] at h2
      rw [h2,Pr,get,if_pos ⟨rfl,om⟩]
     ·exact .inr (List.mem_append.2 (.inl h2))
  sz:=by
   have h1:=h.sz
   simp only [List.length_append,List.length_take]
   omega }
theorem tM.last(hb:o5 n de)(h:tM n de ws l seen)(h0:0 < l.length):(0 <= l.getD (l.length - 1) 0 /\ l.getD (l.length - 1) 0 < n.aa.length) /\ (0 <= de.getD (l.getD (l.length - 1) 0).toNat 0 /\ de.getD (l.getD (l.length - 1) 0).toNat 0 < n.cells.length):=by
 have hw:=h.rE _ (bC (l:=l) (i:=l.length - 1) om)
 exact ⟨hw,(hb.Ii _ hw).1⟩
theorem Lf{a b:Nat}(h:b <= a /\ a <= 4611686018427387904):IntKind.i64.wrap ((a:Int) - (b:Int)) = ((a - b:Nat):Int):=by
 rw [show ((a:Int) - (b:Int)) = ((a - b:Nat):Int) by omega]
 exact IntWalk.i64_in _ om
theorem take_one{α:Type}{d:α}{l:List α}{k:Nat}(h:k < l.length):l.take (k + 1) = l.take k ++ [l.getD k d]:=by
 rw [List.take_add_one,List.getElem?_eq_getElem h,List.getD_eq_getElem?_getD,List.getElem?_eq_getElem h]; rfl
def w4(n:ab)(ws:List Int)(seen:List Bool):Prop:=seen.length = n.cells.length /\ ∀ i:Nat,i < n.cells.length -> (seen.getD i false = true ↔ Ha n ws i)
theorem tM.done(hb:o5 n de)(hf:bh n)(h:tM n de ws l seen)(h0:l.length = 0)(hw:∀ w ∈ ws,In w n.aa.length):w4 n ws seen:=by
 have hl:l = []:=List.eq_nil_of_length_eq_zero h0
 subst hl
 refine ⟨h.len,fun i hi=>⟨h.CU i hi,fun hr=>?_⟩⟩
 have key:∀ j:Int,Ha n ws j -> 0 <= j /\ j < n.cells.length /\ seen.getD j.toNat false = true:=by
  intro j hj
  induction hj with
  | root rq hd =>
   rcases h.root _ rq with h1 | h1
   ·rw [hf.unique (hb.Ii _ (hw _ rq)) hd] at h1
    exact ⟨hd.1.1,hd.1.2,h1⟩
   ·cases h1
  | @step i x j hi hc hx hd ih =>
   rcases h.j7 i.toNat om ih.2.2 hc x hx with h1 | h1
   ·rw [hf.unique (hb.Ii _ (hf.kJ ⟨ih.1,ih.2.1⟩ hx)) hd] at h1
    exact ⟨hd.1.1,hd.1.2,h1⟩
   ·cases h1
 exact (key _ hr).2.2
end
theorem w4.eq{n:ab}{ws:List Int}{s t:List Bool}(hs:w4 n ws s)(ht:w4 n ws t):s = t:=by
 refine List.ext_getElem (by rw [hs.1,ht.1]) fun i h1 h2=>?_
 have e1:=hs.2 i (by have:=hs.1; omega)
 have e2:=ht.2 i (by have:=hs.1; omega)
 rw [List.getD_eq_getElem?_getD,List.getElem?_eq_getElem h1] at e1
 rw [List.getD_eq_getElem?_getD,List.getElem?_eq_getElem h2] at e2
 simp only [Option.getD_some] at e1 e2
 cases h3:s[i] <;> cases h4:t[i] <;> simp_all
open Go Go.AW
def Hb(p:Nat -> Bool)(k:Nat):List Nat:=(List.range k).filter p
theorem wZ{p:Nat -> Bool}{k:Nat}(h:p k = false):Hb p (k + 1) = Hb p k:=by
 simp only [Hb,List.range_succ,List.filter_append,List.filter_cons,h,List.filter_nil,List.append_nil,Bool.false_eq_true,if_false]
theorem Fl(p:Nat -> Bool)(k:Nat):(Hb p k).length <= k:=by
 have:=List.length_filter_le p (List.range k)
 rw [List.length_range] at this; exact this
def Ik(p:Nat -> Bool)(w:Nat):Int:=if p w then ((Hb p w).length:Int) else -1
def MC(p:Nat -> Bool)(x:Int):Int:=if 0 <= x then Ik p x.toNat else x
def JP{α:Type}(p:Nat -> Bool)(l:List α)(d:α):List α:=(Hb p l.length).map (fun i=>l.getD i d)
open Go Go.AW
def kc(n:ab)(s:List Bool)(i:Nat):Bool:=s.getD i false || !decide (bR (n.cells.getD i default).kind)
def kw(n:ab)(de:List Int)(s:List Bool)(w:Nat):Bool:=kc n s (de.getD w 0).toNat
def Tt(p:Nat -> Bool)(c:Cell):Cell:=⟨c.kind,c.op,MC p c.out,c.args.map (MC p),c.num,c.mem⟩
structure Ps(n:ab)(de:List Int)(s:List Bool):Prop where
 freeze:kw n de s n.freeze.toNat = true
 done:kw n de s n.done.toNat = true
 cM:∀ r ∈ n.cM,kw n de s r.toNat = true
 bB:∀ r ∈ n.bB,kw n de s r.toNat = true
 data:∀ r ∈ n.data,0 <= r -> kw n de s r.toNat = true
 j7:∀ i,i < n.cells.length -> kc n s i = true -> ∀ x ∈ (n.cells.getD i default).args,kw n de s x.toNat = true
section
variable {n:ab} {de:List Int} {s:List Bool} (hf:bh n) (hb:o5 n de) (hk:Ps n de s)
end
open Go Go.AW
structure VP(n:ab):Prop where
 formed:bh n
 fit:Fit n
 acyclic:Acyclic n
 small:n.Small
 eK:n.cells.length <= 48
 ew:n.aa.length <= 48
 tj:∀ c ∈ n.cells,c.args.length <= 4
 tk:n.cM.length <= 3
 ln:n.aD.length <= 3
 dh:n.streams.length <= 4
 CL:n.ins.length <= 4
section
variable {n:ab} {de:List Int} {s:List Bool} (hv:VP n) (hb:o5 n de) (hk:Ps n de s)
end
open Go Go.AW
structure CV(n:ab)(w:Int):Prop where
 is:w ∈ n.bB \/ w ∈ n.cM \/ w = n.freeze \/ w = n.done \/ (w ∈ n.data /\ 0 <= w) \/ ∃ i,i < n.cells.length /\ ¬ bR (n.cells.getD i default).kind /\ w ∈ (n.cells.getD i default).args
def rQ(n:ab)(l:List Int):Prop:=∀ w,w ∈ l ↔ CV n w
theorem CV.rE{n:ab}(hf:bh n){w:Int}(h:CV n w):In w n.aa.length:=by
 rcases h.is with h | h | h | h | ⟨h,h0⟩ | ⟨i,hi,_,h⟩
 ·obtain ⟨j,hj,rfl⟩:=List.mem_iff_getElem.1 h
  have h1:=(hf.strs j (by have:=hf.fi; omega)).2.2.1
  rwa [List.getD_eq_getElem?_getD,List.getElem?_eq_getElem hj] at h1
 ·exact hf.cM w h
 ·rw [h]; exact hf.freeze
 ·rw [h]; exact hf.done
 ·obtain ⟨j,hj,rfl⟩:=List.mem_iff_getElem.1 h
  have h1:=(hf.strs j (by have:=hf.kI; omega)).2.2.2
  have e:n.data.getD j 0 = n.data[j]:=by rw [List.getD_eq_getElem?_getD,List.getElem?_eq_getElem hj]; rfl
  rw [<- e] at h0 ⊢
  cases ho:(n.streams.getD j default).out with
  | true=>exact h1.1 ho
  | false=>have:=h1.2 ho; omega
 ·exact (hf.cells i hi).1 w h
section
variable {n:ab} {de l:List Int} {s:List Bool} (hf:bh n) (hb:o5 n de) (hl:rQ n l) (hc:w4 n l s)
include hf hb hl hc
end
open Go Go.AW
structure Sn(n:ab)(de rs:List Int)(l:List Int)(dB:List Bool):Prop where
 len:dB.length = n.cells.length
 rE:∀ w ∈ l,w < 0 \/ In w n.aa.length
 snd:∀ w ∈ l,∀ i,bH n i w -> Ha n rs i
 seq:∀ i:Nat,i < n.cells.length -> ¬ bR (n.cells.getD i default).kind -> dB.getD i false = true
 CU:∀ i:Nat,i < n.cells.length -> dB.getD i false = true -> bR (n.cells.getD i default).kind -> Ha n rs i
 root:∀ w ∈ rs,dB.getD (de.getD w.toNat 0).toNat false = true \/ w ∈ l
 j7:∀ i:Nat,i < n.cells.length -> dB.getD i false = true -> bR (n.cells.getD i default).kind -> ∀ x ∈ (n.cells.getD i default).args,dB.getD (de.getD x.toNat 0).toNat false = true \/ x ∈ l
section
variable {n:ab} {de rs l:List Int} {dB:List Bool}
theorem Sn.skip(h:Sn n de rs l dB)(hf:∀ w ∈ rs,0 <= w)(Y4:bh n)(h0:0 < l.length)(hs:l.getD (l.length - 1) 0 < 0 \/ dB.getD (de.getD (l.getD (l.length - 1) 0).toNat 0).toNat false = true):Sn n de rs (l.take (l.length - 1)) dB where
 len:=h.len
 rE:=fun w hw=>h.rE w (List.mem_of_mem_take hw)
 snd:=fun w hw=>h.snd w (List.mem_of_mem_take hw)
 seq:=h.seq
 CU:=h.CU
 root:=fun w hw=>by
  rcases h.root w hw with h1 | h1
  ·exact .inl h1
  ·rcases jz h0 h1 with h2 | h2
   ·rcases hs with hs | hs
    ·have:=hf w hw; omega
    ·exact .inl (by rw [h2]; exact hs)
   ·exact .inr h2
 j7:=fun i hi hm hc x hx=>by
  rcases h.j7 i hi hm hc x hx with h1 | h1
  ·exact .inl h1
  ·rcases jz h0 h1 with h2 | h2
   ·rcases hs with hs | hs
    ·have h3:=(Y4.cells i hi).1 x hx
     unfold In at h3; omega
    ·exact .inl (by rw [h2]; exact hs)
   ·exact .inr h2
theorem Sn.mark(hb : o5 n de)(hf : bh n)(h : Sn n de rs l dB)(h0 : 0 < l.length)(Rv : 0 ≤ l.getD (l.length - 1) 0)(hs : dB.getD (de.getD (l.getD (l.length - 1) 0).toNat 0).toNat false = false) :
  Sn n de rs (l.take (l.length - 1) ++ (n.cells.getD (de.getD (l.getD (l.length - 1) 0).toNat 0).toNat default).args) (dB.set (de.getD (l.getD (l.length - 1) 0).toNat 0).toNat true) ∧
   ia (dB.set (de.getD (l.getD (l.length - 1) 0).toNat 0).toNat true) + 1 = ia dB:=by
 have hw:In (l.getD (l.length - 1) 0) n.aa.length:=(h.rE _ (bC (l:=l) (i:=l.length - 1) om)).resolve_left om
 have hd:=hb.Ii _ hw
 have hr:=h.snd _ (bC (l:=l) (i:=l.length - 1) om) _ hd
 generalize Pq:l.getD (l.length - 1) 0 = w at *
 generalize Pr:de.getD w.toNat 0 = i at *
 have hi:=hd.1
 have hl:=h.len
 have lJ:bR (n.cells.getD i.toNat default).kind:=by
  refine Classical.byContradiction fun hn=>?_
  have:=h.seq i.toNat om hn
  rw [hs] at this; cases this
 have get:∀ k,(dB.set i.toNat true).getD k false = if i.toNat = k /\ i.toNat < dB.length then true else dB.getD k false:=fun k=>bx ..
 have aj:∀ k,dB.getD k false = true -> (dB.set i.toNat true).getD k false = true:=fun k hk=>by rw [get]; split <;> simp_all
 refine ⟨?_,lX (l:=dB) (i:=i.toNat) om hs⟩
 exact {
  len:=by rw [List.length_set]; exact hl
  rE:=fun x hx=>by
   rcases List.mem_append.1 hx with h1 | h1
   ·exact h.rE x (List.mem_of_mem_take h1)
   ·exact .inr (hf.kJ hi h1)
  snd:=fun x hx j hj=>by
   rcases List.mem_append.1 hx with h1 | h1
   ·exact h.snd x (List.mem_of_mem_take h1) j hj
   ·exact .step hr lJ h1 hj
  seq:=fun k hk Ij=>aj _ (h.seq k hk Ij)
  CU:=fun k hk vL Ij=>by
   rw [get] at vL
   by_cases e:i.toNat = k /\ i.toNat < dB.length
   ·rw [show (k:Int) = i by omega]; exact hr
   ·rw [if_neg e] at vL; exact h.CU k hk vL Ij
  root:=fun x hx=>by
   rcases h.root x hx with h1 | h1
   ·exact .inl (aj _ h1)
   ·rcases jz h0 h1 with h2 | h2
    ·left
     rw [Pq] at h2
     rw [h2,Pr,get,if_pos ⟨rfl,om⟩]
    ·exact .inr (List.mem_append.2 (.inl h2))
  j7:=fun k hk vL Ij x hx=>by
   rw [get] at vL
   by_cases e:i.toNat = k /\ i.toNat < dB.length
   ·right
    rw [<- e.1] at hx
    exact List.mem_append.2 (.inr hx)
   ·rw [if_neg e] at vL
    rcases h.j7 k hk vL Ij x hx with h1 | h1
    ·exact .inl (aj _ h1)
    ·rcases jz h0 h1 with h2 | h2
     ·left
      rw [Pq] at h2
      rw [h2,Pr,get,if_pos ⟨rfl,om⟩]
     ·exact .inr (List.mem_append.2 (.inl h2)) }
theorem Sn.done(hb:o5 n de)(hf:bh n)(Rw:∀ w ∈ rs,In w n.aa.length)(h:Sn n de rs l dB)(h0:l.length = 0){s:List Bool}(hc:w4 n rs s):∀ i,i < n.cells.length -> dB.getD i false = kc n s i:=by
 have hl:l = []:=List.eq_nil_of_length_eq_zero h0
 subst hl
 have key:∀ j:Int,Ha n rs j -> 0 <= j /\ j < n.cells.length /\ dB.getD j.toNat false = true:=by
  intro j hj
  induction hj with
  | root rq hd =>
   rcases h.root _ rq with h1 | h1
   ·rw [hf.unique (hb.Ii _ (Rw _ rq)) hd] at h1
    exact ⟨hd.1.1,hd.1.2,h1⟩
   ·cases h1
  | @step i x j hi lJ hx hd ih =>
   rcases h.j7 i.toNat om ih.2.2 lJ x hx with h1 | h1
   ·rw [hf.unique (hb.Ii _ (hf.kJ ⟨ih.1,ih.2.1⟩ hx)) hd] at h1
    exact ⟨hd.1.1,hd.1.2,h1⟩
   ·cases h1
 intro i hi
 unfold kc
 by_cases lJ:bR (n.cells.getD i default).kind
 ·rw [decide_eq_true lJ]
  simp only [Bool.not_true,Bool.or_false]
  have e:=hc.2 i hi
  cases hn:dB.getD i false with
  | true=>exact (e.2 (h.CU i hi hn lJ)).symm
  | false =>
   cases hs:s.getD i false with
   | false=>rfl
   | true =>
    have:=(key _ (e.1 hs)).2.2
    rw [Int.toNat_natCast,hn] at this; cases this
 ·rw [h.seq i hi lJ,decide_eq_false lJ]; simp
end
open Go Go.AW
def rR(n:ab):List Int:=(((([n.freeze,n.done]:List Int) ++ n.cM) ++ n.bB) ++ n.data)
structure MD(n:ab)(k:Nat)(dB:List Bool)(O:List Int):Prop where
 len:dB.length = n.cells.length
 nd:∀ i,i < n.cells.length -> (dB.getD i false = true ↔ i < k /\ ¬ bR (n.cells.getD i default).kind)
 op:∀ w,w ∈ O ↔ (w ∈ rR n \/ ∃ i,i < k /\ ¬ bR (n.cells.getD i default).kind /\ w ∈ (n.cells.getD i default).args)
 sz:O.length <= 13 + 4 * k
theorem MD.init{n:ab}(hM:VP n):MD n 0 (List.replicate n.cells.length false) (rR n) where
 len:=by simp
 nd:=fun i _=>by rw [nt]; simp
 op:=fun w=>by simp
 sz:=by
  have h1:=hM.tk; have h2:=hM.dh; have h3:=hM.formed.fi; have h4:=hM.formed.kI
  simp only [rR,List.length_append,List.length_cons,List.length_nil]; omega
theorem MD.no{n:ab}{k:Nat}{dB:List Bool}{O:List Int}(h:MD n k dB O)(hc:bR (n.cells.getD k default).kind):MD n (k + 1) dB O where
 len:=h.len
 nd:=fun i hi=>by
  rw [h.nd i hi]
  constructor
  ·exact fun h1=>⟨om,h1.2⟩
  ·rintro ⟨h1,h2⟩
   refine ⟨?_,h2⟩
   rcases Nat.lt_or_ge i k with h4 | h4
   ·exact h4
   ·obtain rfl:i = k:=by omega
    exact absurd hc h2
 op:=fun w=>by
  rw [h.op w]
  constructor
  ·rintro (h1 | ⟨i,h1,h2,h3⟩)
   ·exact .inl h1
   ·exact .inr ⟨i,om,h2,h3⟩
  ·rintro (h1 | ⟨i,h1,h2,h3⟩)
   ·exact .inl h1
   ·rcases Nat.lt_or_ge i k with h4 | h4
    ·exact .inr ⟨i,h4,h2,h3⟩
    ·obtain rfl:i = k:=by omega
     exact absurd hc h2
 sz:=by have:=h.sz; omega
theorem Sn.init{n:ab}{de rs O:List Int}{dB:List Bool}(hf:bh n)(Rw:rQ n rs)(h:MD n n.cells.length dB O):Sn n de rs O dB:=by
 have root:∀ w ∈ O,0 <= w -> CV n w:=by
  intro w hw h0
  rcases (h.op w).1 hw with h1 | ⟨i,h1,h2,h3⟩
  ·simp only [rR,List.mem_append,List.mem_cons,List.not_mem_nil,or_false] at h1
   rcases h1 with (((h1 | h1) | h1) | h1) | h1
   ·exact ⟨.inr (.inr (.inl h1))⟩
   ·exact ⟨.inr (.inr (.inr (.inl h1)))⟩
   ·exact ⟨.inr (.inl h1)⟩
   ·exact ⟨.inl h1⟩
   ·exact ⟨.inr (.inr (.inr (.inr (.inl ⟨h1,h0⟩))))⟩
  ·exact ⟨.inr (.inr (.inr (.inr (.inr ⟨i,h1,h2,h3⟩))))⟩
 exact {
  len:=h.len
  rE:=fun w hw=>by
   rcases Int.lt_or_le w 0 with h1 | h1
   ·exact .inl h1
   ·exact .inr ((root w hw h1).rE hf)
  snd:=fun w hw i hd=>.root ((Rw w).2 (root w hw (by have:=hf.fS hd; unfold In at this; omega))) hd
  seq:=fun i hi hc=>(h.nd i hi).2 ⟨hi,hc⟩
  CU:=fun i hi hm hc=>absurd hc ((h.nd i hi).1 hm).2
  root:=fun w hw=>by
   right
   refine (h.op w).2 ?_
   rcases ((Rw w).1 hw).is with h1 | h1 | h1 | h1 | ⟨h1,_⟩ | ⟨i,h1,h2,h3⟩
   ·left; simp [rR,h1]
   ·left; simp [rR,h1]
   ·left; simp [rR,h1]
   ·left; simp [rR,h1]
   ·left; simp [rR,h1]
   ·exact .inr ⟨i,h1,h2,h3⟩
  j7:=fun i hi hm hc=>absurd hc ((h.nd i hi).1 hm).2 }
open Go Go.AW
structure Hc(p:Nat -> Bool)(l m:List Int)(i:Nat):Prop where
 len:m.length = l.length
 lo:∀ j,j < i -> m.getD j 0 = MC p (l.getD j 0)
 hi:∀ j,i <= j -> m.getD j 0 = l.getD j 0
theorem Hc.init(p:Nat -> Bool)(l:List Int):Hc p l l 0:=⟨rfl,fun j hj=>by omega,fun _ _=>rfl⟩
theorem Hc.set{p:Nat -> Bool}{l m:List Int}{i:Nat}{v:Int}(h:Hc p l m i)(hi:i < m.length)(hv:v = MC p (l.getD i 0)):Hc p l (m.set i v) (i + 1) where
 len:=by rw [List.length_set]; exact h.len
 lo:=fun j hj=>by
  rw [bx]
  by_cases e:i = j /\ i < m.length
  ·rw [if_pos e,hv,e.1]
  ·rw [if_neg e]; exact h.lo j om
 hi:=fun j hj=>by rw [bx,if_neg om]; exact h.hi j om
theorem Hc.skip{p:Nat -> Bool}{l m:List Int}{i:Nat}(h:Hc p l m i)(hn:¬ l.getD i 0 ≥ 0):Hc p l m (i + 1) where
 len:=h.len
 lo:=fun j hj=>by
  rcases Nat.lt_or_ge j i with h1 | h1
  ·exact h.lo j h1
  ·obtain rfl:j = i:=by omega
   rw [h.hi j (Nat.le_refl _)]
   unfold MC; rw [if_neg om]
 hi:=fun j hj=>h.hi j om
theorem Hc.done{p:Nat -> Bool}{l m:List Int}(h:Hc p l m l.length):m = l.map (MC p):=by
 refine List.ext_getElem (by rw [h.len]; simp) fun i h1 h2=>?_
 have h3:i < l.length:=by rw [<- h.len]; exact h1
 have:=h.lo i h3
 rw [List.getD_eq_getElem?_getD,List.getElem?_eq_getElem h1,List.getD_eq_getElem?_getD,List.getElem?_eq_getElem h3] at this
 simpa using this
def Il(p:Nat -> Bool)(k:Nat)(nb:List Int):Prop:=nb.length = k /\ ∀ w,w < k -> nb.getD w 0 = Ik p w
open Go Go.AW Go.Proofs
structure Rt(n:ab)(k i:Nat)(O:List Int):Prop where
 op:∀ w,w ∈ O ↔ (w ∈ n.bB \/ w ∈ n.cM \/ w = n.freeze \/ w = n.done) \/ (∃ j,j < k /\ 0 <= n.data.getD j 0 /\ w = n.data.getD j 0) \/ ∃ j,j < i /\ ¬ bR (n.cells.getD j default).kind /\ w ∈ (n.cells.getD j default).args
 sz:O.length <= 9 + k + 4 * i
theorem Rt.init{n:ab}(hM:VP n):Rt n 0 0 ([n.bB,n.cM,[n.freeze,n.done]]:List (List Int)).flatten where
 op:=fun w=>by simp
 sz:=by
  have h1:=hM.tk; have h2:=hM.dh; have h3:=hM.formed.fi
  simp; omega
theorem Rt.no{n:ab}{d k:Nat}{O:List Int}(h:Rt n d k O)(hc:bR (n.cells.getD k default).kind):Rt n d (k + 1) O where
 op:=fun w=>by
  rw [h.op w]
  constructor
  ·rintro (h1 | h1 | ⟨i,h1,h2,h3⟩)
   ·exact .inl h1
   ·exact .inr (.inl h1)
   ·exact .inr (.inr ⟨i,om,h2,h3⟩)
  ·rintro (h1 | h1 | ⟨i,h1,h2,h3⟩)
   ·exact .inl h1
   ·exact .inr (.inl h1)
   ·rcases Nat.lt_or_ge i k with h4 | h4
    ·exact .inr (.inr ⟨i,h4,h2,h3⟩)
    ·obtain rfl:i = k:=by omega
     exact absurd hc h2
 sz:=by have:=h.sz; omega
theorem Rt.at{n:ab}{O:List Int}{k:Nat}(e:k = n.data.length)(h:Rt n k 0 O):Rt n n.data.length 0 O:=by subst e; exact h
theorem Rt.done{n:ab}{O:List Int}(h:Rt n n.data.length n.cells.length O):rQ n O:=by
 intro w
 rw [h.op w]
 constructor
 ·rintro ((h1 | h1 | h1 | h1) | ⟨j,h1,h2,rfl⟩ | h1)
  ·exact ⟨.inl h1⟩
  ·exact ⟨.inr (.inl h1)⟩
  ·exact ⟨.inr (.inr (.inl h1))⟩
  ·exact ⟨.inr (.inr (.inr (.inl h1)))⟩
  ·exact ⟨.inr (.inr (.inr (.inr (.inl ⟨bC h1,h2⟩))))⟩
  ·exact ⟨.inr (.inr (.inr (.inr (.inr h1))))⟩
 ·rintro ⟨h1 | h1 | h1 | h1 | ⟨h1,h2⟩ | h1⟩
  ·exact .inl (.inl h1)
  ·exact .inl (.inr (.inl h1))
  ·exact .inl (.inr (.inr (.inl h1)))
  ·exact .inl (.inr (.inr (.inr h1)))
  ·obtain ⟨j,hj,rfl⟩:=List.mem_iff_getElem.1 h1
   have e:n.data.getD j 0 = n.data[j]:=by rw [List.getD_eq_getElem?_getD,List.getElem?_eq_getElem hj]; rfl
   exact .inr (.inl ⟨j,hj,by rw [e]; exact h2,e.symm⟩)
  ·exact .inr (.inr h1)
theorem rQ.at{n:ab}{O:List Int}{k:Nat}(e:k = n.cells.length)(h:Rt n n.data.length k O):rQ n O:=by subst e; exact h.done
structure Wn(p:Nat -> Bool)(ws:List Int)(k:Nat)(nb wl:List Int):Prop where
 len:nb.length = ws.length
 num:∀ w,w < k -> nb.getD w 0 = Ik p w
 ws:wl = (Hb p k).map (fun i=>ws.getD i 0)
theorem Wn.init{p:Nat -> Bool}{ws:List Int}:Wn p ws 0 (List.replicate ws.length 0) []:=⟨by simp,fun w h=>by omega,rfl⟩
theorem Wn.no{p:Nat -> Bool}{ws nb wl:List Int}{k:Nat}(h:Wn p ws k nb wl)(hk:k < ws.length)(hp:p k = false):Wn p ws (k + 1) (nb.set k (-1)) wl where
 len:=by rw [List.length_set]; exact h.len
 num:=fun w hw=>by
  have:=h.len
  rcases Nat.lt_or_ge w k with h1 | h1
  ·rw [bx,if_neg om]; exact h.num w h1
  ·obtain rfl:w = k:=by omega
   rw [bx,if_pos ⟨rfl,om⟩]
   unfold Ik; rw [if_neg (by simp [hp])]
 ws:=by rw [wZ hp]; exact h.ws
theorem Wn.Pt{p:Nat -> Bool}{ws nb wl:List Int}(h:Wn p ws ws.length nb wl):Il p ws.length nb:=⟨h.len,h.num⟩
theorem Wn.aj{p:Nat -> Bool}{ws nb wl:List Int}(h:Wn p ws ws.length nb wl):wl = JP p ws 0:=h.ws
theorem Lg{n:ab}{j:Nat}(hf:bh n)(hj:j < n.cells.length):(n.cells.getD j default).out = -1 \/ (0 <= (n.cells.getD j default).out /\ (n.cells.getD j default).out < n.aa.length):=by
 have h:=hf.cells j hj
 by_cases e:(n.cells.getD j default).kind = 7
 ·exact .inl (h.2.2.1 e)
 ·exact .inr (h.2.2.2 e)
theorem Il.at{p:Nat -> Bool}{ws nb wl:List Int}{k:Nat}(e:k = ws.length)(h:Wn p ws k nb wl):Il p ws.length nb:=by subst e; exact h.Pt
theorem Wn.at{p:Nat -> Bool}{ws nb wl:List Int}{k:Nat}(e:k = ws.length)(h:Wn p ws k nb wl):wl = JP p ws 0:=by subst e; exact h.aj
def Cn(n:ab)(de:List Int)(s:List Bool)(i:Nat):List Cell:=((Hb (kc n s) i).map (fun i=>n.cells.getD i default)).map (Tt (kw n de s))
theorem Wn.le{p:Nat -> Bool}{ws nb wl:List Int}{k:Nat}(h:Wn p ws k nb wl):wl.length <= k:=by rw [h.ws,List.length_map]; exact Fl _ _
theorem Cn.no{n:ab}{de:List Int}{s:List Bool}{i:Nat}(h:kc n s i = false):Cn n de s (i + 1) = Cn n de s i:=by unfold Cn; rw [wZ h]
open Go Go.AW Go.Proofs
def eA.tF(a:eA):List Value:=[.string a.name,.int .i64 a.width,.int .i64 a.len,.int .i64 a.kind,.int .i64 a.u6]
def bE.tF(a:bE):List Value:=[.string a.name,.int .i64 a.width,.bool a.out]
def eA.Tu(a b:eA):Bool:=a.name.toList == b.name.toList && (a.width == b.width && (a.len == b.len && (a.kind == b.kind && a.u6 == b.u6)))
def bE.Tu(a b:bE):Bool:=a.name.toList == b.name.toList && (a.width == b.width && a.out == b.out)
open Go Go.AW
def Hd{α:Type}(e:α -> α -> Bool)(d:α)(l m:List α):Prop:=l.length = m.length /\ ∀ j,j < l.length -> e (l.getD j d) (m.getD j d) = true
noncomputable instance {α:Type} (e:α -> α -> Bool) (d:α) (l m:List α):Decidable (Hd e d l m):=Classical.propDecidable _
def CW(a b:Int):Bool:=decide (a = b)
noncomputable def Pu(x y:Cell):Bool:=decide (x.kind = y.kind /\ x.op = y.op /\ x.out = y.out /\ x.num = y.num /\ x.mem = y.mem /\ Hd CW 0 x.args y.args)
structure Pv(a b:ab):Prop where
 name:a.name.toList = b.name.toList
 aa:Hd CW 0 a.aa b.aa
 ins:Hd CW 0 a.ins b.ins
 aD:Hd eA.Tu default a.aD b.aD
 streams:Hd bE.Tu default a.streams b.streams
 bB:Hd CW 0 a.bB b.bB
 data:Hd CW 0 a.data b.data
 freeze:a.freeze = b.freeze
 done:a.done = b.done
 cM:Hd CW 0 a.cM b.cM
 cells:Hd Pu default a.cells b.cells
noncomputable instance (a b:ab):Decidable (Pv a b):=Classical.propDecidable _
structure Y5(n:ab):Prop where
 aa:n.aa.length <= 35184372088832
 cells:n.cells.length <= 35184372088832
 args:∀ c ∈ n.cells,c.args.length <= 35184372088832
 ins:n.ins.length <= 35184372088832
 aD:n.aD.length <= 35184372088832
 streams:n.streams.length <= 35184372088832
 bB:n.bB.length <= 35184372088832
 data:n.data.length <= 35184372088832
 cM:n.cM.length <= 35184372088832
open Go Go.AW Go.Proofs
theorem o5.eq{n:ab}{a b:List Int}(hf:bh n)(ha:o5 n a)(hb:o5 n b):a = b:=by
 refine List.ext_getElem (by rw [ha.len,hb.len]) fun i h1 h2=>?_
 have hi:In (i:Int) n.aa.length:=⟨om,by have:=ha.len; omega⟩
 have h:=hf.unique (ha.Ii _ hi) (hb.Ii _ hi)
 rw [Int.toNat_natCast,List.getD_eq_getElem?_getD,List.getElem?_eq_getElem h1,List.getD_eq_getElem?_getD,List.getElem?_eq_getElem h2] at h
 exact h
structure Wg(p:Nat -> Bool)(ws:List Int)(k:Nat)(nb:List Int)(v:Nat):Prop where
 w:Wn p ws k nb ((Hb p k).map (fun i=>ws.getD i 0))
 v:v = (Hb p k).length
theorem Wg.init{p:Nat -> Bool}{ws:List Int}:Wg p ws 0 (List.replicate ws.length 0) 0:=⟨Wn.init,rfl⟩
theorem Wg.no{p:Nat -> Bool}{ws nb:List Int}{k v:Nat}(h:Wg p ws k nb v)(hk:k < ws.length)(hp:p k = false):Wg p ws (k + 1) (nb.set k (-1)) v:=by
 refine ⟨?_,by rw [wZ hp]; exact h.v⟩
 rw [wZ hp]; exact h.w.no hk hp
theorem Wg.le{p:Nat -> Bool}{ws nb:List Int}{k v:Nat}(h:Wg p ws k nb v):v <= k:=by rw [h.v]; exact Fl _ _
theorem Wg.num{p:Nat -> Bool}{ws nb:List Int}{k v:Nat}(e:k = ws.length)(h:Wg p ws k nb v):Il p ws.length nb:=by subst e; exact h.w.Pt
section
variable {n:ab} {de:List Int} {s:List Bool}
end
end Go.Proofs.Ytlimckldnjmabaa
