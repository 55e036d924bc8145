/- Netlists as the walk sees them. -/
import Derived.Test.YtlimckldnjmabaaAWx1
import Derived.Test.YtlimckldnjmabaaAWx2
import Derived.Test.YtlimckldnjmabaaProg
import Derived.KernelRfl
import Derived.Test.YtlimckldnjmabaaRows
set_option linter.unusedSimpArgs false
set_option linter.unusedVariables false
set_option linter.unusedSectionVars false
set_option maxRecDepth 4000
set_option maxHeartbeats 8000000
namespace Go.Proofs.Ytlimckldnjmabaa
open Go Go.AW
abbrev vi(z:Int):X:=.v (.int .i64 z)
abbrev vn:X:=.v (.slice none 0 0)
theorem aH{a b:Nat}(h:Nat.ble a b = true):a <= b:=Nat.le_of_ble_eq_true h
def ah(z:Int):List X:=[.v (.int .i64 z)]
theorem eS{p:Prop}(h:p:=by first | rfl | (simp only [List.cons.injEq,X.v.injEq,X.aN.injEq,Value.int.injEq,and_true,true_and]; omega) | simp_all):p:=h
theorem yO{p:Prop}(h:p:=by first | rfl | exact IntWalk.i64_in _ (by omega)):p:=h
theorem aI(z:Int):X.b6 (ah z) = true:=rfl
theorem oF(z:Int):X.fm (ah z):=⟨trivial,trivial⟩
def jO(b:Bool):List X:=[.v (.bool b)]
theorem ug(b:Bool):X.b6 (jO b) = true:=rfl
def uh(n:Nat):List X:=[.v (.int .u8 (n:Int))]
def Kb(n:Nat):List X:=[.v (.int .u64 (n:Int))]
def ef(l:List Int):List X:=[.fz 1 (l.map ah)]
def ij(l:List Int):List X:=[.dK 1 (l.map ah)]
theorem nD(l:List Int):X.b6 (ef l) = true:=rfl
theorem Ep(l:List Int):X.kF (ij l) = ef l:=by
 show [X.fz 1 (X.o9 (l.map ah))] = _
 rw [X.ue (g:=ah) (fun _=>rfl)]; rfl
structure Cell where
 kind:Int
 op:Int
 out:Int
 args:List Int
 num:Nat
 mem:Int
instance:Inhabited Cell:=⟨⟨0,0,0,[],0,0⟩⟩
def Cell.row(c:Cell):List X:=[.v (.int .i64 c.kind),.v (.int .i64 c.op),.v (.int .i64 c.out),.fz 1 (c.args.map ah),.v (.int .u64 (c.num:Int)),.v (.int .i64 c.mem)]
theorem Cell.bE(c:Cell):X.b6 c.row = true:=rfl
structure eQ where
 name:ByteArray
 width:Int
 len:Int
 kind:Int
 ui:Int
instance:Inhabited eQ:=⟨⟨ByteArray.empty,0,0,0,0⟩⟩
def eQ.row(a:eQ):List X:=[.v (.string a.name),.v (.int .i64 a.width),.v (.int .i64 a.len),.v (.int .i64 a.kind),.v (.int .i64 a.ui)]
theorem eQ.bE(c:eQ):X.b6 c.row = true:=rfl
theorem eQ.lG(c:eQ):X.fm c.row:=⟨trivial,trivial,trivial,trivial,trivial,trivial⟩
structure bI where
 name:ByteArray
 width:Int
 out:Bool
instance:Inhabited bI:=⟨⟨ByteArray.empty,0,false⟩⟩
def bI.row(a:bI):List X:=[.v (.string a.name),.v (.int .i64 a.width),.v (.bool a.out)]
theorem bI.bE(c:bI):X.b6 c.row = true:=rfl
theorem bI.lG(c:bI):X.fm c.row:=⟨trivial,trivial,trivial,trivial⟩
structure ae where
 name:ByteArray
 aa:List Int
 cells:List Cell
 ins:List Int
 aD:List eQ
 streams:List bI
 bD:List Int
 data:List Int
 freeze:Int
 done:Int
 cH:List Int
def ae.row(n : ae) : List X := [.v (.string n.name), .fz 1 (n.aa.map ah), .fz 6 (n.cells.map Cell.row), .fz 1 (n.ins.map ah), .fz 5 (n.aD.map eQ.row), .fz 3 (n.streams.map bI.row),
 .fz 1 (n.bD.map ah),.fz 1 (n.data.map ah),.v (.int .i64 n.freeze),.v (.int .i64 n.done),.fz 1 (n.cH.map ah)]
structure ae.Small(n:ae):Prop where
 name:n.name.size <= 140737488351232
 aa:n.aa.length <= 17592186043904
 cells:n.cells.length <= 2199023255488
 args:∀ c ∈ n.cells,c.args.length <= 17592186043904
 GG:(n.cells.map (fun c=>c.args.length)).sum <= 8796093022208
 zP:∀ c ∈ n.cells,c.num < 18446744073709551616
 mT:∀ m ∈ n.aD,m.name.size <= 140737488351232
 mU:∀ m ∈ n.streams,m.name.size <= 140737488351232
 ins:n.ins.length <= 17592186043904
 aD:n.aD.length <= 2932031007317
 streams:n.streams.length <= 4398046510976
 bD:n.bD.length <= 17592186043904
 data:n.data.length <= 17592186043904
 cH:n.cH.length <= 17592186043904
open Go Go.AW Go.Proofs
section
variable {H:Type} {enc:TypeId × Value -> H} {W:World} {base:Nat}
theorem xG:Reads enc Try.prog W base 3 ah (fun z=>(Lit.int .i64 z).wf = true) (fun _=>1):=Reads.int Try.underlying3
theorem Bp:Reads enc Try.prog W base 66 Kb (fun z=>z < 18446744073709551616) (fun _=>1):=Reads.Nz Try.underlying66
theorem se:Reads enc Try.prog W base 5 uh (fun z=>z < 256) (fun _=>1):=Reads.RK Try.underlying5
theorem Kc:Reads enc Try.prog W base 22 ef (fun l=>l.length * 8 <= 140737488351232 /\ ∀ a ∈ l,(Lit.int .i64 a).wf = true) (fun l=>(l.map (fun _=>1)).sum):=Reads.slice Try.underlying22 au ab au xG
theorem Ho:Try.prog.cellsOf 3 = 1:=by kernel_rfl
theorem ND:Try.prog.cellsOf 22 = 1:=by kernel_rfl
theorem IV:Try.prog.cellsOf 66 = 1:=by kernel_rfl
theorem Er{α:Type}(l:List α):(l.map (fun _=>1)).sum = l.length:=by
 induction l with
 | nil=>rfl
 | cons a r ih=>simp only [List.map_cons,List.sum_cons,List.length_cons,ih]; omega
def IW(c:Cell):Prop:=c.args.length * 8 <= 140737488351232 /\ c.num < 18446744073709551616
theorem Kd:Reads enc Try.prog W base 73 Cell.row IW (fun c=>c.args.length) :=
 (Reads.struct Try.underlying73 au (eH.cons rfl Ho xG (eH.cons rfl Ho xG (eH.cons rfl Ho xG (eH.cons rfl ND Kc (eH.cons rfl IV Bp (eH.cons rfl Ho xG eH.nil))))))).map
  (fun x=>(⟨x.1,x.2.1,x.2.2.1,x.2.2.2.1,x.2.2.2.2.1,x.2.2.2.2.2.1⟩:Cell)) (fun _=>rfl) (fun x h=>⟨h.2.2.2.1.1,h.2.2.2.2.1⟩) (fun x=>by simp only [Er]; omega)
structure ae.Vx(n:ae):Prop where
 name:n.name.size <= 140737488351232
 aa:n.aa.length <= 17592186043904
 cells:n.cells.length <= 2199023255488
 args:∀ c ∈ n.cells,c.args.length <= 17592186043904
 zP:∀ c ∈ n.cells,c.num < 18446744073709551616
 mT:∀ m ∈ n.aD,m.name.size <= 140737488351232
 mU:∀ m ∈ n.streams,m.name.size <= 140737488351232
 ins:n.ins.length <= 17592186043904
 aD:n.aD.length <= 2932031007317
 streams:n.streams.length <= 4398046510976
 bD:n.bD.length <= 17592186043904
 data:n.data.length <= 17592186043904
 cH:n.cH.length <= 17592186043904
theorem ae.Vx.small{n:ae}(h:n.Vx)(ht:(n.cells.map (fun c=>c.args.length)).sum <= 8796093022208):n.Small:=⟨h.name,h.aa,h.cells,h.args,ht,h.zP,h.mT,h.mU,h.ins,h.aD,h.streams,h.bD,h.data,h.cH⟩
end
open Go Go.AW
def eI(x:Nat):Prop:=(97 <= x /\ x <= 122) \/ (65 <= x /\ x <= 90) \/ (48 <= x /\ x <= 57) \/ x = 95
def lH(s:ByteArray):Prop:=(∀ i,i < s.size -> eI (aL s i)) /\ s.size <= 64
def dk(w:Int):Prop:=1 <= w /\ w <= 64
def cy(op:Int):Int:=if (2 <= op /\ op <= 3) \/ (9 <= op /\ op <= 20) then 2 else if op = 21 then 3 else if 22 <= op /\ op <= 24 then 1 else 0
theorem Zp{p:Prop}(h:p:=by ((simp only [Shaped,cy,Int.reduceEq,Bool.not_eq_true,false_and,true_and,and_true,and_false,or_false,false_or,ne_eq]) <;> (first | omega | grind))):p:=h
def Shaped(n:ae)(c:Cell):Prop :=
 (c.kind = 1 /\ c.args.length = 0 /\ c.op = 0 /\ c.mem = 0) \/
 (c.kind = 2 /\ cy c.op ≠ 0 /\ (c.args.length:Int) = cy c.op /\ c.num = 0 /\ c.mem = 0) \/
 (c.kind = 3 /\ 2 <= c.args.length /\ c.args.length % 2 = 0 /\ c.op = 0 /\ c.num = 0 /\ c.mem = 0) \/
 (c.kind = 4 /\ c.args.length = 2 /\ c.op = 0 /\ c.mem = 0) \/
 (c.kind = 5 /\ c.args.length = 2 /\ (4 <= c.op /\ c.op <= 8) /\ (1 <= c.num /\ c.num <= 4096) /\ c.mem = 0) \/
 (c.kind = 6 /\ c.args.length = 2 /\ c.op = 0 /\ c.num = 0 /\ 0 <= c.mem /\ c.mem < n.aD.length) \/
 (c.kind = 7 /\ c.args.length = 3 /\ c.op = 0 /\ c.num = 0 /\ 0 <= c.mem /\ c.mem < n.aD.length) \/
 (c.kind = 8 /\ c.args.length = 0 /\ c.op = 0 /\ c.num < n.ins.length /\ c.mem = 0) \/
 (c.kind = 9 /\ c.args.length = 0 /\ c.op = 0 /\ c.num = 0 /\ 0 <= c.mem /\ c.mem < n.streams.length) \/
 (c.kind = 10 /\ c.args.length = 0 /\ c.op = 0 /\ c.num = 0 /\ (0 <= c.mem /\ c.mem < n.streams.length) /\ (n.streams.getD c.mem.toNat default).out = false)
theorem Zq{p:Prop}(h:p:=by ((simp only [Shaped,Int.reduceEq,Bool.not_eq_true,false_and,true_and,and_true,and_false,or_false,false_or,ne_eq]) <;> (first | omega | grind))):p:=h
theorem ic{p:Prop}(h:p:=by ((simp only [Shaped, *,Int.reduceEq,Bool.not_eq_true,false_and,true_and,and_true,and_false,or_false,false_or,ne_eq]) <;> (first | omega | grind))):p:=h
noncomputable instance (s:ByteArray):Decidable (lH s):=Classical.propDecidable _
instance (w:Int):Decidable (dk w):=by unfold dk; infer_instance
noncomputable instance (n:ae) (c:Cell):Decidable (Shaped n c):=Classical.propDecidable _
theorem dt{p:Prop}[Decidable p](h:p):true = decide p:=(decide_eq_true h).symm
theorem df{p:Prop}[Decidable p](h:¬ p):false = decide p:=(decide_eq_false h).symm
theorem dd{p q:Prop}[Decidable p][Decidable q](h:p ↔ q):decide p = decide q:=by
 by_cases hq:q
 ·rw [decide_eq_true hq,decide_eq_true (h.2 hq)]
 ·rw [decide_eq_false hq,decide_eq_false (fun hp=>hq (h.1 hp))]
theorem db{b:Bool}{q:Prop}[Decidable q](h:b = true ↔ q):b = decide q:=by
 cases b
 ·exact df (fun hq=>by have:=h.2 hq; cases this)
 ·exact dt (h.1 rfl)
open Go Go.AW
def gh(w:Int):Nat:=if w < 0 then 0 else if 64 < w then 64 else w.toNat
theorem ky(w:Int):gh w <= 64:=by unfold gh; (repeat' split) <;> omega
def gA(w:Int)(x:Nat):Nat:=x % 2 ^ gh w
theorem zQ:∀ k:Nat,k < 65 -> 18446744073709551615 / 2 ^ (64 - k) = 2 ^ k - 1:=by decide +kernel
theorem jB:∀ k:Nat,k < 65 -> 1 <= 2 ^ k /\ 2 ^ k <= 18446744073709551616:=by decide +kernel
theorem Hp(w:Int):18446744073709551615 / 2 ^ (64 - gh w) = 2 ^ gh w - 1:=zQ _ (by have:=ky w; omega)
theorem Hq(w:Int):2 ^ gh w - 1 < 18446744073709551616:=by have:=jB (gh w) (by have:=ky w; omega); omega
theorem Es(w:Int)(x:Nat):x &&& (2 ^ gh w - 1) = gA w x:=Nat.and_two_pow_sub_one_eq_mod x (gh w)
theorem tu(w:Int)(x:Nat):gA w x < 2 ^ gh w:=Nat.mod_lt _ (by have:=jB (gh w) (by have:=ky w; omega); omega)
theorem vI(w:Int)(x:Nat):gA w x < 18446744073709551616:=by have:=tu w x; have:=jB (gh w) (by have:=ky w; omega); omega
def jT(k x:Nat):List Int:=(List.range k).map fun i=>((x / 2 ^ i % 2:Nat):Int)
theorem C7(k x:Nat):(jT k x).length = k:=by simp [jT]
theorem zR(k x:Nat):jT (k + 1) x = jT k x ++ [((x / 2 ^ k % 2:Nat):Int)]:=by
 simp [jT,List.range_succ]
def gj(l:List Int):Nat:=l.foldr (fun b a=>2 * a + b.toNat) 0
theorem zS(l:List Int)(i:Nat)(h:i < l.length):gj (l.drop i) = 2 * gj (l.drop (i + 1)) + (l.getD i 0).toNat:=by
 rw [List.drop_eq_getElem_cons h,List.getD_eq_getElem?_getD,List.getElem?_eq_getElem h]; rfl
theorem xH(l:List Int)(h:∀ b ∈ l,b.toNat <= 1):gj l < 2 ^ l.length:=by
 induction l with
 | nil=>simp [gj]
 | cons b r ih =>
  have h1:=ih (fun x hx=>h x (List.mem_cons_of_mem _ hx)); have h2:=h b (List.mem_cons_self ..)
  show 2 * gj r + b.toNat < 2 ^ (r.length + 1)
  rw [Nat.pow_succ]; omega
theorem C8{l : List Int}{i : Int}{x : Nat}(h1 : ∀ b ∈ l, 0 ≤ b ∧ b ≤ 1)(h2 : l.length ≤ 64)(hi : 0 ≤ i ∧ i < (l.length : Int))(hx : x = gj (l.drop (i + 1).toNat)) :
  ((2 * x % 18446744073709551616) + (l.getD i.toNat 0).toNat) % 18446744073709551616 = gj (l.drop (i - 1 + 1).toNat):=by
 have hs:=zS l i.toNat om
 have hl:=xH (l.drop i.toNat) (fun b hb=>by have:=h1 b (List.mem_of_mem_drop hb); omega)
 have hp:=jB (l.drop i.toNat).length (by rw [List.length_drop]; omega)
 rw [show (i + 1).toNat = i.toNat + 1 by omega] at hx
 rw [show i - 1 + 1 = i by omega,hs,<- hx]
 rw [hs,<- hx] at hl
 omega
theorem C9{x k:Nat}(hx:x = 2 ^ k - 1)(hk:k < 64):((2 * x % 18446744073709551616) + 1) % 18446744073709551616 = 2 ^ (k + 1) - 1:=by
 have h1:=jB (k + 1) om; have h2:=jB k om
 rw [Nat.pow_succ] at h1 ⊢; omega
theorem cg{l:List Int}{i:Nat}(h:i < l.length):l.getD i 0 ∈ l:=by
 rw [List.getD_eq_getElem?_getD,List.getElem?_eq_getElem h]; exact List.getElem_mem h
theorem Et(k x:Nat):∀ b ∈ jT k x,0 <= b /\ b <= 1:=by
 intro b hb
 obtain ⟨i,_,rfl⟩:=List.mem_map.1 hb
 omega
theorem zT(k x:Nat):gj (jT k x) = x % 2 ^ k:=by
 induction k generalizing x with
 | zero=>simp [gj,jT,Nat.mod_one]
 | succ k ih =>
  have e:jT (k + 1) x = ((x % 2:Nat):Int) :: jT k (x / 2):=by
   unfold jT
   rw [List.range_succ_eq_map,List.map_cons,List.map_map]
   congr 1
   ·simp
   ·apply List.map_congr_left
    intro i _
    show (((x / 2 ^ (i + 1) % 2:Nat)):Int) = _
    rw [Nat.pow_succ,Nat.mul_comm,<- Nat.div_div_eq_div_mul]
  rw [e]
  show 2 * gj (jT k (x / 2)) + (((x % 2:Nat):Int)).toNat = _
  rw [ih,Int.toNat_natCast,Nat.pow_succ,Nat.mul_comm (2 ^ k) 2,Nat.mod_mul]; omega
def eY(op:Int):Prop:=15 <= op /\ op <= 20
def Eu(op:Int):Prop:=2 <= op /\ op <= 20
def Seq(op:Int):Prop:=4 <= op /\ op <= 8
def Unary(op:Int):Prop:=op = 22 \/ op = 23 \/ op = 24
def Plain(op:Int):Prop:=(Eu op /\ ¬ Seq op) \/ op = 21 \/ Unary op
def cU(k:Int):Prop:=k = 1 \/ k = 2 \/ k = 3
def In(i n:Int):Prop:=0 <= i /\ i < n
theorem ik{p:Prop}(h:p:=by first | omega | (simp [-List.getD_eq_getElem?_getD]; done) | (simp [-List.getD_eq_getElem?_getD]; omega) | (unfold In at *; omega)):p:=h
instance (w:Int):Decidable (eY w):=by unfold eY; infer_instance
instance (w:Int):Decidable (Eu w):=by unfold Eu; infer_instance
instance (w:Int):Decidable (Seq w):=by unfold Seq; infer_instance
instance (w:Int):Decidable (Unary w):=by unfold Unary; infer_instance
instance (w:Int):Decidable (Plain w):=by unfold Plain; infer_instance
instance (w:Int):Decidable (cU w):=by unfold cU; infer_instance
instance (i n:Int):Decidable (In i n):=by unfold In; infer_instance
open Go Go.AW
def ae.wd(n:ae)(x:Int):Int:=n.aa.getD x.toNat 0
def ae.ow(n:ae)(c:Cell):Int:=if 0 <= c.out then n.wd c.out else 0
def ae.av(n:ae)(c:Cell)(k:Nat):Int:=n.wd (c.args.getD k 0)
def bR(op a b d w:Int):Prop :=
 (op = 21 /\ a = 1 /\ b = w /\ d = w) \/ ((op = 22 \/ op = 23) /\ a <= w) \/ (op = 24 /\ w <= a) \/ (eY op /\ w = 1 /\ a = b) \/ (¬ eY op /\ (op < 21 \/ 24 < op) /\ a = w /\ b = w)
def fo(n:ae)(c:Cell)(k:Nat):Prop:=(k % 2 = 0 /\ n.av c k = 1) \/ (k % 2 = 1 /\ n.av c k = n.ow c)
def Fits(n:ae)(c:Cell):Prop :=
 (c.kind = 1 /\ gA (n.ow c) c.num = c.num) \/
 (c.kind = 2 /\ bR c.op (n.av c 0) (n.av c 1) (n.av c 2) (n.ow c)) \/
 (c.kind = 3 /\ ∀ k,k < c.args.length -> fo n c k) \/
 (c.kind = 4 /\ n.av c 0 = 1 /\ n.av c 1 = n.ow c /\ gA (n.ow c) c.num = c.num) \/
 (c.kind = 5 /\ n.av c 0 = n.ow c /\ n.av c 1 = n.ow c) \/
 (c.kind = 6 /\ n.av c 0 = 1 /\ (n.aD.getD c.mem.toNat default).width = n.ow c) \/
 (c.kind = 7 /\ n.av c 0 = 1 /\ (n.aD.getD c.mem.toNat default).width = n.av c 2) \/
 (c.kind = 8 /\ n.ins.getD c.num 0 = n.ow c) \/
 (c.kind = 9 /\ n.ow c = 1) \/
 (c.kind = 10 /\ (n.streams.getD c.mem.toNat default).width = n.ow c)
theorem yP{p:Prop}(h:p:=by ((simp only [Fits,bR,eY, *,Int.reduceEq,Bool.not_eq_true,false_and,true_and,and_true,and_false,or_false,false_or,ne_eq]) <;> omega)):p:=h
instance (op a b d w:Int):Decidable (bR op a b d w):=by unfold bR; infer_instance
noncomputable instance (n:ae) (c:Cell):Decidable (Fits n c):=Classical.propDecidable _
structure vJ(n:ae)(c:Cell):Prop where
 out:c.out = -1 /\ c.kind = 7 \/ (0 <= c.out /\ c.out < n.aa.length) /\ c.kind ≠ 7
 args:∀ x ∈ c.args,0 <= x /\ x < n.aa.length
theorem vJ.arg{n:ae}{c:Cell}(h:vJ n c){k:Nat}(hk:k < c.args.length):0 <= c.args.getD k 0 /\ c.args.getD k 0 < n.aa.length:=h.args _ (cg hk)
section
variable {n:ae} {c:Cell} (h:Shaped n c)
include h
theorem Shaped.k2(k:c.kind = 2):((2 <= c.op /\ c.op <= 3 \/ 9 <= c.op /\ c.op <= 20) /\ c.args.length = 2) \/ (c.op = 21 /\ c.args.length = 3) \/ (22 <= c.op /\ c.op <= 24 /\ c.args.length = 1):=by
 simp only [Shaped,k,Int.reduceEq,false_and,true_and,false_or,or_false] at h
 obtain ⟨h1,h2,_⟩:=h
 unfold cy at h1 h2
 split at h2
 ·omega
 ·split at h2
  ·omega
  ·split at h2 <;> omega
theorem Shaped.k3(k:c.kind = 3):2 <= c.args.length /\ c.args.length % 2 = 0:=by simp only [Shaped,k,Int.reduceEq,false_and,true_and,false_or,or_false] at h; omega
theorem Shaped.k4(k:c.kind = 4):c.args.length = 2:=by simp only [Shaped,k,Int.reduceEq,false_and,true_and,false_or,or_false] at h; omega
theorem Shaped.k5(k:c.kind = 5):c.args.length = 2 /\ 4 <= c.op /\ c.op <= 8 /\ 1 <= c.num /\ c.num <= 4096:=by simp only [Shaped,k,Int.reduceEq,false_and,true_and,false_or,or_false] at h; omega
theorem Shaped.k6(k:c.kind = 6):c.args.length = 2 /\ 0 <= c.mem /\ c.mem < n.aD.length:=by simp only [Shaped,k,Int.reduceEq,false_and,true_and,false_or,or_false] at h; omega
theorem Shaped.k7(k:c.kind = 7):c.args.length = 3 /\ 0 <= c.mem /\ c.mem < n.aD.length:=by simp only [Shaped,k,Int.reduceEq,false_and,true_and,false_or,or_false] at h; omega
theorem Shaped.k8(k:c.kind = 8):c.num < n.ins.length:=by simp only [Shaped,k,Int.reduceEq,false_and,true_and,false_or,or_false] at h; omega
theorem Shaped.k9(k:c.kind = 9):0 <= c.mem /\ c.mem < n.streams.length:=by simp only [Shaped,k,Int.reduceEq,false_and,true_and,false_or,or_false] at h; omega
theorem Shaped.NF(k:c.kind = 10):0 <= c.mem /\ c.mem < n.streams.length:=by simp only [Shaped,k,Int.reduceEq,false_and,true_and,false_or,or_false] at h; omega
theorem Shaped.kind:1 <= c.kind /\ c.kind <= 10:=by unfold Shaped at h; omega
end
theorem bP{α:Type}(l:List α)(i j:Nat)(v d:α):(l.set i v).getD j d = if i = j /\ i < l.length then v else l.getD j d:=by
 rw [List.getD_eq_getElem?_getD,List.getD_eq_getElem?_getD,List.getElem?_set]
 by_cases h:i = j
 ·subst h
  by_cases h2:i < l.length
  ·simp [h2]
  ·simp [h2]
 ·simp [h]
theorem CA{α:Type}{l:List α}{i:Nat}{d v:α}{f:Nat -> α}(h:∀ j,j < i -> l.getD j d = f j)(hv:v = f i)(hi:i < l.length):∀ j,j < i + 1 -> (l.set i v).getD j d = f j:=by
 intro j hj
 rw [bP]
 split
 ·next e=>rw [<- e.1]; exact hv
 ·exact h j om
theorem uj{n:ae}{c:Cell}{i:Nat}(h:∀ k,k < i -> fo n c k)(hi:fo n c i):∀ k,k < i + 1 -> fo n c k:=by
 intro k hk
 rcases Nat.lt_succ_iff_lt_or_eq.1 hk with h1 | h1
 ·exact h k h1
 ·exact h1 ▸ hi
open Go Go.AW
section
variable {α:Type} {d:α} {p:α -> Bool} {l:List α}
def wC(p:α -> Bool)(l:List α):Int:=if l.any p then (l.findIdx p:Int) else -1
theorem qD{i:Nat}(h0:∀ j,j < i -> p (l.getD j d) = false)(hi:i < l.length)(h:p (l.getD i d) = true):(i:Int) = wC p l:=by
 have e:l.findIdx p = i:=by
  rw [List.findIdx_eq hi]
  rw [List.getD_eq_getElem?_getD,List.getElem?_eq_getElem hi] at h
  refine ⟨h,fun j hj=>?_⟩
  have:=h0 j hj
  rw [List.getD_eq_getElem?_getD,List.getElem?_eq_getElem om] at this
  exact this
 have ha:l.any p = true:=by
  rw [List.any_eq_true]
  refine ⟨l.getD i d,?_,h⟩
  rw [List.getD_eq_getElem?_getD,List.getElem?_eq_getElem hi]; exact List.getElem_mem hi
 unfold wC; rw [if_pos ha,e]
theorem sf(h0:∀ j,j < l.length -> p (l.getD j d) = false):-1 = wC p l:=by
 have ha:¬ (l.any p = true):=by
  rw [List.any_eq_true]
  rintro ⟨x,hx,hp⟩
  obtain ⟨i,hi,rfl⟩:=List.mem_iff_getElem.1 hx
  have:=h0 i hi
  rw [List.getD_eq_getElem?_getD,List.getElem?_eq_getElem hi] at this
  exact absurd (hp.symm.trans this) ab
 unfold wC; rw [if_neg ha]
theorem uk:decide (0 <= wC p l) = l.any p:=by
 unfold wC
 by_cases h:l.any p = true
 ·rw [if_pos h,h]; simp
 ·rw [if_neg h]; simp only [Bool.not_eq_true] at h; rw [h]; rfl
theorem oG{i:Nat}(h:∀ j,j < i -> p (l.getD j d) = false)(hi:p (l.getD i d) = false):∀ j,j < i + 1 -> p (l.getD j d) = false:=by
 intro k hk
 rcases Nat.lt_succ_iff_lt_or_eq.1 hk with h1 | h1
 ·exact h k h1
 ·exact h1 ▸ hi
theorem eC{i:Nat}(h:i < l.length):l.getD i d ∈ l:=by
 rw [List.getD_eq_getElem?_getD,List.getElem?_eq_getElem h]; exact List.getElem_mem h
theorem vK{ls:List (List α)}{i:Nat}(hi:i < ls.length):(ls.take (i + 1)).flatten = (ls.take i).flatten ++ ls.getD i []:=by
 rw [List.take_add_one,List.flatten_append,List.getD_eq_getElem?_getD,List.getElem?_eq_getElem hi]; simp
theorem rr(ls:List (List α))(i:Nat):(ls.take i).flatten.length <= ls.flatten.length:=by
 conv=>rhs; rw [<- List.take_append_drop i ls,List.flatten_append,List.length_append]
 omega
end
open Go Go.AW
def iP(m:eQ):Prop:=lH m.name /\ dk m.width /\ 1 <= m.len /\ m.len <= 4096 /\ m.kind = 0 /\ m.ui = 0
def gk(n:ae)(i:Nat):Prop :=
 lH (n.streams.getD i default).name /\ dk (n.streams.getD i default).width /\ In (n.bD.getD i 0) n.aa.length /\
 ((n.streams.getD i default).out = true -> In (n.data.getD i 0) n.aa.length) /\ ((n.streams.getD i default).out = false -> n.data.getD i 0 = -1)
def jC(n:ae)(c:Cell):Prop:=(∀ x ∈ c.args,In x n.aa.length) /\ Shaped n c /\ (c.kind = 7 -> c.out = -1) /\ (c.kind ≠ 7 -> In c.out n.aa.length)
def dx(l:List Cell)(w:Nat):Nat:=l.countP (fun c=>decide (c.kind ≠ 7 /\ c.out = (w:Int)))
structure bx(n:ae):Prop where
 name:lH n.name
 dm:n.cells.length <= 65536
 cO:n.aa.length <= 65536
 gB:n.aD.length <= 64
 bZ:n.streams.length <= 64
 dy:n.bD.length = n.streams.length
 gm:n.data.length = n.streams.length
 wide:∀ j,j < (n.aa ++ n.ins).length -> dk ((n.aa ++ n.ins).getD j 0)
 aD:∀ j,j < n.aD.length -> iP (n.aD.getD j default)
 strs:∀ j,j < n.streams.length -> gk n j
 freeze:In n.freeze n.aa.length
 done:In n.done n.aa.length
 cH:∀ r ∈ n.cH,In r n.aa.length
 cells:∀ j,j < n.cells.length -> jC n (n.cells.getD j default)
 jY:∀ w,w < n.aa.length -> dx n.cells w = 1
noncomputable instance (n:ae):Decidable (bx n):=Classical.propDecidable _
theorem dp{p:Nat -> Prop}{i:Nat}(h:∀ j,j < i -> p j)(hi:p i):∀ j,j < i + 1 -> p j:=by
 intro k hk
 rcases Nat.lt_succ_iff_lt_or_eq.1 hk with h1 | h1
 ·exact h k h1
 ·exact h1 ▸ hi
theorem gp{l:List Cell}{i:Nat}(hi:i < l.length)(w:Nat):dx (l.take (i + 1)) w = dx (l.take i) w + if (l.getD i default).kind ≠ 7 /\ (l.getD i default).out = (w:Int) then 1 else 0:=by
 rw [List.take_add_one,List.getElem?_eq_getElem hi,List.getD_eq_getElem?_getD,List.getElem?_eq_getElem hi]
 simp only [dx,List.countP_append,Option.toList_some,List.countP_cons,List.countP_nil,Option.getD_some,Nat.zero_add,decide_eq_true_eq]
theorem si(l:List Cell)(i w:Nat):dx (l.take i) w <= dx l w:=by
 conv=>rhs; rw [<- List.take_append_drop i l]
 simp only [dx,List.countP_append]; omega
def xh(n:ae)(i:Nat)(d:List Bool):Prop:=∀ w,w < n.aa.length -> dx (n.cells.take i) w <= 1 /\ (d.getD w false = true ↔ dx (n.cells.take i) w = 1)
theorem xh.init(n:ae):xh n 0 (List.replicate n.aa.length false):=by
 intro w hw
 refine ⟨by simp [dx],?_⟩
 rw [List.getD_eq_getElem?_getD,List.getElem?_replicate,if_pos hw]; simp [dx]
theorem xh.skip{n:ae}{i:Nat}{d:List Bool}(h:xh n i d)(hi:i < n.cells.length)(h7:(n.cells.getD i default).kind = 7):xh n (i + 1) d:=by
 intro w hw
 rw [gp hi,if_neg (fun h=>h.1 h7)]
 exact h w hw
theorem xh.step{n : ae}{i : Nat}{d : List Bool}(h : xh n i d)(hi : i < n.cells.length)(h7 : (n.cells.getD i default).kind ≠ 7)(ho : In (n.cells.getD i default).out n.aa.length)
  (hl:d.length = n.aa.length) (hn:d.getD (n.cells.getD i default).out.toNat false = false):xh n (i + 1) (d.set (n.cells.getD i default).out.toNat true):=by
 intro w hw
 have hh:=h w hw
 rw [gp hi,bP]
 unfold In at ho
 by_cases e:(n.cells.getD i default).out = (w:Int)
 ·rw [if_pos ⟨h7,e⟩,if_pos ⟨om,om⟩]
  have e2:(n.cells.getD i default).out.toNat = w:=by omega
  rw [e2] at hn
  have h0:dx (n.cells.take i) w ≠ 1:=fun h1=>by have:=hh.2.2 h1; rw [hn] at this; cases this
  have Zr:=hh.1
  exact ⟨om,by simp; omega⟩
 ·rw [if_neg (fun h=>e h.2),if_neg om]
  exact hh
theorem xh.dup{n : ae}{i : Nat}{d : List Bool}(h : xh n i d)(hi : i < n.cells.length)(h7 : (n.cells.getD i default).kind ≠ 7)(ho : In (n.cells.getD i default).out n.aa.length)
  (hn:d.getD (n.cells.getD i default).out.toNat false = true) (hf:bx n):False:=by
 unfold In at ho
 have hh:=h (n.cells.getD i default).out.toNat om
 have h1:=hh.2.1 hn
 have h2:=gp hi (n.cells.getD i default).out.toNat
 rw [if_pos ⟨h7,om⟩,h1] at h2
 have h3:=si n.cells (i + 1) (n.cells.getD i default).out.toNat
 have h4:=hf.jY (n.cells.getD i default).out.toNat om
 omega
theorem xh.all{n:ae}{d:List Bool}(h:xh n n.cells.length d)(hl:d.length = n.aa.length):(!(d.any (fun x=>false == x))) = true ↔ ∀ w,w < n.aa.length -> dx n.cells w = 1:=by
 unfold xh at h
 rw [List.take_length] at h
 rw [Bool.not_eq_true',List.any_eq_false]
 constructor
 ·intro ha w hw
  refine (h w hw).2.1 ?_
  have:=ha (d.getD w false) (eC om)
  cases hd:d.getD w false
  ·rw [hd] at this; exact absurd rfl this
  ·rfl
 ·intro ha x hx
  obtain ⟨w,hw,rfl⟩:=List.mem_iff_getElem.1 hx
  have:=(h w om).2.2 (ha w om)
  rw [List.getD_eq_getElem?_getD,List.getElem?_eq_getElem hw] at this
  have t:d[w] = true:=this
  rw [t]; decide
theorem pq{l:List Int}{p:Int -> Prop}[DecidablePred p]:(l.any (fun z=>!decide (p z))) = true ↔ ¬ ∀ z ∈ l,p z:=by
 rw [List.any_eq_true]
 constructor
 ·rintro ⟨x,hx,hp⟩ h
  simp [h x hx] at hp
 ·intro h
  refine Classical.byContradiction fun hh=>h fun z hz=>Classical.byContradiction fun hp=>hh ⟨z,hz,by simp [hp]⟩
theorem m9{l:List Int}{p:Int -> Prop}[DecidablePred p](h:(l.any (fun z=>!decide (p z))) = false):∀ z ∈ l,p z:=by
 refine Classical.byContradiction fun hh=>?_
 rw [pq.2 hh] at h; cases h
open Go Go.AW
def jD(n:ae)(i:Nat):Prop:=n.wd (n.bD.getD i 0) = 1 /\ ((n.streams.getD i default).out = true -> n.wd (n.data.getD i 0) = (n.streams.getD i default).width)
structure Fit(n:ae):Prop where
 freeze:n.wd n.freeze = 1
 done:n.wd n.done = 1
 strs:∀ j,j < n.streams.length -> jD n j
 cells:∀ j,j < n.cells.length -> Fits n (n.cells.getD j default)
noncomputable instance (n:ae):Decidable (Fit n):=Classical.propDecidable _
theorem jC.IX{n:ae}{c:Cell}(h:jC n c):vJ n c:=by
 obtain ⟨h1,h2,h3,h4⟩:=h
 refine ⟨?_,h1⟩
 by_cases h7:c.kind = 7
 ·exact .inl ⟨h3 h7,h7⟩
 ·exact .inr ⟨h4 h7,h7⟩
theorem bx.cell{n:ae}(h:bx n){c:Cell}(hc:c ∈ n.cells):jC n c:=by
 obtain ⟨i,hi,rfl⟩:=List.mem_iff_getElem.1 hc
 have:=h.cells i hi
 rw [List.getD_eq_getElem?_getD,List.getElem?_eq_getElem hi] at this
 exact this
theorem Ev{α:Type}{l:List α}{p:α -> Prop}[DecidablePred p]:(l.any (fun z=>!decide (p z))) = true ↔ ¬ ∀ z ∈ l,p z:=by
 rw [List.any_eq_true]
 constructor
 ·rintro ⟨x,hx,hp⟩ h
  simp [h x hx] at hp
 ·intro h
  refine Classical.byContradiction fun hh=>h fun z hz=>Classical.byContradiction fun hp=>hh ⟨z,hz,by simp [hp]⟩
theorem oH{α:Type}{l:List α}{p:α -> Prop}{d:α}:(∀ j,j < l.length -> p (l.getD j d)) ↔ ∀ z ∈ l,p z:=by
 constructor
 ·intro h z hz
  obtain ⟨i,hi,rfl⟩:=List.mem_iff_getElem.1 hz
  have:=h i hi
  rw [List.getD_eq_getElem?_getD,List.getElem?_eq_getElem hi] at this
  exact this
 ·exact fun h j hj=>h _ (eC hj)
theorem xI{n:ae}(h1:n.wd n.freeze = 1)(h2:n.wd n.done = 1)(h3:∀ j,j < n.streams.length -> jD n j):(!(n.cells.any (fun z=>!decide (Fits n z)))) = true ↔ Fit n:=by
 rw [Bool.not_eq_true',<- Bool.not_eq_true,Ev,Classical.not_not,<- oH (d:=default)]
 exact ⟨fun h=>⟨h1,h2,h3,h⟩,fun h=>h.cells⟩
open Go Go.AW
theorem length_le_of_subset{α : Type}[DecidableEq α] : ∀ {l m : List α}, l.Nodup → (∀ x ∈ l, x ∈ m) → l.length ≤ m.length
 | [],_,_,_=>Nat.zero_le _
 | a :: t,m,hn,hs=>by
  have ha:=hs a (List.mem_cons_self ..)
  obtain ⟨h1,h2⟩:=List.nodup_cons.1 hn
  have:=length_le_of_subset (l:=t) (m:=m.erase a) h2 (fun x hx=>(List.mem_erase_of_ne (by rintro rfl; exact h1 hx)).2 (hs x (List.mem_cons_of_mem _ hx)))
  have hm:0 < m.length:=List.length_pos_of_mem ha
  rw [List.length_erase_of_mem ha] at this
  simp only [List.length_cons]; omega
def ae.cell(n:ae)(i:Int):Cell:=n.cells.getD i.toNat default
def cX(n:ae)(i w:Int):Prop:=(0 <= i /\ i < n.cells.length) /\ (n.cell i).kind ≠ 7 /\ (n.cell i).out = w
def bC(n:ae)(i:Int):Prop:=(0 <= i /\ i < n.cells.length) /\ cU (n.cell i).kind
def Bq(n:ae)(w:Int):Prop:=∃ j,bC n j /\ (n.cell j).out = w
noncomputable instance (n:ae):DecidablePred (Bq n):=fun _=>Classical.propDecidable _
noncomputable instance (n:ae) (i:Int):Decidable (bC n i):=Classical.propDecidable _
theorem bC.jZ{n:ae}{i:Int}(h:bC n i):cX n i (n.cell i).out:=⟨h.1,fun h7=>by have:=h.2; rw [h7] at this; revert this; unfold cU; omega,rfl⟩
theorem mV(n:ae)(i:Nat):n.cell (i:Int) = n.cells.getD i default:=rfl
theorem xJ{l:List Cell}{i j w:Nat}(h:i <= j):dx (l.take i) w <= dx (l.take j) w:=by
 have:=si (l.take j) i w
 rwa [List.take_take,Nat.min_eq_left h] at this
section
variable {n:ae} (hf:bx n)
include hf
theorem bx.cellAt{i:Int}(h:0 <= i /\ i < n.cells.length):jC n (n.cell i):=hf.cells i.toNat om
theorem bx.iQ{i w:Int}(h:cX n i w):In w n.aa.length:=h.2.2 ▸ (hf.cellAt h.1).2.2.2 h.2.1
theorem bx.um{i x:Int}(h:0 <= i /\ i < n.cells.length)(hx:x ∈ (n.cell i).args):In x n.aa.length:=(hf.cellAt h).1 x hx
theorem bx.unique{i j w:Int}(h1:cX n i w)(h2:cX n j w):i = j:=by
 have key:∀ {i j:Int},cX n i w -> cX n j w -> i < j -> False:=by
  intro i j h1 h2 gP
  have hw:=hf.iQ h1
  unfold In at hw
  obtain ⟨a1,a2,a3⟩:=h1
  obtain ⟨b1,b2,b3⟩:=h2
  have e1:=gp (l:=n.cells) (i:=i.toNat) om w.toNat
  have e2:=gp (l:=n.cells) (i:=j.toNat) om w.toNat
  rw [if_pos ⟨a2,by show (n.cell i).out = _; omega⟩] at e1
  rw [if_pos ⟨b2,by show (n.cell j).out = _; omega⟩] at e2
  have e3:=xJ (l:=n.cells) (i:=i.toNat + 1) (j:=j.toNat) (w:=w.toNat) om
  have e4:=si n.cells (j.toNat + 1) w.toNat
  have e5:=hf.jY w.toNat om
  omega
 rcases Int.lt_trichotomy i j with h | h | h
 ·exact (key h1 h2 h).elim
 ·exact h
 ·exact (key h2 h1 h).elim
theorem bx.sj{w:Int}(hw:In w n.aa.length):∃ i,cX n i w:=by
 unfold In at hw
 have h:=hf.jY w.toNat om
 have hp:0 < dx n.cells w.toNat:=by omega
 unfold dx at hp
 obtain ⟨c,hc,hp⟩:=List.countP_pos_iff.1 hp
 obtain ⟨i,hi,rfl⟩:=List.mem_iff_getElem.1 hc
 simp only [decide_eq_true_eq] at hp
 have e:n.cell (i:Int) = n.cells[i]:=by rw [mV,List.getD_eq_getElem?_getD,List.getElem?_eq_getElem hi]; rfl
 refine ⟨(i:Int),⟨om,om⟩,?_⟩
 rw [e]; exact ⟨hp.1,om⟩
end
def fQ(n:ae)(k:Nat)(l:List Bool):Prop:=∀ w:Int,In w n.aa.length -> (l.getD w.toNat false = true ↔ ∃ j,bC n j /\ j < k /\ (n.cell j).out = w)
theorem fQ.init(n:ae):fQ n 0 (List.replicate n.aa.length false):=by
 intro w hw
 unfold In at hw
 rw [List.getD_eq_getElem?_getD,List.getElem?_replicate,if_pos om]
 exact ⟨fun h=>(by cases h),fun ⟨j,h1,h2,_⟩=>(by have:=h1.1; omega)⟩
theorem fQ.skip{n:ae}{k:Nat}{l:List Bool}(h:fQ n k l)(hc:¬ cU (n.cells.getD k default).kind):fQ n (k + 1) l:=by
 intro w hw
 rw [h w hw]
 constructor
 ·rintro ⟨j,h1,h2,h3⟩; exact ⟨j,h1,om,h3⟩
 ·rintro ⟨j,h1,h2,h3⟩
  refine ⟨j,h1,?_,h3⟩
  rcases Int.lt_or_eq_of_le (show j <= k by omega) with h' | h'
  ·exact h'
  ·subst h'; exact absurd h1.2 hc
theorem fQ.step{n : ae}{k : Nat}{l : List Bool}(h : fQ n k l)(hk : k < n.cells.length)(hl : l.length = n.aa.length)(hc : cU (n.cells.getD k default).kind)(ho : In (n.cells.getD k default).out n.aa.length) :
  fQ n (k + 1) (l.set (n.cells.getD k default).out.toNat true):=by
 intro w hw
 unfold In at ho
 have qU:=hw
 unfold In at qU
 rw [bP]
 by_cases e:(n.cells.getD k default).out = w
 ·rw [if_pos ⟨om,om⟩]
  exact ⟨fun _=>⟨(k:Int),⟨⟨om,om⟩,hc⟩,om,e⟩,fun _=>rfl⟩
 ·rw [if_neg om,h w hw]
  constructor
  ·rintro ⟨j,h1,h2,h3⟩; exact ⟨j,h1,om,h3⟩
  ·rintro ⟨j,h1,h2,h3⟩
   refine ⟨j,h1,?_,h3⟩
   rcases Int.lt_or_eq_of_le (show j <= k by omega) with h' | h'
   ·exact h'
   ·subst h'; exact absurd h3 e
theorem fQ.all{n:ae}{l:List Bool}(h:fQ n n.cells.length l){w:Int}(hw:In w n.aa.length):l.getD w.toNat false = true ↔ Bq n w:=by
 rw [h w hw]
 exact ⟨fun ⟨j,h1,_,h3⟩=>⟨j,h1,h3⟩,fun ⟨j,h1,h3⟩=>⟨j,h1,by have:=h1.1; omega,h3⟩⟩
def gC(n:ae)(k:Nat):List Int:=((List.range k).filter (fun i=>!decide (cU (n.cells.getD i default).kind))).map (fun (i:Nat)=>(i:Int))
theorem sm(n:ae)(k:Nat):gC n (k + 1) = gC n k ++ if cU (n.cells.getD k default).kind then [] else [(k:Int)]:=by
 unfold gC
 rw [List.range_succ,List.filter_append,List.map_append]
 congr 1
 by_cases h:cU (n.cells.getD k default).kind
 ·rw [if_pos h]; simp [-List.getD_eq_getElem?_getD,h]
 ·rw [if_neg h]; simp [-List.getD_eq_getElem?_getD,h]
theorem kG{n:ae}{k:Nat}{x:Int}:x ∈ gC n k ↔ (0 <= x /\ x < k) /\ ¬ cU (n.cell x).kind:=by
 unfold gC
 rw [List.mem_map]
 constructor
 ·rintro ⟨i,h,rfl⟩
  rw [List.mem_filter,List.mem_range] at h
  exact ⟨⟨om,om⟩,by rw [mV]; simpa [-List.getD_eq_getElem?_getD] using h.2⟩
 ·rintro ⟨h1,h2⟩
  refine ⟨x.toNat,?_,om⟩
  rw [List.mem_filter,List.mem_range]
  have h3:¬ cU (n.cells.getD x.toNat default).kind:=h2
  exact ⟨om,by simpa [-List.getD_eq_getElem?_getD] using h3⟩
theorem uo(n:ae)(k:Nat):(gC n k).Nodup:=by
 unfold gC
 rw [List.Nodup,List.pairwise_map]
 refine List.Pairwise.imp (fun {a b} h=>?_) (List.Pairwise.filter _ List.nodup_range)
 omega
theorem Ew(n:ae)(k:Nat):(gC n k).length <= k:=by
 unfold gC
 rw [List.length_map]
 exact Nat.le_trans (List.length_filter_le ..) (by simp)
def Open(n:ae)(done:List Int)(x:Int):Prop:=Bq n x /\ ∀ j ∈ done,(n.cell j).out ≠ x
noncomputable instance (n:ae) (done:List Int):DecidablePred (Open n done):=fun _=>Classical.propDecidable _
noncomputable def eu(n:ae)(done:List Int)(i:Int):Nat:=(n.cell i).args.countP (fun x=>decide (Open n done x))
theorem Ex(n:ae)(i:Int):eu n [] i = (n.cell i).args.countP (fun x=>decide (Bq n x)):=by
 unfold eu
 apply List.countP_congr
 intro x _
 simp [Open]
theorem pt{n:ae}{done:List Int}{i:Int}:eu n done i = 0 ↔ ∀ x ∈ (n.cell i).args,Bq n x -> ∃ j ∈ done,(n.cell j).out = x:=by
 unfold eu
 rw [List.countP_eq_zero]
 constructor
 ·intro h x hx hc
  refine Classical.byContradiction fun hh=>h x hx (decide_eq_true ?_)
  exact ⟨hc,fun j hj e=>hh ⟨j,hj,e⟩⟩
 ·intro h x hx hh
  have hh:=of_decide_eq_true hh
  obtain ⟨j,hj,e⟩:=h x hx hh.1
  exact hh.2 j hj e
theorem CB{n:ae}(hf:bx n){done:List Int}{i0:Int}(h0:bC n i0)(hd:∀ j ∈ done,bC n j)(hn:i0 ∉ done)(i:Int):eu n done i = eu n (done ++ [i0]) i + (n.cell i).args.count (n.cell i0).out:=by
 unfold eu
 generalize (n.cell i).args = l
 induction l with
 | nil=>rfl
 | cons x r ih =>
  rw [List.countP_cons,List.countP_cons,List.count_cons,ih]
  simp only [decide_eq_true_eq,beq_iff_eq]
  by_cases e:x = (n.cell i0).out
  ·have h1:Open n done x:=by
    refine ⟨⟨i0,h0,e.symm⟩,fun j hj e'=>hn ?_⟩
    have:=hf.unique (hd j hj).jZ (by rw [e',e]; exact h0.jZ)
    exact this ▸ hj
   have h2:¬ Open n (done ++ [i0]) x:=fun h=>h.2 i0 (by simp) e.symm
   rw [if_pos h1,if_neg h2,if_pos e]; omega
  ·have h1:Open n done x ↔ Open n (done ++ [i0]) x:=by
    constructor
    ·rintro ⟨a,b⟩
     refine ⟨a,fun j hj=>?_⟩
     rcases List.mem_append.1 hj with h | h
     ·exact b j h
     ·rw [List.mem_singleton.1 h]; exact fun h=>e h.symm
    ·rintro ⟨a,b⟩
     exact ⟨a,fun j hj=>b j (List.mem_append.2 (.inl hj))⟩
   rw [if_neg e]
   by_cases hh:Open n done x
   ·rw [if_pos hh,if_pos (h1.1 hh)]; omega
   ·rw [if_neg hh,if_neg (fun h=>hh (h1.2 h))]; omega
open Go Go.AW
theorem ka{α:Type}{l:List α}{q:Nat}{d:α}(h:q < l.length):l.take (q + 1) = l.take q ++ [l.getD q d]:=by
 rw [List.take_add_one,List.getElem?_eq_getElem h,List.getD_eq_getElem?_getD,List.getElem?_eq_getElem h]; rfl
def GG(n:ae)(k:Nat):Nat:=((n.cells.take k).map (fun c=>c.args.length)).sum
theorem uq{n:ae}{k:Nat}(h:k < n.cells.length):GG n (k + 1) = GG n k + (n.cells.getD k default).args.length:=by
 unfold GG
 rw [ka (d:=default) h,List.map_append,List.sum_append]; simp
theorem Ey{n:ae}(hs:n.Small)(k:Nat):GG n k <= 8796093022208:=by
 refine Nat.le_trans ?_ hs.GG
 conv=>rhs; rw [<- List.take_append_drop k n.cells,List.map_append,List.sum_append]
 exact Nat.le_add_right ..
structure BI(n:ae)(k:Nat)(rem:List Int)(eZ:List (List Int))(ready:List Int):Prop where
 mW:∀ i,bC n i -> i < k -> rem.getD i.toNat 0 = (eu n [] i:Int)
 zero:∀ i:Int,(k:Int) <= i -> i < n.cells.length -> rem.getD i.toNat 0 = 0
 IY:∀ w x,In w n.aa.length -> x ∈ eZ.getD w.toNat [] -> bC n x /\ x < k
 NG:∀ w x,In w n.aa.length -> Bq n w -> bC n x -> x < k -> (eZ.getD w.toNat []).count x = (n.cell x).args.count w
 nd:ready.Nodup
 rd:∀ x,x ∈ ready ↔ bC n x /\ x < k /\ eu n [] x = 0
 ul:∀ w,In w n.aa.length -> (eZ.getD w.toNat []).length <= GG n k
 rl:ready.length <= k
theorem BI.init(n:ae):BI n 0 (List.replicate n.cells.length 0) (List.replicate n.aa.length []) [] where
 mW:=fun i h h0=>by have:=h.1; omega
 zero:=fun i h1 h2=>by rw [List.getD_eq_getElem?_getD,List.getElem?_replicate]; split <;> rfl
 IY:=fun w x hw hx=>by
  rw [List.getD_eq_getElem?_getD,List.getElem?_replicate] at hx
  split at hx <;> cases hx
 NG:=fun w x hw _ h h0=>by have:=h.1; omega
 nd:=List.nodup_nil
 rd:=fun x=>⟨fun h=>(by cases h),fun ⟨h,h0,_⟩=>by have:=h.1; omega⟩
 ul:=fun w hw=>by rw [List.getD_eq_getElem?_getD,List.getElem?_replicate]; split <;> exact Nat.zero_le _
 rl:=Nat.le_refl _
theorem nE{n:ae}{k:Nat}{x:Int}(hc:¬ cU (n.cells.getD k default).kind)(h:bC n x)(hx:x < ((k + 1:Nat):Int)):x < k:=by
 rcases Int.lt_or_eq_of_le (show x <= k by omega) with h' | h'
 ·exact h'
 ·subst h'; exact absurd h.2 hc
theorem BI.skip{n:ae}{k:Nat}{rem:List Int}{eZ:List (List Int)}{ready:List Int}(h:BI n k rem eZ ready)(hk:k < n.cells.length)(hc:¬ cU (n.cells.getD k default).kind):BI n (k + 1) rem eZ ready where
 mW:=fun i hi h0=>h.mW i hi (nE hc hi h0)
 zero:=fun i h1 h2=>h.zero i om h2
 IY:=fun w x hw hx=>⟨(h.IY w x hw hx).1,by have:=(h.IY w x hw hx).2; omega⟩
 NG:=fun w x hw hC hx h0=>h.NG w x hw hC hx (nE hc hx h0)
 nd:=h.nd
 rd:=fun x=>by
  rw [h.rd x]
  exact ⟨fun ⟨a,b,c⟩=>⟨a,om,c⟩,fun ⟨a,b,c⟩=>⟨a,nE hc a b,c⟩⟩
 ul:=fun w hw=>by have:=h.ul w hw; rw [uq hk]; omega
 rl:=by have:=h.rl; omega
structure BJ(n:ae)(k q:Nat)(rem:List Int)(eZ:List (List Int))(lI:List Int)(gW:List (List Int)):Prop where
 Ke:∀ i:Int,0 <= i -> i ≠ k -> lI.getD i.toNat 0 = rem.getD i.toNat 0
 own:lI.getD k 0 = ((((n.cells.getD k default).args.take q).countP (fun x=>decide (Bq n x)):Nat):Int)
 us:∀ w,In w n.aa.length -> gW.getD w.toNat [] = eZ.getD w.toNat [] ++ List.replicate (if Bq n w then ((n.cells.getD k default).args.take q).count w else 0) (k:Int)
theorem BJ.init{n:ae}{k:Nat}{rem:List Int}{eZ:List (List Int)}{ready:List Int}(h:BI n k rem eZ ready)(hk:k < n.cells.length):BJ n k 0 rem eZ rem eZ where
 Ke:=fun _ _ _=>rfl
 own:=h.zero k (Int.le_refl _) om
 us:=fun w _=>by simp
section
variable {n:ae} {k q:Nat} {rem lI:List Int} {eZ gW:List (List Int)}
theorem BJ.skip(h:BJ n k q rem eZ lI gW)(hq:q < (n.cells.getD k default).args.length)(hx:¬ Bq n ((n.cells.getD k default).args.getD q 0)):BJ n k (q + 1) rem eZ lI gW where
 Ke:=h.Ke
 own:=by rw [h.own,ka (d:=0) hq,List.countP_append,List.countP_cons,decide_eq_false hx]; simp
 us:=fun w hw=>by
  rw [h.us w hw]
  by_cases hC:Bq n w
  ·rw [if_pos hC,if_pos hC,ka (d:=0) hq,List.count_append,List.count_cons]
   have:((n.cells.getD k default).args.getD q 0 == w) = false:=by
    rw [beq_eq_false_iff_ne]; rintro rfl; exact hx hC
   rw [this]; simp
  ·rw [if_neg hC,if_neg hC]
theorem BJ.step(h : BJ n k q rem eZ lI gW)(hk : k < n.cells.length)(hl : lI.length = n.cells.length)(Zs : gW.length = n.aa.length)(hq : q < (n.cells.getD k default).args.length)
  (hi:In ((n.cells.getD k default).args.getD q 0) n.aa.length) (hx:Bq n ((n.cells.getD k default).args.getD q 0)) :
  BJ n k (q + 1) rem eZ (lI.set k (lI.getD k 0 + 1)) (gW.set ((n.cells.getD k default).args.getD q 0).toNat (gW.getD ((n.cells.getD k default).args.getD q 0).toNat [] ++ [(k:Int)])) where
 Ke:=fun i h0 h1=>by rw [bP,if_neg om]; exact h.Ke i h0 h1
 own:=by
  rw [bP,if_pos ⟨rfl,om⟩,h.own,ka (d:=0) hq,List.countP_append,List.countP_cons,decide_eq_true hx]; simp
 us:=fun w hw=>by
  unfold In at hi
  have qU:=hw
  unfold In at qU
  rw [bP,ka (d:=0) hq,List.count_append,List.count_cons]
  by_cases e:(n.cells.getD k default).args.getD q 0 = w
  ·rw [e] at hx hi ⊢
   rw [if_pos ⟨rfl,om⟩,h.us w hw,if_pos hx,if_pos hx,List.append_assoc]
   congr 1
   rw [beq_self_eq_true,if_pos rfl]
   show _ = List.replicate (_ + 1) _
   rw [List.replicate_succ']
  ·have:((n.cells.getD k default).args.getD q 0 == w) = false:=by rw [beq_eq_false_iff_ne]; exact e
   rw [if_neg om,h.us w hw,this]; simp
theorem BJ.Kf(h:BJ n k q rem eZ lI gW):0 <= lI.getD k 0 /\ lI.getD k 0 <= (q:Int):=by
 rw [h.own]
 have:=Nat.le_trans (List.countP_le_length (p:=fun x=>decide (Bq n x)) (l:=(n.cells.getD k default).args.take q)) (List.length_take_le ..)
 omega
variable {ready:List Int}
theorem BJ.len(hb:BI n k rem eZ ready)(h:BJ n k q rem eZ lI gW){w:Int}(hw:In w n.aa.length):(gW.getD w.toNat []).length <= GG n k + q:=by
 rw [h.us w hw,List.length_append,List.length_replicate]
 have:=hb.ul w hw
 have h2:((n.cells.getD k default).args.take q).count w <= q:=Nat.le_trans List.count_le_length (by rw [List.length_take]; omega)
 split <;> omega
theorem BJ.fin(hb : BI n k rem eZ ready)(hk : k < n.cells.length)(hc : cU (n.cells.getD k default).kind)(h : BJ n k (n.cells.getD k default).args.length rem eZ lI gW) :
  (lI.getD k 0 = 0 -> BI n (k + 1) lI gW (ready ++ [(k:Int)])) /\ (lI.getD k 0 ≠ 0 -> BI n (k + 1) lI gW ready):=by
 have hn:lI.getD k 0 = (eu n [] (k:Int):Int):=by rw [h.own,List.take_length,Ex]; rfl
 have xK:bC n (k:Int):=⟨⟨om,om⟩,hc⟩
 have mW:∀ i,bC n i -> i < ((k + 1:Nat):Int) -> lI.getD i.toNat 0 = (eu n [] i:Int):=by
  intro i hi h0
  by_cases e:i = k
  ·subst e; exact hn
  ·rw [h.Ke i hi.1.1 e]; exact hb.mW i hi om
 have hzero:∀ i:Int,(((k + 1:Nat)):Int) <= i -> i < n.cells.length -> lI.getD i.toNat 0 = 0:=by
  intro i h1 h2
  rw [h.Ke i om om]; exact hb.zero i om h2
 have NH:∀ w x,In w n.aa.length -> x ∈ gW.getD w.toNat [] -> bC n x /\ x < ((k + 1:Nat):Int):=by
  intro w x hw hx
  rw [h.us w hw] at hx
  rcases List.mem_append.1 hx with hx | hx
  ·exact ⟨(hb.IY w x hw hx).1,by have:=(hb.IY w x hw hx).2; omega⟩
  ·rw [List.eq_of_mem_replicate hx]; exact ⟨xK,om⟩
 have NI:∀ w x,In w n.aa.length -> Bq n w -> bC n x -> x < ((k + 1:Nat):Int) -> (gW.getD w.toNat []).count x = (n.cell x).args.count w:=by
  intro w x hw hC hx h0
  rw [h.us w hw,if_pos hC,List.take_length,List.count_append]
  by_cases e:x = k
  ·subst e
   have h0:(eZ.getD w.toNat []).count (k:Int) = 0:=List.count_eq_zero.2 (fun hm=>by have:=(hb.IY w _ hw hm).2; omega)
   rw [h0,List.count_replicate_self,Nat.zero_add]; rfl
  ·rw [hb.NG w x hw hC hx om,List.count_replicate,if_neg (by simpa using fun h=>e h.symm)]; rfl
 have Vy:∀ w,In w n.aa.length -> (gW.getD w.toNat []).length <= GG n (k + 1):=fun w hw=>by rw [uq hk]; exact BJ.len hb h hw
 have LW:=hb.rl
 constructor
 ·intro h0
  refine ⟨mW,hzero,NH,NI,?_,fun x=>?_,Vy,by rw [List.length_append]; exact Nat.succ_le_succ LW⟩
  ·rw [List.nodup_append]
   refine ⟨hb.nd,by simp,fun a ha b iy=>?_⟩
   rw [List.mem_singleton.1 iy]
   have:=((hb.rd a).1 ha).2.1; omega
  ·rw [List.mem_append,hb.rd x,List.mem_singleton]
   constructor
   ·rintro (⟨a,b,c⟩ | rfl)
    ·exact ⟨a,om,c⟩
    ·exact ⟨xK,om,om⟩
   ·rintro ⟨a,b,c⟩
    by_cases e:x = k
    ·exact .inr e
    ·exact .inl ⟨a,om,c⟩
 ·intro h0
  refine ⟨mW,hzero,NH,NI,hb.nd,fun x=>?_,Vy,om⟩
  rw [hb.rd x]
  constructor
  ·rintro ⟨a,b,c⟩; exact ⟨a,om,c⟩
  ·rintro ⟨a,b,c⟩
   refine ⟨a,?_,c⟩
   by_cases e:x = k
   ·subst e; omega
   ·omega
end
structure KI(n:ae)(done ready rem:List Int):Prop where
 nd:(done ++ ready).Nodup
 cm:∀ x ∈ done ++ ready,bC n x
 mW:∀ i,bC n i -> rem.getD i.toNat 0 = (eu n done i:Int)
 full:∀ i,bC n i -> (i ∈ done ++ ready ↔ eu n done i = 0)
 oe:∀ p i s,done = p ++ i :: s -> eu n p i = 0
structure US(n:ae)(eZ:List (List Int)):Prop where
 mem:∀ w x,In w n.aa.length -> x ∈ eZ.getD w.toNat [] -> bC n x
 Xx:∀ w x,In w n.aa.length -> Bq n w -> bC n x -> (eZ.getD w.toNat []).count x = (n.cell x).args.count w
theorem BI.us{n:ae}{rem:List Int}{eZ:List (List Int)}{ready:List Int}(h:BI n n.cells.length rem eZ ready):US n eZ :=
 ⟨fun w x hw hx=>(h.IY w x hw hx).1,fun w x hw hC hx=>h.NG w x hw hC hx (by have:=hx.1; omega)⟩
theorem BI.ki{n:ae}{rem:List Int}{eZ:List (List Int)}{ready:List Int}(h:BI n n.cells.length rem eZ ready):KI n [] ready rem where
 nd:=h.nd
 cm:=fun x hx=>((h.rd x).1 hx).1
 mW:=fun i hi=>h.mW i hi (by have:=hi.1; omega)
 full:=fun i hi=>by
  show i ∈ ready ↔ _
  rw [h.rd i]
  exact ⟨fun h=>h.2.2,fun h=>⟨hi,by have:=hi.1; omega,h⟩⟩
 oe:=fun p i s h=>by simp at h
structure KJ(n:ae)(done:List Int)(i0:Int)(u:List Int)(q:Nat)(ready rem:List Int):Prop where
 nd:(done ++ [i0] ++ ready).Nodup
 cm:∀ x ∈ done ++ [i0] ++ ready,bC n x
 mW:∀ i,bC n i -> rem.getD i.toNat 0 = (eu n done i:Int) - ((u.take q).count i:Int)
 full:∀ i,bC n i -> (i ∈ done ++ [i0] ++ ready ↔ eu n done i <= (u.take q).count i)
theorem KJ.init{n:ae}{done ready rem u:List Int}(h:KI n done ready rem)(h0:0 < ready.length):KJ n done (ready.getD 0 0) u 0 (ready.drop 1) rem:=by
 have e:done ++ [ready.getD 0 0] ++ ready.drop 1 = done ++ ready:=by
  cases ready with
  | nil=>simp at h0
  | cons a r=>simp
 refine ⟨by rw [e]; exact h.nd,by rw [e]; exact h.cm,fun i hi=>by rw [h.mW i hi]; simp,fun i hi=>by rw [e,h.full i hi]; simp⟩
section
variable {n:ae} (hf:bx n) {done ready rem u Ez lI:List Int} {i0:Int} {q:Nat}
include hf
theorem KJ.count(h:KJ n done i0 u q ready rem)(hu:∀ x,bC n x -> u.count x = (n.cell x).args.count (n.cell i0).out){x:Int}(hx:bC n x):eu n done x = eu n (done ++ [i0]) x + u.count x:=by
 have jR:=(List.nodup_append.1 h.nd).1
 have NJ:i0 ∉ done:=fun hm=>(List.nodup_append.1 jR).2.2 i0 hm i0 (by simp) rfl
 rw [hu x hx]
 exact CB hf (h.cm i0 (by simp)) (fun j hj=>h.cm j (by simp [hj])) NJ x
theorem KJ.step(h : KJ n done i0 u q ready rem)(hl : rem.length = n.cells.length)(hq : q < u.length)(hu : ∀ x, bC n x → u.count x = (n.cell x).args.count (n.cell i0).out)(hm : ∀ x ∈ u, bC n x) :
  (rem.getD (u.getD q 0).toNat 0 - 1 = 0 -> KJ n done i0 u (q + 1) (ready ++ [u.getD q 0]) (rem.set (u.getD q 0).toNat (rem.getD (u.getD q 0).toNat 0 - 1))) /\
  (rem.getD (u.getD q 0).toNat 0 - 1 ≠ 0 -> KJ n done i0 u (q + 1) ready (rem.set (u.getD q 0).toNat (rem.getD (u.getD q 0).toNat 0 - 1))):=by
 have hk:bC n (u.getD q 0):=hm _ (cg hq)
 have RS:=hk.1
 have ht:=ka (d:=0) hq
 have NK:∀ i,(u.take (q + 1)).count i = (u.take q).count i + if u.getD q 0 = i then 1 else 0:=by
  intro i
  rw [ht,List.count_append,List.count_cons]; simp
 have hle:(u.take (q + 1)).count (u.getD q 0) <= u.count (u.getD q 0):=by
  have e:=congrArg (List.count (u.getD q 0)) (List.take_append_drop (q + 1) u)
  rw [List.count_append] at e; omega
 have hc:=KJ.count hf h hu hk
 have Vz:=NK (u.getD q 0)
 rw [if_pos rfl] at Vz
 have V0:=h.mW _ hk
 have mW:∀ i,bC n i -> (rem.set (u.getD q 0).toNat (rem.getD (u.getD q 0).toNat 0 - 1)).getD i.toNat 0 = (eu n done i:Int) - ((u.take (q + 1)).count i:Int):=by
  intro i hi
  have Xy:=hi.1
  rw [bP,NK i]
  by_cases e:u.getD q 0 = i
  ·rw [if_pos ⟨om,om⟩,if_pos e,V0,e]; omega
  ·rw [if_neg om,if_neg e,h.mW i hi]; omega
 have tR:u.getD q 0 ∉ done ++ [i0] ++ ready:=fun pG=>by
  have:=(h.full _ hk).1 pG; omega
 constructor
 ·intro h0
  refine ⟨?_,?_,mW,fun i hi=>?_⟩
  ·rw [<- List.append_assoc,List.nodup_append]
   refine ⟨h.nd,by simp,fun a ha b hb e=>tR ?_⟩
   rw [<- List.mem_singleton.1 hb,<- e]; exact ha
  ·intro x hx
   rw [<- List.append_assoc] at hx
   rcases List.mem_append.1 hx with hx | hx
   ·exact h.cm x hx
   ·rw [List.mem_singleton.1 hx]; exact hk
  ·rw [<- List.append_assoc,List.mem_append,h.full i hi,List.mem_singleton,NK i]
   by_cases e:u.getD q 0 = i
   ·rw [if_pos e]
    subst e
    exact ⟨fun _=>by omega,fun _=>.inr rfl⟩
   ·rw [if_neg e]
    exact ⟨fun h=>by rcases h with h | h; omega; exact absurd h.symm e,fun h=>.inl om⟩
 ·intro h0
  refine ⟨h.nd,h.cm,mW,fun i hi=>?_⟩
  rw [h.full i hi,NK i]
  by_cases e:u.getD q 0 = i
  ·rw [if_pos e]
   subst e
   omega
  ·rw [if_neg e]; rfl
theorem KJ.bound(hs : n.Small)(h : KJ n done i0 u q ready rem)(hq : q < u.length)(hu : ∀ x, bC n x → u.count x = (n.cell x).args.count (n.cell i0).out)(hm : ∀ x ∈ u, bC n x) :
  1 <= rem.getD (u.getD q 0).toNat 0 /\ rem.getD (u.getD q 0).toNat 0 <= 17592186043904 /\ ready.length < n.cells.length:=by
 have hk:bC n (u.getD q 0):=hm _ (cg hq)
 have ht:=ka (d:=0) hq
 have NK:(u.take (q + 1)).count (u.getD q 0) = (u.take q).count (u.getD q 0) + 1:=by
  rw [ht,List.count_append,List.count_cons]; simp
 have e:=congrArg (List.count (u.getD q 0)) (List.take_append_drop (q + 1) u)
 rw [List.count_append] at e
 have hc:=KJ.count hf h hu hk
 have V0:=h.mW _ hk
 have hn:eu n done (u.getD q 0) <= (n.cell (u.getD q 0)).args.length:=List.countP_le_length
 have ha:(n.cell (u.getD q 0)).args.length <= 17592186043904:=hs.args _ (eC (by have:=hk.1; omega))
 refine ⟨om,om,?_⟩
 have:=length_le_of_subset (m:=(List.range n.cells.length).map (fun (i:Nat)=>(i:Int))) h.nd (fun x hx=>by
  have:=(h.cm x hx).1
  exact List.mem_map.2 ⟨x.toNat,List.mem_range.2 om,om⟩)
 rw [List.length_append,List.length_append,List.length_map,List.length_range] at this
 simp only [List.length_cons,List.length_nil] at this
 omega
theorem KJ.fin(hk:KI n done Ez lI)(h0:i0 ∈ Ez)(h:KJ n done i0 u u.length ready rem)(hu:∀ x,bC n x -> u.count x = (n.cell x).args.count (n.cell i0).out):KI n (done ++ [i0]) ready rem:=by
 have hc:∀ {x},bC n x -> eu n done x = eu n (done ++ [i0]) x + u.count x:=fun hx=>KJ.count hf h hu hx
 refine ⟨h.nd,h.cm,fun i hi=>?_,fun i hi=>?_,fun p i s e=>?_⟩
 ·rw [h.mW i hi,List.take_length,hc hi]; omega
 ·rw [h.full i hi,List.take_length,hc hi]; omega
 ·rcases List.eq_nil_or_concat s with rfl | ⟨s',x,rfl⟩
  ·have e2:=List.append_inj' (t₁:=[i0]) (t₂:=[i]) e rfl
   obtain ⟨rfl,e3⟩:=e2
   cases e3
   have qT:bC n i0:=hk.cm i0 (List.mem_append.2 (.inr h0))
   exact (hk.full i0 qT).1 (List.mem_append.2 (.inr h0))
  ·have e2:=List.append_inj' (s₁:=done) (s₂:=p ++ i :: s') (t₁:=[i0]) (t₂:=[x]) (by rw [e]; simp) rfl
   exact hk.oe p i s' e2.1
end
def Acyclic(n:ae):Prop:=∃ r:Int -> Nat,∀ i j,bC n i -> bC n j -> (n.cell j).out ∈ (n.cell i).args -> r j < r i
noncomputable instance (n:ae):Decidable (Acyclic n):=Classical.propDecidable _
structure Ord(n:ae)(l:List Int):Prop where
 len:l.length = n.cells.length
 nd:l.Nodup
 vL:∀ x ∈ l,0 <= x /\ x < n.cells.length
 oe:∀ p i s,l = p ++ i :: s -> cU (n.cell i).kind -> ∀ x ∈ (n.cell i).args,∃ j ∈ p,cX n j x
theorem KI.all{n:ae}{done ready rem:List Int}(h:KI n done ready rem):(gC n n.cells.length ++ done ++ ready).Nodup /\ ∀ x ∈ gC n n.cells.length ++ done ++ ready,0 <= x /\ x < n.cells.length:=by
 rw [List.append_assoc]
 refine ⟨?_,fun x hx=>?_⟩
 ·rw [List.nodup_append]
  refine ⟨uo _ _,h.nd,fun a ha b hb e=>?_⟩
  subst e
  exact (kG.1 ha).2 (h.cm a hb).2
 ·rcases List.mem_append.1 hx with h' | h'
  ·have:=(kG.1 h').1; omega
  ·exact (h.cm x h').1
theorem KI.len{n:ae}{done ready rem:List Int}(h:KI n done ready rem):(gC n n.cells.length ++ done).length + ready.length <= n.cells.length:=by
 obtain ⟨h1,h2⟩:=h.all
 have:=length_le_of_subset (m:=(List.range n.cells.length).map (fun (i:Nat)=>(i:Int))) h1 (fun x hx=>by
  have:=h2 x hx
  exact List.mem_map.2 ⟨x.toNat,List.mem_range.2 om,om⟩)
 rw [List.length_append,List.length_map,List.length_range] at this
 exact this
theorem KI.mem{n : ae}{done rem : List Int}(h : KI n done [] rem){r : Int → Nat}(hr : ∀ i j, bC n i → bC n j → (n.cell j).out ∈ (n.cell i).args → r j < r i) : ∀ (m : Nat) (i : Int), bC n i → r i < m → i ∈ done
 | 0,_,_,hm=>by omega
 | m + 1,i,hi,hm=>by
  have hz:eu n done i = 0:=by
   rw [pt]
   rintro x hx ⟨j,hj,rfl⟩
   exact ⟨j,KI.mem h hr m j hj (by have:=hr i j hi hj hx; omega),rfl⟩
  have:=(h.full i hi).2 hz
  simpa using this
theorem CC(M:Nat):((List.range M).map (fun (i:Nat)=>(i:Int))).Nodup:=by
 rw [List.Nodup,List.pairwise_map]
 exact List.Pairwise.imp (fun {a b} h=>by omega) List.nodup_range
theorem KI.IZ{n:ae}{done rem:List Int}(h:KI n done [] rem)(hl:(gC n n.cells.length ++ done).length < n.cells.length):¬ Acyclic n:=by
 rintro ⟨r,hr⟩
 have:=length_le_of_subset (m:=gC n n.cells.length ++ done) (CC n.cells.length) (fun x hx=>by
  obtain ⟨i,hi,rfl⟩:=List.mem_map.1 hx
  rw [List.mem_range] at hi
  by_cases hc:cU (n.cell (i:Int)).kind
  ·exact List.mem_append.2 (.inr (KI.mem h hr _ (i:Int) ⟨⟨om,om⟩,hc⟩ (Nat.lt_succ_self _)))
  ·exact List.mem_append.2 (.inl (kG.2 ⟨⟨om,om⟩,hc⟩)))
 rw [List.length_map,List.length_range] at this
 omega
theorem ru{l p s:List Int}{i j:Int}(hn:l.Nodup)(e:l = p ++ i :: s)(hj:j ∈ p):l.idxOf j < l.idxOf i:=by
 subst e
 have hi:i ∉ p:=fun h=>(List.nodup_append.1 hn).2.2 i h i (by simp) rfl
 rw [List.idxOf_append,if_pos hj,List.idxOf_append,if_neg hi]
 have:=List.idxOf_lt_length_of_mem hj
 omega
theorem KI.ok{n:ae}(hf:bx n){done rem:List Int}(h:KI n done [] rem)(hl:¬ (gC n n.cells.length ++ done).length < n.cells.length):Acyclic n /\ Ord n (gC n n.cells.length ++ done):=by
 obtain ⟨h1,h2⟩:=h.all
 rw [List.append_nil] at h1 h2
 have hle:=h.len
 simp only [List.length_nil,Nat.add_zero] at hle
 have NL:∀ i:Int,(0 <= i /\ i < n.cells.length) -> i ∈ gC n n.cells.length ++ done:=by
  intro i hi
  refine Classical.byContradiction fun hn=>?_
  have:=length_le_of_subset (l:=i :: (gC n n.cells.length ++ done)) (m:=(List.range n.cells.length).map (fun (i:Nat)=>(i:Int))) (List.nodup_cons.2 ⟨hn,h1⟩) (fun x hx=>by
   have j2:0 <= x /\ x < n.cells.length:=by
    rcases List.mem_cons.1 hx with rfl | hx
    ·exact hi
    ·exact h2 x hx
   exact List.mem_map.2 ⟨x.toNat,List.mem_range.2 om,om⟩)
  rw [List.length_cons,List.length_map,List.length_range] at this
  omega
 have JH:∀ i,bC n i -> i ∈ done:=by
  intro i hi
  rcases List.mem_append.1 (NL i hi.1) with h' | h'
  ·exact absurd hi.2 (kG.1 h').2
  ·exact h'
 have Q8:done.Nodup:=(List.nodup_append.1 h1).2.1
 refine ⟨⟨fun i=>done.idxOf i,fun i j hi hj hx=>?_⟩,om,h1,h2,fun p i s e hc x hx=>?_⟩
 ·obtain ⟨p,s,e⟩:=List.append_of_mem (JH i hi)
  obtain ⟨j',xg,e'⟩:=pt.1 (h.oe p i s e) _ hx ⟨j,hj,rfl⟩
  have Kg:bC n j':=h.cm j' (by rw [e]; simp [xg])
  have:=hf.unique Kg.jZ (e' ▸ hj.jZ)
  subst this
  exact ru Q8 e xg
 ·have hi:bC n i:=⟨h2 i (by rw [e]; simp),hc⟩
  obtain ⟨j,hj⟩:=hf.sj (hf.um hi.1 hx)
  by_cases Kh:cU (n.cell j).kind
  ·-- the sj is combinational
   obtain ⟨p',s',e'⟩:=List.append_of_mem (JH i hi)
   obtain ⟨j',xg,e2⟩:=pt.1 (h.oe p' i s' e') x hx ⟨j,⟨hj.1,Kh⟩,hj.2.2⟩
   have Kg:bC n j':=h.cm j' (by rw [e']; simp [xg])
   have e3:p ++ i :: s = (gC n n.cells.length ++ p') ++ i :: s':=by rw [<- e,e',List.append_assoc]
   have hp:p = gC n n.cells.length ++ p':=by
    have Ma:i ∉ p:=by
     rw [e] at h1
     exact fun h=>(List.nodup_append.1 h1).2.2 i h i (by simp) rfl
    have mN:i ∉ gC n n.cells.length ++ p':=by
     rw [e,e3] at h1
     exact fun h=>(List.nodup_append.1 h1).2.2 i h i (by simp) rfl
    have:=congrArg (fun l=>l.idxOf i) e3
    simp only [List.idxOf_append,if_neg Ma,if_neg mN,List.idxOf_cons_self,Nat.add_zero] at this
    exact (List.append_inj e3 om).1
   exact ⟨j',by rw [hp]; exact List.mem_append.2 (.inr xg),e2 ▸ Kg.jZ⟩
  ·-- it comes first
   refine ⟨j,?_,hj⟩
   have LU:j ∈ gC n n.cells.length:=kG.2 ⟨hj.1,Kh⟩
   have Qw:i ∉ gC n n.cells.length:=fun h=>(kG.1 h).2 hc
   have:gC n n.cells.length ++ done = p ++ i :: s:=e
   rcases List.append_eq_append_iff.1 this with ⟨a,ha,hb⟩ | ⟨a,ha,hb⟩
   ·rw [ha]; exact List.mem_append.2 (.inl LU)
   ·cases a with
    | nil=>rw [List.append_nil] at ha; rw [<- ha]; exact LU
    | cons b t =>
     rw [List.cons_append] at hb
     cases hb
     exact absurd (by rw [ha]; simp) Qw
def lJ(n:ae)(l:List Int)(e:Int):Prop :=
 (¬ bx n /\ l = [] /\ e = 3) \/ (bx n /\ ¬ Fit n /\ l = [] /\ e = 13) \/ (bx n /\ Fit n /\ ¬ Acyclic n /\ l = [] /\ e = 12) \/ (bx n /\ Fit n /\ Acyclic n /\ Ord n l /\ e = 0)
theorem qE{p:Prop}(h:p:=by ((try unfold Plain at *); (try unfold Unary at *); (try unfold Eu at *); (try unfold Seq at *); (try unfold In at *); first | (intro h; simp only [Shaped] at h; rcases h with h | h | h | h | h | h | h | h | h | h <;> omega) | (subst_vars; simp only [Shaped,Int.reduceEq,Bool.not_eq_true,false_and,true_and,and_true,and_false,or_false,false_or,ne_eq]; first | omega | grind | (unfold cy; grind)))):p:=h
theorem yQ{p:Prop}(h:p:=by ((try unfold Plain at *); (try unfold Unary at *); (try unfold Eu at *); (try unfold Seq at *); (try unfold In at *); (subst_vars; simp only [Shaped,Int.reduceEq,Bool.not_eq_true,false_and,true_and,and_true,and_false,or_false,false_or,ne_eq]; first | omega | grind | (unfold cy; grind)))):p:=h
noncomputable def jU(n:ae):Int:=if bx n then if Fit n then if Acyclic n then 0 else 12 else 13 else 3
theorem lJ.err{n:ae}{l:List Int}{e:Int}(h:lJ n l e):e = jU n:=by
 unfold jU
 rcases h with ⟨h1,_,h⟩ | ⟨h1,h2,_,h⟩ | ⟨h1,h2,h3,_,h⟩ | ⟨h1,h2,h3,_,h⟩
 ·rw [if_neg h1,h]
 ·rw [if_pos h1,if_neg h2,h]
 ·rw [if_pos h1,if_pos h2,if_neg h3,h]
 ·rw [if_pos h1,if_pos h2,if_pos h3,h]
open Go Go.AW
structure U2 where
 a:Nat
 b:Nat
instance:Inhabited U2:=⟨⟨0,0⟩⟩
def U2.row(x:U2):List X:=[.v (.int .u8 (x.a:Int)),.v (.int .u8 (x.b:Int))]
theorem U2.bE(c:U2):X.b6 c.row = true:=rfl
structure rT where
 kind:Nat
 op:Nat
 width:Nat
 a:Nat
 b:Nat
 d:Nat
 num:Nat
instance:Inhabited rT:=⟨⟨0,0,0,0,0,0,0⟩⟩
def rT.row(x:rT):List X:=[.v (.int .u8 (x.kind:Int)),.v (.int .u8 (x.op:Int)),.v (.int .u8 (x.width:Int)),.v (.int .u8 (x.a:Int)),.v (.int .u8 (x.b:Int)),.v (.int .u8 (x.d:Int)),.v (.int .u64 (x.num:Int))]
theorem rT.bE(c:rT):X.b6 c.row = true:=rfl
structure nw where
 aD:List U2
 streams:List U2
 ins:List Nat
 parts:List rT
 cH:List Nat
def nw.row(n:nw):List X:=[.fz 2 (n.aD.map U2.row),.fz 2 (n.streams.map U2.row),.fz 1 (n.ins.map uh),.fz 7 (n.parts.map rT.row),.fz 1 (n.cH.map uh)]
def ae.ry(n : ae) : List X := [.v (.string n.name), .fz 1 (n.aa.map ah), .fz 6 (n.cells.map Cell.row), .fz 1 (n.ins.map ah), .fz 5 (n.aD.map eQ.row), .fz 3 (n.streams.map bI.row),
 .v (.slice none 0 0),.v (.slice none 0 0),.v (.int .i64 n.freeze),.v (.int .i64 n.done),.v (.slice none 0 0)]
def Cell.ij(c:Cell):List X:=[.v (.int .i64 c.kind),.v (.int .i64 c.op),.v (.int .i64 c.out),.dK 1 (c.args.map ah),.v (.int .u64 (c.num:Int)),.v (.int .i64 c.mem)]
def ae.ij(n : ae) : List X := [.v (.string n.name), .dK 1 (n.aa.map ah), .dK 6 (n.cells.map Cell.row), .fz 1 (n.ins.map ah), .fz 5 (n.aD.map eQ.row), .fz 3 (n.streams.map bI.row),
 .fz 1 (n.bD.map ah),.fz 1 (n.data.map ah),.v (.int .i64 n.freeze),.v (.int .i64 n.done),.fz 1 (n.cH.map ah)]
def a9(k:Nat):Int:=([1,2,4,7,8,13,33,64]:List Int).getD (k % 8) 0
def opsL:List Int:=[2,3,9,10,11,12,13,14,15,16,17,18,19,20,21,22,23,24]
theorem dP(k:Nat):dk (a9 k):=by
 have h:∀ j,j < 8 -> dk (([1,2,4,7,8,13,33,64]:List Int).getD j 0):=by decide
 exact h _ (Nat.mod_lt _ ab)
def jo(ws:List Int)(w:Int)(i:Nat):List Int:=((List.range i).filter (fun j=>decide (ws.getD j 0 = w))).map (fun (j:Nat)=>(j:Int))
theorem pv{ws:List Int}{w:Int}{i:Nat}(h:ws.getD i 0 = w):jo ws w (i + 1) = jo ws w i ++ [(i:Int)]:=by
 simp only [jo,List.range_succ,List.filter_append,List.map_append,List.filter_cons,h,decide_true,if_true,List.filter_nil,List.map_cons,List.map_nil]
theorem rz{ws:List Int}{w:Int}{i:Nat}(h:ws.getD i 0 ≠ w):jo ws w (i + 1) = jo ws w i:=by
 simp only [jo,List.range_succ,List.filter_append,List.filter_cons,h,decide_false,List.filter_nil,List.append_nil,Bool.false_eq_true,if_false]
theorem vM(ws:List Int)(w:Int)(i:Nat):(jo ws w i).length <= i:=by
 have:=List.length_filter_le (fun j=>decide (ws.getD j 0 = w)) (List.range i)
 simp only [jo,List.length_map]; rw [List.length_range] at this; exact this
def aE(ws:List Int)(w:Int)(k:Nat):Int:=if (jo ws w ws.length).length = 0 then -1 else (jo ws w ws.length).getD (k % (jo ws w ws.length).length) 0
def E5(ws:List Int)(w:Int):Prop:=∃ j,j < ws.length /\ ws.getD j 0 = w
theorem dq{ws:List Int}{w:Int}(h:E5 ws w)(k:Nat):In (aE ws w k) ws.length /\ ws.getD (aE ws w k).toNat 0 = w:=by
 obtain ⟨j,hj,hw⟩:=h
 have h0:(j:Int) ∈ jo ws w ws.length:=List.mem_map.2 ⟨j,List.mem_filter.2 ⟨List.mem_range.2 hj,decide_eq_true hw⟩,rfl⟩
 have hp:=List.length_pos_of_mem h0
 unfold aE
 rw [if_neg om]
 have hm:=cg (l:=jo ws w ws.length) (i:=k % (jo ws w ws.length).length) (Nat.mod_lt _ hp)
 obtain ⟨i,hi,he⟩:=List.mem_map.1 hm
 obtain ⟨h1,h2⟩:=List.mem_filter.1 hi
 rw [<- he]
 have:=List.mem_range.1 h1
 exact ⟨⟨om,om⟩,by simpa using h2⟩
def sO(ws:List Int)(cs:List Cell)(p:rT)(i:Nat):List Cell :=
 if (cs.getD ((((cs.length:Int) - 1) - (i:Int)).toNat) default).kind = 4 then
  cs.set ((((cs.length : Int) - 1) - (i : Int)).toNat) ⟨(cs.getD ((((cs.length : Int) - 1) - (i : Int)).toNat) default).kind, (cs.getD ((((cs.length : Int) - 1) - (i : Int)).toNat) default).op, (cs.getD ((((cs.length : Int) - 1) - (i : Int)).toNat) default).out,
   [aE ws 1 p.a,aE ws (ws.getD (cs.getD ((((cs.length:Int) - 1) - (i:Int)).toNat) default).out.toNat 0) p.d],(cs.getD ((((cs.length:Int) - 1) - (i:Int)).toNat) default).num,(cs.getD ((((cs.length:Int) - 1) - (i:Int)).toNat) default).mem⟩
 else cs
structure rT.Ok(p:rT):Prop where
 kind:p.kind < 256
 op:p.op < 256
 width:p.width < 256
 a:p.a < 256
 b:p.b < 256
 d:p.d < 256
 num:p.num < 18446744073709551616
open Go Go.AW
structure Ground(n:ae):Prop where
 has:∀ k,E5 n.aa (a9 k)
 wide:∀ w ∈ n.aa,dk w
 aD:∀ m ∈ n.aD,∃ k,m.width = a9 k
 strs:∀ s ∈ n.streams,∃ k,s.width = a9 k
 ins:∀ w ∈ n.ins,∃ k,w = a9 k
def vN(n:ae)(c:Cell)(w:Int):Prop :=
 (c.kind = 1 /\ gA w c.num = c.num) \/
 (c.kind = 2 /\ bR c.op (n.av c 0) (n.av c 1) (n.av c 2) w) \/
 (c.kind = 3 /\ ∀ k,k < c.args.length -> (k % 2 = 0 /\ n.av c k = 1) \/ (k % 2 = 1 /\ n.av c k = w)) \/
 (c.kind = 4 /\ n.av c 0 = 1 /\ n.av c 1 = w /\ gA w c.num = c.num) \/
 (c.kind = 5 /\ n.av c 0 = w /\ n.av c 1 = w) \/
 (c.kind = 6 /\ n.av c 0 = 1 /\ (n.aD.getD c.mem.toNat default).width = w) \/
 (c.kind = 7 /\ n.av c 0 = 1 /\ (n.aD.getD c.mem.toNat default).width = n.av c 2) \/
 (c.kind = 8 /\ n.ins.getD c.num 0 = w) \/
 (c.kind = 9 /\ w = 1) \/
 (c.kind = 10 /\ (n.streams.getD c.mem.toNat default).width = w)
structure zU(n:ae)(c:Cell)(w:Int):Prop where
 out:c.kind = 7 -> c.out = -1
 args:∀ x ∈ c.args,In x n.aa.length
 shaped:Shaped n c
 fits:vN n c w
 wide:dk w
 num:c.num < 18446744073709551616
 len:c.args.length <= 4
def lK(n:ae)(c:Cell)(w:Int):Prop:=c.kind = 0 \/ zU n c w
theorem xL(w:Int)(x:Nat):gA w (gA w x) = gA w x:=Nat.mod_mod _ _
theorem ur:dk 1:=by decide
theorem E6(i:Nat):(2 <= opsL.getD (i % opsL.length) 0 /\ opsL.getD (i % opsL.length) 0 <= 3) \/ (9 <= opsL.getD (i % opsL.length) 0 /\ opsL.getD (i % opsL.length) 0 <= 24):=by
 have h:∀ j,j < 18 -> (2 <= opsL.getD j 0 /\ opsL.getD j 0 <= 3) \/ (9 <= opsL.getD j 0 /\ opsL.getD j 0 <= 24):=by decide
 exact h _ (Nat.mod_lt _ ab)
theorem getD_in{α:Type}{d:α}{l:List α}{i:Nat}(h:i < l.length):l.getD i d ∈ l:=by
 rw [List.getD_eq_getElem?_getD,List.getElem?_eq_getElem h]; exact List.getElem_mem h
section
variable {n:ae} (hg:Ground n)
include hg
theorem Ground.one:E5 n.aa 1:=hg.has 0
theorem Ground.mem{i:Nat}(h:i < n.aD.length):E5 n.aa (n.aD.getD i default).width /\ dk (n.aD.getD i default).width:=by
 obtain ⟨k,hk⟩:=hg.aD _ (getD_in h)
 rw [hk]; exact ⟨hg.has k,dP k⟩
theorem Ground.str{i:Nat}(h:i < n.streams.length):E5 n.aa (n.streams.getD i default).width /\ dk (n.streams.getD i default).width:=by
 obtain ⟨k,hk⟩:=hg.strs _ (getD_in h)
 rw [hk]; exact ⟨hg.has k,dP k⟩
theorem Ground.Xz{i:Nat}(h:i < n.ins.length):dk (n.ins.getD i 0):=by
 obtain ⟨k,hk⟩:=hg.ins _ (getD_in h)
 rw [hk]; exact dP k
theorem wD{x:Nat}(h:0 < n.aa.length):In ((x:Int) % (n.aa.length:Int)) n.aa.length:=by
 have h1:=Int.emod_nonneg (x:Int) (b:=(n.aa.length:Int)) om
 have h2:=Int.emod_lt_of_pos (x:Int) (b:=(n.aa.length:Int)) om
 exact ⟨h1,h2⟩
theorem Ki{op:Int}{j a b d:Nat}(h:op = 21):lK n ⟨2,op,0,[aE n.aa 1 a,aE n.aa (a9 j) b,aE n.aa (a9 j) d],0,0⟩ (a9 j):=by
 have h1:=dq hg.one a; have h2:=dq (hg.has j) b; have h3:=dq (hg.has j) d
 subst h
 refine .inr ⟨fun h=>by simp at h,?_,.inr (.inl ⟨rfl,(by show cy 21 ≠ 0; decide),rfl,rfl,rfl⟩),.inr (.inl ⟨rfl,.inl ⟨rfl,h1.2,h2.2,h3.2⟩⟩),dP j,by simp,by simp⟩
 intro x hx
 simp only [List.mem_cons,List.not_mem_nil,or_false] at hx
 rcases hx with rfl | rfl | rfl
 ·exact h1.1
 ·exact h2.1
 ·exact h3.1
theorem NM{op w : Int}{j a : Nat}(h0 : 0 < n.aa.length)(hu : Unary op)(hw : (op = 24 ∧ w = if n.aa.getD (a % n.aa.length) 0 < a9 j then n.aa.getD (a % n.aa.length) 0 else a9 j) ∨ (¬ op = 24 ∧ w = if n.aa.getD (a % n.aa.length) 0 > a9 j then n.aa.getD (a % n.aa.length) 0 else a9 j)) :
  lK n ⟨2,op,0,[(a:Int) % (n.aa.length:Int)],0,0⟩ w:=by
 have h1:=wD (x:=a) hg h0
 have hv:n.wd ((a:Int) % (n.aa.length:Int)) = n.aa.getD (a % n.aa.length) 0:=by
  unfold ae.wd; congr 1
 have h2:=hg.wide _ (getD_in (d:=(0:Int)) (Nat.mod_lt a h0))
 have h3:=dP j
 have DI:=hu
 unfold Unary at hu
 generalize n.aa.getD (a % n.aa.length) 0 = v at *
 generalize a9 j = W at *
 have vk:dk w:=by
  unfold dk at *
  rcases hw with ⟨_,h⟩ | ⟨_,h⟩ <;> (split at h <;> omega)
 refine .inr ⟨fun h=>by simp at h,?_,.inr (.inl ⟨rfl,?_,?_,rfl,rfl⟩),.inr (.inl ⟨rfl,?_⟩),vk,by simp,by simp⟩
 ·intro x hx
  simp only [List.mem_cons,List.not_mem_nil,or_false] at hx
  subst hx; exact h1
 ·rcases hu with h | h | h <;> (simp only [h]; decide)
 ·rcases hu with h | h | h <;> (simp only [h]; rfl)
 ·unfold bR
  simp only [ae.av,List.getD_cons_zero,hv]
  rcases hw with ⟨h,hw⟩ | ⟨h,hw⟩
  ·right; right; left
   refine ⟨h,?_⟩
   split at hw <;> omega
  ·right; left
   refine ⟨om,?_⟩
   split at hw <;> omega
theorem E7{op w : Int}{j a b : Nat}(Kj : (2 ≤ op ∧ op ≤ 3) ∨ (9 ≤ op ∧ op ≤ 24))(Mb : ¬ op = 21)(hu : ¬ Unary op)(hw : (eY op ∧ w = 1) ∨ (¬ eY op ∧ w = a9 j)) :
  lK n ⟨2,op,0,[aE n.aa (a9 j) a,aE n.aa (a9 j) b],0,0⟩ w:=by
 have h1:=dq (hg.has j) a; have h2:=dq (hg.has j) b
 unfold Unary at hu
 have h3:=dP j
 have vk:dk w:=by
  rcases hw with ⟨_,rfl⟩ | ⟨_,rfl⟩
  ·exact ur
  ·exact h3
 have V1:cy op = 2:=by unfold cy; rw [if_pos om]
 refine .inr ⟨fun h=>by simp at h,?_,.inr (.inl ⟨rfl,by simp only [V1]; decide,by simp only [V1]; rfl,rfl,rfl⟩),.inr (.inl ⟨rfl,?_⟩),vk,by simp,by simp⟩
 ·intro x hx
  simp only [List.mem_cons,List.not_mem_nil,or_false] at hx
  rcases hx with rfl | rfl
  ·exact h1.1
  ·exact h2.1
 ·have e1:n.wd (aE n.aa (a9 j) a) = a9 j:=h1.2
  have e2:n.wd (aE n.aa (a9 j) b) = a9 j:=h2.2
  rcases hw with ⟨hc,rfl⟩ | ⟨hc,rfl⟩
  ·exact .inr (.inr (.inr (.inl ⟨hc,rfl,e1.trans e2.symm⟩)))
  ·exact .inr (.inr (.inr (.inr ⟨hc,by show op < 21 \/ 24 < op; omega,e1,e2⟩)))
theorem tw{o m:Int}{q:Int}{l:List Int}{nm:Nat}{w:Int}:lK n ⟨0,o,m,l,nm,q⟩ w:=.inl rfl
theorem E8{k:Int}{j x:Nat}(hk:k = 1):lK n ⟨k,0,-1,[],gA (a9 j) x,0⟩ (a9 j):=by
 subst hk
 exact .inr ⟨fun _=>rfl,fun x hx=>(by cases hx),.inl ⟨rfl,rfl,rfl,rfl⟩,.inl ⟨rfl,xL _ _⟩,dP j,vI _ _,by simp⟩
theorem Kk{k:Int}{j a b d e:Nat}(hk:k = 3):lK n ⟨k,0,-1,[aE n.aa 1 a,aE n.aa (a9 j) b,aE n.aa 1 d,aE n.aa (a9 j) e],0,0⟩ (a9 j):=by
 have h1:=dq hg.one a; have h2:=dq (hg.has j) b; have h3:=dq hg.one d; have h4:=dq (hg.has j) e
 subst hk
 refine .inr ⟨fun _=>rfl,?_,.inr (.inr (.inl ⟨rfl,(by simp),(by simp),rfl,rfl,rfl⟩)),.inr (.inr (.inl ⟨rfl,?_⟩)),dP j,by simp,by simp⟩
 ·intro x hx
  simp only [List.mem_cons,List.not_mem_nil,or_false] at hx
  rcases hx with rfl | rfl | rfl | rfl
  ·exact h1.1
  ·exact h2.1
  ·exact h3.1
  ·exact h4.1
 ·intro i hi
  have iJ:i < 4:=hi
  match i,iJ with
  | 0,_=>exact .inl ⟨rfl,h1.2⟩
  | 1,_=>exact .inr ⟨rfl,h2.2⟩
  | 2,_=>exact .inl ⟨rfl,h3.2⟩
  | 3,_=>exact .inr ⟨rfl,h4.2⟩
theorem Kl{k:Int}{j a b x:Nat}(hk:k = 4):lK n ⟨k,0,-1,[aE n.aa 1 a,aE n.aa (a9 j) b],gA (a9 j) x,0⟩ (a9 j):=by
 have h1:=dq hg.one a; have h2:=dq (hg.has j) b
 subst hk
 refine .inr ⟨fun _=>rfl,?_,.inr (.inr (.inr (.inl ⟨rfl,rfl,rfl,rfl⟩))),.inr (.inr (.inr (.inl ⟨rfl,h1.2,h2.2,xL _ _⟩))),dP j,vI _ _,by simp⟩
 intro x hx
 simp only [List.mem_cons,List.not_mem_nil,or_false] at hx
 rcases hx with rfl | rfl
 ·exact h1.1
 ·exact h2.1
theorem Hr{k o:Int}{j a b x:Nat}(hk:k = 5)(ho:4 <= o /\ o <= 8)(hx:1 <= x /\ x <= 4096):lK n ⟨k,o,-1,[aE n.aa (a9 j) a,aE n.aa (a9 j) b],x,0⟩ (a9 j):=by
 have h1:=dq (hg.has j) a; have h2:=dq (hg.has j) b
 subst hk
 refine .inr ⟨fun _=>rfl,?_,.inr (.inr (.inr (.inr (.inl ⟨rfl,rfl,ho,hx,rfl⟩)))),.inr (.inr (.inr (.inr (.inl ⟨rfl,h1.2,h2.2⟩)))),dP j,?_,by simp⟩
 ·intro x hx
  simp only [List.mem_cons,List.not_mem_nil,or_false] at hx
  rcases hx with rfl | rfl
  ·exact h1.1
  ·exact h2.1
 ·show x < _; omega
theorem uu{x m:Nat}:((x:Int) % (m:Int)).toNat = x % m:=by rw [<- Int.natCast_emod,Int.toNat_natCast]
theorem tz{x m:Nat}(h:0 < m):0 <= (x:Int) % (m:Int) /\ (x:Int) % (m:Int) < (m:Int):=by
 rw [<- Int.natCast_emod]
 have:=Nat.mod_lt x h
 omega
theorem Br{k : Int}{a b x : Nat}(h0 : 0 < n.aa.length)(hk : k = 6)(hm : 0 < n.aD.length) :
  lK n ⟨k,0,-1,[aE n.aa 1 a,(b:Int) % (n.aa.length:Int)],0,(x:Int) % (n.aD.length:Int)⟩ (n.aD.getD (x % n.aD.length) default).width:=by
 have h1:=dq hg.one a; have h2:=wD (x:=b) hg h0; have h3:=tz (x:=x) hg hm; have h4:=uu (x:=x) (m:=n.aD.length) hg
 have h5:=hg.mem (Nat.mod_lt x hm)
 subst hk
 refine .inr ⟨fun _=>rfl,?_,.inr (.inr (.inr (.inr (.inr (.inl ⟨rfl,rfl,rfl,rfl,h3.1,h3.2⟩))))),.inr (.inr (.inr (.inr (.inr (.inl ⟨rfl,h1.2,by simp only [h4]⟩))))),h5.2,by simp,by simp⟩
 intro x hx
 simp only [List.mem_cons,List.not_mem_nil,or_false] at hx
 rcases hx with rfl | rfl
 ·exact h1.1
 ·exact h2
theorem xM{k : Int}{a b d x : Nat}(h0 : 0 < n.aa.length)(hk : k = 7)(hm : 0 < n.aD.length) :
  lK n ⟨k,0,-1,([aE n.aa 1 a,(b:Int) % (n.aa.length:Int)]:List Int) ++ ([aE n.aa ((n.aD.getD (x % n.aD.length) default).width) d]:List Int),0,(x:Int) % (n.aD.length:Int)⟩ (n.aD.getD (x % n.aD.length) default).width:=by
 have h5:=hg.mem (Nat.mod_lt x hm)
 have h1:=dq hg.one a; have h2:=wD (x:=b) hg h0; have h3:=tz (x:=x) hg hm; have h4:=uu (x:=x) (m:=n.aD.length) hg
 have h6:=dq h5.1 d
 subst hk
 refine .inr ⟨fun _=>rfl,?_,.inr (.inr (.inr (.inr (.inr (.inr (.inl ⟨rfl,rfl,rfl,rfl,h3.1,h3.2⟩)))))),.inr (.inr (.inr (.inr (.inr (.inr (.inl ⟨rfl,h1.2,?_⟩)))))),h5.2,by simp,by simp⟩
 ·intro x hx
  simp only [List.cons_append,List.nil_append,List.mem_cons,List.not_mem_nil,or_false] at hx
  rcases hx with rfl | rfl | rfl
  ·exact h1.1
  ·exact h2
  ·exact h6.1
 ·simp only [h4]; exact h6.2.symm
theorem E9{k:Int}{x:Nat}(hk:k = 8)(hm:0 < n.ins.length)(hl:n.ins.length <= 1048576):lK n ⟨k,0,-1,[],x % n.ins.length,0⟩ (n.ins.getD (x % n.ins.length) 0):=by
 have h1:=Nat.mod_lt x hm
 subst hk
 exact .inr ⟨fun _=>rfl,fun x hx=>(by cases hx),.inr (.inr (.inr (.inr (.inr (.inr (.inr (.inl ⟨rfl,rfl,rfl,h1,rfl⟩))))))),.inr (.inr (.inr (.inr (.inr (.inr (.inr (.inl ⟨rfl,rfl⟩))))))),hg.Xz h1,by show x % _ < _; omega,by simp⟩
theorem Hs{k:Int}{x:Nat}(hk:k = 9)(hm:0 < n.streams.length):lK n ⟨k,0,-1,[],0,(x:Int) % (n.streams.length:Int)⟩ 1:=by
 have h3:=tz (x:=x) hg hm
 subst hk
 exact .inr ⟨fun _=>rfl,fun x hx=>(by cases hx),.inr (.inr (.inr (.inr (.inr (.inr (.inr (.inr (.inl ⟨rfl,rfl,rfl,rfl,h3.1,h3.2⟩)))))))),.inr (.inr (.inr (.inr (.inr (.inr (.inr (.inr (.inl ⟨rfl,rfl⟩)))))))),ur,by simp,by simp⟩
theorem Ht{k:Int}{x:Nat}(hk:k = 10)(hm:0 < n.streams.length)(ho:(n.streams.getD (x % n.streams.length) default).out = false):lK n ⟨k,0,-1,[],0,(x:Int) % (n.streams.length:Int)⟩ (n.streams.getD (x % n.streams.length) default).width:=by
 have h3:=tz (x:=x) hg hm; have h4:=uu (x:=x) (m:=n.streams.length) hg
 have h5:=hg.str (Nat.mod_lt x hm)
 subst hk
 exact .inr ⟨fun _=>rfl,fun x hx=>(by cases hx),.inr (.inr (.inr (.inr (.inr (.inr (.inr (.inr (.inr ⟨rfl,rfl,rfl,rfl,⟨h3.1,h3.2⟩,by simp only [h4]; exact ho⟩)))))))),.inr (.inr (.inr (.inr (.inr (.inr (.inr (.inr (.inr ⟨rfl,by simp only [h4]⟩)))))))),h5.2,by simp,by simp⟩
end
open Go Go.AW
structure vO(n:ae):Prop where
 name:lH n.name
 dm:n.cells.length <= 65536
 cO:n.aa.length <= 65536
 aa:∀ j,j < n.aa.length -> dk (n.aa.getD j 0)
 ins:∀ j,j < n.ins.length -> dk (n.ins.getD j 0)
 gB:n.aD.length <= 64
 bZ:n.streams.length <= 64
 dy:n.bD.length = n.streams.length
 gm:n.data.length = n.streams.length
 aD:∀ j,j < n.aD.length -> iP (n.aD.getD j default)
 strs:∀ j,j < n.streams.length -> gk n j
noncomputable instance (n:ae):Decidable (vO n):=Classical.propDecidable _
theorem mA{α:Type}{l m:List α}{j:Nat}{d:α}(h:j < l.length):(l ++ m).getD j d = l.getD j d:=by
 rw [List.getD_eq_getElem?_getD,List.getElem?_append_left h,List.getD_eq_getElem?_getD]
theorem mC{α:Type}{l m:List α}{j:Nat}{d:α}(h:l.length <= j):(l ++ m).getD j d = m.getD (j - l.length) d:=by
 rw [List.getD_eq_getElem?_getD,List.getElem?_append_right h,List.getD_eq_getElem?_getD]
theorem bx.parts{n:ae}(h:bx n):vO n where
 name:=h.name
 dm:=h.dm
 cO:=h.cO
 aa:=fun j hj=>by have:=h.wide j (by rw [List.length_append]; omega); rwa [mA hj] at this
 ins:=fun j hj=>by have:=h.wide (n.aa.length + j) (by rw [List.length_append]; omega); rwa [mC om,show n.aa.length + j - n.aa.length = j by omega] at this
 gB:=h.gB
 bZ:=h.bZ
 dy:=h.dy
 gm:=h.gm
 aD:=h.aD
 strs:=h.strs
theorem vO.formed{n : ae}(h : vO n)(h1 : In n.freeze n.aa.length)(h2 : In n.done n.aa.length)(h3 : ∀ j, j < n.cH.length → In (n.cH.getD j 0) n.aa.length)
  (h4:∀ j,j < n.cells.length -> jC n (n.cells.getD j default)) (h5:∀ w,w < n.aa.length -> dx n.cells w = 1):bx n where
 name:=h.name
 dm:=h.dm
 cO:=h.cO
 gB:=h.gB
 bZ:=h.bZ
 dy:=h.dy
 gm:=h.gm
 wide:=fun j hj=>by
  rw [List.length_append] at hj
  by_cases Rm:j < n.aa.length
  ·rw [mA Rm]; exact h.aa j Rm
  ·rw [mC om]; exact h.ins _ om
 aD:=h.aD
 strs:=h.strs
 freeze:=h1
 done:=h2
 cH:=oH.1 h3
 cells:=h4
 jY:=h5
def zV(n:ae)(i:Nat)(d:List Int):Prop:=∀ w,w < n.aa.length -> d.getD w 0 = (dx (n.cells.take i) w:Int)
theorem zV.init(n:ae):zV n 0 (List.replicate n.aa.length 0):=by
 intro w hw
 rw [List.getD_eq_getElem?_getD,List.getElem?_replicate,if_pos hw]; simp [dx]
theorem zV.skip{n:ae}{i:Nat}{d:List Int}(h:zV n i d)(hi:i < n.cells.length)(h7:(n.cells.getD i default).kind = 7):zV n (i + 1) d:=by
 intro w hw
 rw [gp hi,if_neg (fun h=>h.1 h7)]
 exact h w hw
theorem zV.step{n : ae}{i : Nat}{d : List Int}(h : zV n i d)(hi : i < n.cells.length)(h7 : (n.cells.getD i default).kind ≠ 7)(ho : In (n.cells.getD i default).out n.aa.length)
  (hl:d.length = n.aa.length):zV n (i + 1) (d.set (n.cells.getD i default).out.toNat (d.getD (n.cells.getD i default).out.toNat 0 + 1)):=by
 intro w hw
 have hh:=h w hw
 rw [gp hi,bP]
 unfold In at ho
 by_cases e:(n.cells.getD i default).out = (w:Int)
 ·rw [if_pos ⟨om,om⟩,if_pos ⟨h7,e⟩]
  have e2:(n.cells.getD i default).out.toNat = w:=by omega
  rw [e2,hh]; omega
 ·rw [if_neg om,if_neg (fun h=>e h.2),hh]; omega
theorem zV.le{n:ae}{i:Nat}{d:List Int}(h:zV n i d){w:Nat}(hw:w < n.aa.length):0 <= d.getD w 0 /\ d.getD w 0 <= i:=by
 rw [h w hw]
 have:dx (n.cells.take i) w <= i:=Nat.le_trans List.countP_le_length (by rw [List.length_take]; omega)
 omega
open Go Go.AW
def nB:ByteArray:=⟨#[110]⟩
def mB:ByteArray:=⟨#[109]⟩
def sB:ByteArray:=⟨#[115]⟩
theorem sn(b:UInt8)(h:eI b.toNat):lH ⟨#[b]⟩:=by
 refine ⟨fun i hi=>?_,by show 1 <= 64; decide⟩
 have iJ:i < 1:=hi
 obtain rfl:i = 0:=by omega
 exact h
def pn(ws:List Int)(cs:List Cell)(ins:List Int)(aD:List eQ)(streams:List bI):ae:=⟨nB,ws,cs,ins,aD,streams,[],[],0,0,[]⟩
structure Gr(n:ae):Prop where
 ground:Ground n
 cells:∀ c ∈ n.cells,jC n c /\ Fits n c /\ c.num < 18446744073709551616 /\ c.args.length <= 4
 jY:∀ w,w < n.aa.length -> dx n.cells w = 1
 oe:∀ i j,bC n i -> bC n j -> (n.cell j).out ∈ (n.cell i).args -> j < i
theorem Fits.ext{n n':ae}{c:Cell}(hm:n'.aD = n.aD)(hi:n'.ins = n.ins)(hs:n'.streams = n.streams)(ha:∀ k,n'.av c k = n.av c k)(ho:n'.ow c = n.ow c)(h:Fits n c):Fits n' c:=by
 unfold Fits fo at *
 simp only [ha,ho,hm,hi,hs]; exact h
theorem vN.fits{n n' : ae}{c c' : Cell}{w : Int}(hm : n'.aD = n.aD)(hi : n'.ins = n.ins)(hs : n'.streams = n.streams)(hk : c'.kind = c.kind)(Kj : c'.op = c.op)(hr : c'.args = c.args)(hn : c'.num = c.num)(X0 : c'.mem = c.mem)
  (ha:∀ k,n'.av c' k = n.av c k) (ho:c.kind ≠ 7 -> n'.ow c' = w) (h:vN n c w):Fits n' c':=by
 unfold vN at h
 unfold Fits fo
 simp only [ha,hm,hi,hs,hk,Kj,hr,hn,X0]
 by_cases h7:c.kind = 7
 ·rw [h7] at h ⊢
  simp only [Int.reduceEq,false_and,true_and,or_false,false_or] at h ⊢
  exact h
 ·rw [ho h7]; exact h
theorem Bs{ws zW:List Int}{x:Int}(hs:∀ x,x < ws.length -> zW.getD x 0 = ws.getD x 0)(hx:In x ws.length):zW.getD x.toNat 0 = ws.getD x.toNat 0:=hs _ (by unfold In at hx; omega)
theorem zX(l:List Cell)(c:Cell)(w:Nat):dx (l ++ [c]) w = dx l w + dx [c] w:=by simp only [dx,List.countP_append]
theorem xO{l:List Cell}{w:Nat}(h:∀ c ∈ l,¬ (c.kind ≠ 7 /\ c.out = (w:Int))):dx l w = 0:=by
 unfold dx
 rw [List.countP_eq_zero]
 intro c hc
 simpa using h c hc
theorem eJ{α:Type}{d:α}{l r:List α}{i:Nat}(h:i < l.length):(l ++ r).getD i d = l.getD i d:=by
 rw [List.getD_eq_getElem?_getD,List.getElem?_append_left h,<- List.getD_eq_getElem?_getD]
theorem gX{α:Type}{d c:α}{l:List α}{i:Nat}(h:i = l.length):(l ++ [c]).getD i d = c:=by
 subst h
 rw [List.getD_eq_getElem?_getD,List.getElem?_append_right (Nat.le_refl _),Nat.sub_self]; rfl
section
variable {ws zW:List Int} {cs:List Cell} {ins:List Int} {aD:List eQ} {streams:List bI} {c0:Cell}
theorem Gr.push(h : Gr (pn ws cs ins aD streams))(h0 : 0 < ws.length)(hw : ∀ w ∈ zW, dk w)(hs : ∀ x, x < ws.length → zW.getD x 0 = ws.getD x 0)(hle : ws.length ≤ zW.length)
  (hc:jC (pn zW cs ins aD streams) c0) (ha:∀ x ∈ c0.args,In x ws.length) (hf:Fits (pn zW cs ins aD streams) c0) (NN:c0.num < 18446744073709551616) (hlen:c0.args.length <= 4)
  (X1:∀ x,x < zW.length -> dx [c0] x = if x < ws.length then 0 else 1) (mz:cU c0.kind -> c0.out = ws.length) (Mc:zW.length <= ws.length + 1):Gr (pn zW (cs ++ [c0]) ins aD streams) where
 ground:=⟨fun k=>by
   obtain ⟨j,h1,h2⟩:=h.ground.has k
   exact ⟨j,Nat.lt_of_lt_of_le h1 hle,(hs j h1).trans h2⟩,hw,h.ground.aD,h.ground.strs,h.ground.ins⟩
 cells:=by
  intro c xK
  rcases List.mem_append.1 xK with h1 | h1
  ·obtain ⟨a1,a2,a3,a4⟩:=h.cells c h1
   have b1:∀ x ∈ c.args,In x ws.length:=a1.1
   refine ⟨⟨fun x hx=>?_,a1.2.1,a1.2.2.1,fun h7=>?_⟩,?_,a3,a4⟩
   ·have:=b1 x hx; unfold In at *; exact ⟨this.1,by show x < (zW.length:Int); omega⟩
   ·have:=a1.2.2.2 h7; unfold In at *; exact ⟨this.1,by have:=this.2; show c.out < (zW.length:Int); change c.out < (ws.length:Int) at this; omega⟩
   ·refine Fits.ext (n:=pn ws cs ins aD streams) rfl rfl rfl (fun k=>?_) ?_ a2
    ·refine Bs hs ?_
     rcases Nat.lt_or_ge k c.args.length with hk | hk
     ·exact b1 _ (cg hk)
     ·rw [List.getD_eq_getElem?_getD,List.getElem?_eq_none hk]; exact ⟨Int.le_refl 0,by show (0:Int) < (ws.length:Int); omega⟩
    ·unfold ae.ow
     split
     ·rename_i h2
      by_cases h7:c.kind = 7
      ·have:=a1.2.2.1 h7; omega
      ·exact Bs hs (a1.2.2.2 h7)
     ·rfl
  ·rw [List.mem_singleton.1 h1]
   exact ⟨hc,hf,NN,hlen⟩
 jY:=by
  intro w xy
  show dx (cs ++ [c0]) w = 1
  rw [zX,X1 w xy]
  by_cases h1:w < ws.length
  ·rw [if_pos h1]; have h2:=h.jY w h1; change dx cs w = 1 at h2; omega
  ·rw [if_neg h1,xO]
   rintro c xK ⟨h2,h3⟩
   have:=(h.cells c xK).1.2.2.2 h2
   unfold In at this
   have h4:=this.2
   change c.out < (ws.length:Int) at h4
   omega
 oe:=by
  intro i j hi hj ho
  have cl:∀ {k:Int},0 <= k /\ k < (cs.length:Int) -> (pn zW (cs ++ [c0]) ins aD streams).cell k = (pn ws cs ins aD streams).cell k:=fun hk=>eJ om
  have cr:∀ {k:Int},k = (cs.length:Int) -> (pn zW (cs ++ [c0]) ins aD streams).cell k = c0:=fun hk=>gX om
  have li:0 <= i /\ i < (cs.length:Int) + 1:=by have:=hi.1; simp [pn] at this; omega
  have lj:0 <= j /\ j < (cs.length:Int) + 1:=by have:=hj.1; simp [pn] at this; omega
  by_cases e1:i = (cs.length:Int)
  ·by_cases e2:j = (cs.length:Int)
   ·exfalso
    rw [cr e1,cr e2] at ho
    have h1:=ha _ ho
    have h2:=hj.2
    rw [cr e2] at h2
    rw [mz h2] at h1
    unfold In at h1; omega
   ·omega
  ·have iJ:bC (pn ws cs ins aD streams) i:=⟨⟨li.1,by show i < (cs.length:Int); omega⟩,by have:=hi.2; rwa [cl ⟨li.1,om⟩] at this⟩
   rw [cl (k:=i) ⟨li.1,om⟩] at ho
   by_cases e2:j = (cs.length:Int)
   ·exfalso
    have h2:=hj.2
    rw [cr e2] at h2 ho
    rw [mz h2] at ho
    have h3:In (ws.length:Int) ws.length:=(h.cells ((pn ws cs ins aD streams).cell i) (getD_in (l:=cs) om)).1.1 _ ho
    unfold In at h3; omega
   ·have xg:bC (pn ws cs ins aD streams) j:=⟨⟨lj.1,by show j < (cs.length:Int); omega⟩,by have:=hj.2; rwa [cl ⟨lj.1,om⟩] at this⟩
    rw [cl (k:=j) ⟨lj.1,om⟩] at ho
    exact h.oe i j iJ xg ho
theorem Km{w:Int}{x:Int}(hx:In x ws.length):(ws ++ [w]).getD x.toNat 0 = ws.getD x.toNat 0:=eJ (by unfold In at hx; omega)
theorem Gr.add{c : Cell}{w : Int}(h : Gr (pn ws cs ins aD streams))(h0 : 0 < ws.length)(hp : zU (pn ws cs ins aD streams) c w)(h7 : c.kind ≠ 7) :
  Gr (pn (ws ++ [w]) (cs ++ [⟨c.kind,c.op,(ws.length:Int),c.args,c.num,c.mem⟩]) ins aD streams):=by
 have ha:∀ k,In (c.args.getD k 0) ws.length:=fun k=>by
  rcases Nat.lt_or_ge k c.args.length with hk | hk
  ·exact hp.args _ (cg hk)
  ·rw [List.getD_eq_getElem?_getD,List.getElem?_eq_none hk]; exact ⟨Int.le_refl 0,by show (0:Int) < (ws.length:Int); omega⟩
 refine Gr.push h h0 (fun v hv=>?_) (fun x hx=>eJ hx) (by simp) ⟨fun x hx=>?_,hp.shaped,fun h=>absurd h h7,fun _=>⟨by show (0:Int) <= (ws.length:Int); omega,by simp [pn]; omega⟩⟩ hp.args ?_ hp.num hp.len (fun x hx=>?_) (fun _=>rfl) (by simp)
 ·rcases List.mem_append.1 hv with h1 | h1
  ·exact h.ground.wide v h1
  ·rw [List.mem_singleton.1 h1]; exact hp.wide
 ·have:=hp.args x hx
  unfold In at *
  exact ⟨this.1,by have:=this.2; change x < (ws.length:Int) at this; simp [pn]; omega⟩
 ·refine vN.fits (n:=pn ws cs ins aD streams) (c:=c) (w:=w) rfl rfl rfl rfl rfl rfl rfl rfl (fun k=>Km (ha k)) (fun _=>?_) hp.fits
  show (if (0:Int) <= (ws.length:Int) then (ws ++ [w]).getD ((ws.length:Int)).toNat 0 else 0) = w
  rw [if_pos om]
  exact gX (by simp)
 ·have j2:x < ws.length + 1:=by simpa using hx
  show List.countP _ _ = _
  rw [List.countP_singleton]
  by_cases e:x < ws.length
  ·rw [if_pos e,if_neg (by simp only [decide_eq_true_eq]; rintro ⟨_,h2⟩; omega)]
  ·rw [if_neg e,if_pos (by simp only [decide_eq_true_eq]; exact ⟨h7,by show (ws.length:Int) = (x:Int); omega⟩)]
theorem Gr.tg{c : Cell}{w : Int}(h : Gr (pn ws cs ins aD streams))(h0 : 0 < ws.length)(hp : zU (pn ws cs ins aD streams) c w)(h7 : c.kind = 7) :
  Gr (pn ws (cs ++ [c]) ins aD streams):=by
 refine Gr.push h h0 h.ground.wide (fun _ _=>rfl) (Nat.le_refl _) ⟨hp.args,hp.shaped,hp.out,fun h=>absurd h7 h⟩ hp.args ?_ hp.num hp.len (fun x hx=>?_) (fun hc=>?_) om
 ·exact vN.fits (n:=pn ws cs ins aD streams) (c:=c) (w:=w) rfl rfl rfl rfl rfl rfl rfl rfl (fun k=>rfl) (fun h=>absurd h7 h) hp.fits
 ·show List.countP _ _ = _
  rw [List.countP_singleton,if_pos hx,if_neg (by simp only [decide_eq_true_eq]; rintro ⟨h2,_⟩; exact h2 h7)]
 ·rw [h7] at hc; exact absurd hc ab
theorem Gr.setArgs{k : Nat}{args : List Int}(h : Gr (pn ws cs ins aD streams))(hk : k < cs.length)(h4 : (cs.getD k default).kind = 4)(ha : ∀ x ∈ args, In x ws.length)
  (hl:args.length = 2) (h1:ws.getD (args.getD 0 0).toNat 0 = 1) (h2:ws.getD (args.getD 1 0).toNat 0 = ws.getD (cs.getD k default).out.toNat 0) :
  Gr (pn ws (cs.set k ⟨(cs.getD k default).kind,(cs.getD k default).op,(cs.getD k default).out,args,(cs.getD k default).num,(cs.getD k default).mem⟩) ins aD streams):=by
 have xK:cs.getD k default ∈ cs:=getD_in hk
 obtain ⟨a1,a2,a3,a4⟩:=h.cells _ xK
 have ho:=a1.2.2.2 (by rw [h4]; decide)
 generalize hc:cs.getD k default = c at *
 have cell:∀ i:Int,(pn ws (cs.set k ⟨c.kind,c.op,c.out,args,c.num,c.mem⟩) ins aD streams).cell i = if k = i.toNat /\ k < cs.length then ⟨c.kind,c.op,c.out,args,c.num,c.mem⟩ else (pn ws cs ins aD streams).cell i:=fun i=>bP ..
 refine ⟨⟨h.ground.has,h.ground.wide,h.ground.aD,h.ground.strs,h.ground.ins⟩,?_,?_,?_⟩
 ·intro c' qY
  rcases List.mem_or_eq_of_mem_set qY with h5 | h5
  ·exact h.cells c' h5
  ·subst h5
   refine ⟨⟨ha,?_,fun h7=>?_,fun _=>ho⟩,?_,a3,by simp only [hl]; decide⟩
   ·have:=a1.2.1
    simp only [Shaped,h4,Int.reduceEq,false_and,true_and,false_or,or_false] at this
    exact .inr (.inr (.inr (.inl ⟨h4,hl,this.2.1,this.2.2⟩)))
   ·simp only [h4] at h7; exact absurd h7 ab
   ·simp only [Fits,h4,Int.reduceEq,false_and,true_and,false_or,or_false] at a2
    refine .inr (.inr (.inr (.inl ⟨h4,h1,?_,a2.2.2⟩)))
    show ws.getD (args.getD 1 0).toNat 0 = if 0 <= c.out then ws.getD c.out.toNat 0 else 0
    unfold In at ho
    rw [if_pos ho.1]; exact h2
 ·intro w hw
  have:=h.jY w hw
  rw [<- this]
  show List.countP _ (cs.set k _) = List.countP _ cs
  have e:∀ (l:List Cell) (f:Cell -> Bool),List.countP f l = List.countP id (l.map f):=fun l f=>by rw [List.countP_map]; rfl
  rw [e,e cs,List.map_set]
  congr 1
  have Bh:k < (cs.map (fun c=>decide (c.kind ≠ 7 /\ c.out = (w:Int)))).length:=by simpa using hk
  have hg:(cs.map (fun c=>decide (c.kind ≠ 7 /\ c.out = (w:Int))))[k] = decide (c.kind ≠ 7 /\ c.out = (w:Int)):=by
   rw [List.getElem_map]
   have:cs[k] = c:=by rw [<- hc,List.getD_eq_getElem?_getD,List.getElem?_eq_getElem hk]; rfl
   rw [this]
  rw [<- hg,List.set_getElem_self]
 ·intro i j hi hj hm
  have key:∀ {i:Int},bC (pn ws (cs.set k ⟨c.kind,c.op,c.out,args,c.num,c.mem⟩) ins aD streams) i -> (pn ws (cs.set k ⟨c.kind,c.op,c.out,args,c.num,c.mem⟩) ins aD streams).cell i = (pn ws cs ins aD streams).cell i /\ bC (pn ws cs ins aD streams) i:=by
   intro i hi
   have mN:=hi.2
   have Ma:0 <= i /\ i < (cs.length:Int):=by have:=hi.1; simp [pn] at this; omega
   rw [cell] at mN
   by_cases e:k = i.toNat /\ k < cs.length
   ·rw [if_pos e] at mN
    simp only [h4] at mN
    exact absurd mN ab
   ·rw [if_neg e] at mN
    exact ⟨by rw [cell,if_neg e],Ma,mN⟩
  rw [(key hi).1,(key hj).1] at hm
  exact h.oe i j (key hi).2 (key hj).2 hm
end
open Go Go.AW
def yR(i:Nat):List Int:=(List.range i).map a9
def Dy(i:Nat):List Cell:=(List.range i).map (fun (j:Nat)=>(⟨1,0,(j:Int),[],j % 2,0⟩:Cell))
theorem EA(i:Nat):yR (i + 1) = yR i ++ [a9 i]:=by simp [yR,List.range_succ]
theorem EB(i:Nat):Dy (i + 1) = Dy i ++ [(⟨1,0,(i:Int),[],i % 2,0⟩:Cell)]:=by simp [Dy,List.range_succ]
theorem r3(i:Nat):(yR i).length = i:=by simp [yR]
theorem Hu(i:Nat):(Dy i).length = i:=by simp [Dy]
theorem Bt{i j:Nat}(h:j < i):(yR i).getD j 0 = a9 j:=by
 rw [List.getD_eq_getElem?_getD,List.getElem?_eq_getElem (by rw [r3]; exact h)]; simp [yR]
theorem X2{ins:List Int}{aD:List eQ}{streams:List bI}(hm:∀ m ∈ aD,∃ k,m.width = a9 k)(hs:∀ s ∈ streams,∃ k,s.width = a9 k)(hi:∀ w ∈ ins,∃ k,w = a9 k):Gr (pn (yR 8) (Dy 8) ins aD streams) where
 ground:=⟨fun k=>⟨k % 8,by show k % 8 < (yR 8).length; rw [r3]; omega,by show (yR 8).getD (k % 8) 0 = _; rw [Bt om]; simp only [a9,Nat.mod_mod]⟩,fun w hw=>by
  obtain ⟨k,_,rfl⟩:=List.mem_map.1 hw
  exact dP k,hm,hs,hi⟩
 cells:=by
  intro c hc
  obtain ⟨j,hj,rfl⟩:=List.mem_map.1 hc
  have xg:j < 8:=List.mem_range.1 hj
  have h8:(yR 8).length = 8:=r3 8
  refine ⟨⟨fun x hx=>(by cases hx),.inl ⟨rfl,rfl,rfl,rfl⟩,fun h=>by simp at h,fun _=>⟨by show (0:Int) <= (j:Int); omega,by show (j:Int) < ((yR 8).length:Int); omega⟩⟩,.inl ⟨rfl,?_⟩,by show j % 2 < _; omega,by simp⟩
  show gA (if (0:Int) <= (j:Int) then (yR 8).getD ((j:Int)).toNat 0 else 0) (j % 2) = j % 2
  rw [if_pos om,Int.toNat_natCast,Bt xg]
  have:∀ j,j < 8 -> gA (a9 j) (j % 2) = j % 2:=by decide
  exact this j xg
 jY:=by
  have:∀ w,w < 8 -> dx (Dy 8) w = 1:=by decide
  intro w hw
  have qU:w < (yR 8).length:=hw
  rw [r3] at qU
  exact this w qU
 oe:=by
  intro i j hi _ ho
  exfalso
  have h1:=hi.1
  have h2:0 <= i /\ i < ((Dy 8).length:Int):=h1
  have h3:(pn (yR 8) (Dy 8) ins aD streams).cell i ∈ Dy 8:=getD_in (l:=Dy 8) om
  obtain ⟨k,_,hk⟩:=List.mem_map.1 h3
  rw [<- hk] at ho
  cases ho
section
variable {ws:List Int} {cs:List Cell} {ins:List Int} {aD:List eQ} {streams:List bI}
theorem vP(p:rT)(i:Nat):(sO ws cs p i).length = cs.length:=by
 unfold sO; split
 ·rw [List.length_set]
 ·rfl
theorem bK{p:Prop}(h:p:=by first | omega | (simp only [vP]; omega) | (simp [-List.getD_eq_getElem?_getD]; done) | (simp [-List.getD_eq_getElem?_getD]; omega)):p:=h
theorem Gr.outs(h:Gr (pn ws cs ins aD streams)){k:Nat}(hk:k < cs.length)(h4:(cs.getD k default).kind = 4):In (cs.getD k default).out ws.length:=(h.cells (cs.getD k default) (getD_in hk)).1.2.2.2 (by rw [h4]; decide)
theorem Gr.late(h:Gr (pn ws cs ins aD streams)){p:rT}{i:Nat}(hi:i < cs.length):Gr (pn ws (sO ws cs p i) ins aD streams):=by
 unfold sO
 split
 ·rename_i h4
  have hk:(((cs.length:Int) - 1) - (i:Int)).toNat < cs.length:=by omega
  have ho:=h.outs hk h4
  have h1:=dq h.ground.one p.a
  have h2:=dq (ws:=ws) (w:=ws.getD (cs.getD (((cs.length:Int) - 1) - (i:Int)).toNat default).out.toNat 0) ⟨_,by unfold In at ho; omega,rfl⟩ p.d
  refine h.setArgs hk h4 ?_ rfl h1.2 h2.2
  intro x hx
  simp only [List.mem_cons,List.not_mem_nil,or_false] at hx
  rcases hx with rfl | rfl
  ·exact h1.1
  ·exact h2.1
 ·exact h
def vQ(ws:List Int)(streams:List bI)(bD data:List Int)(j:Nat):Prop :=
 (In (bD.getD j 0) ws.length ∧ ws.getD (bD.getD j 0).toNat 0 = 1) ∧ ((streams.getD j default).out = true → In (data.getD j 0) ws.length ∧ ws.getD (data.getD j 0).toNat 0 = (streams.getD j default).width) ∧
  ((streams.getD j default).out = false -> data.getD j 0 = -1)
structure Bu(n:ae):Prop where
 formed:bx n
 fit:Fit n
 acyclic:Acyclic n
 small:n.Small
 dm:8 <= n.cells.length /\ n.cells.length <= 48
 cO:8 <= n.aa.length /\ n.aa.length <= 48
 uv:∀ c ∈ n.cells,c.args.length <= 4
 vR:n.cH.length <= 3
 gB:n.aD.length <= 3
 bZ:n.streams.length <= 4
 EC:n.ins.length <= 4
theorem Bv : ∀ {l : List Cell}, (∀ c ∈ l, c.args.length ≤ 4) → (l.map (fun c => c.args.length)).sum ≤ 4 * l.length
 | [],_=>by simp
 | c :: r,h=>by
  have h1:=h c (by simp)
  have h2:=Bv (l:=r) (fun c hc=>h c (List.mem_cons_of_mem _ hc))
  simp only [List.map_cons,List.sum_cons,List.length_cons]; omega
theorem Gr.made(h : Gr (pn ws cs ins aD streams)){bD data cH : List Int}{f d : Int}(te : 8 ≤ cs.length ∧ cs.length ≤ 48)(Mc : 8 ≤ ws.length ∧ ws.length ≤ 48)(NO : aD.length ≤ 3)(RW : streams.length ≤ 4)(RY : ins.length ≤ 4)(NP : cH.length ≤ 3)
  (hm:∀ m ∈ aD,iP m) (hs:∀ s ∈ streams,lH s.name) (ha:bD.length = streams.length) (hd:data.length = streams.length) (he:∀ j,j < streams.length -> vQ ws streams bD data j)
  (hr:∀ r ∈ cH,In r ws.length) (hf:In f ws.length /\ ws.getD f.toNat 0 = 1) (Q8:In d ws.length /\ ws.getD d.toNat 0 = 1):Bu ⟨nB,ws,cs,ins,aD,streams,bD,data,f,d,cH⟩ where
 formed := {
  name:=sn 110 (by unfold eI; decide)
  dm:=by show cs.length <= _; omega
  cO:=by show ws.length <= _; omega
  gB:=by show aD.length <= _; omega
  bZ:=by show streams.length <= _; omega
  dy:=ha
  gm:=hd
  wide:=fun j hj=>by
   have xg:j < (ws ++ ins).length:=hj
   have h1:(ws ++ ins).getD j 0 ∈ ws ++ ins:=getD_in xg
   rcases List.mem_append.1 h1 with h2 | h2
   ·exact h.ground.wide _ h2
   ·obtain ⟨k,hk⟩:=h.ground.ins _ h2
    show dk ((ws ++ ins).getD j 0)
    rw [hk]; exact dP k
  aD:=fun j hj=>hm _ (getD_in hj)
  strs:=fun j hj=>by
   have h1:=he j hj
   exact ⟨hs _ (getD_in hj),(h.ground.str hj).2,h1.1.1,fun ho=>(h1.2.1 ho).1,h1.2.2⟩
  freeze:=hf.1
  done:=Q8.1
  cH:=hr
  cells:=fun j hj=>(h.cells _ (getD_in hj)).1
  jY:=h.jY }
 fit := {
  freeze:=hf.2
  done:=Q8.2
  strs:=fun j hj=>⟨(he j hj).1.2,fun ho=>((he j hj).2.1 ho).2⟩
  cells:=fun j hj=>(h.cells _ (getD_in hj)).2.1 }
 acyclic:=⟨fun i=>i.toNat,fun i j hi hj ho=>by
  have h1:=h.oe i j hi hj ho
  have h2:=hi.1.1; have h3:=hj.1.1
  show j.toNat < i.toNat
  omega⟩
 small := {
  name:=by show nB.size <= _; decide
  aa:=by show ws.length <= _; omega
  cells:=by show cs.length <= _; omega
  args:=fun c hc=>by have:=(h.cells c hc).2.2.2; omega
  GG:=by
   have:=Bv (l:=cs) (fun c hc=>(h.cells c hc).2.2.2)
   show (cs.map (fun c=>c.args.length)).sum <= _
   omega
  zP:=fun c hc=>(h.cells c hc).2.2.1
  mT:=fun m MP=>by have:=(hm m MP).1.2; omega
  mU:=fun m MP=>by have:=(hs m MP).2; omega
  ins:=by show ins.length <= _; omega
  aD:=by show aD.length <= _; omega
  streams:=by show streams.length <= _; omega
  bD:=by show bD.length <= _; omega
  data:=by show data.length <= _; omega
  cH:=by show cH.length <= _; omega }
 dm:=te
 cO:=Mc
 uv:=fun c hc=>(h.cells c hc).2.2.2
 vR:=NP
 gB:=NO
 bZ:=RW
 EC:=RY
end
structure nw.Q9(p:nw):Prop where
 aD:p.aD.length <= 3
 streams:p.streams.length <= 4
 ins:p.ins.length <= 4
 parts:p.parts.length <= 40
 cH:p.cH.length <= 3
structure nw.Ok(p:nw):Prop where
 aD:∀ m ∈ p.aD,m.a < 256 /\ m.b < 256
 streams:∀ m ∈ p.streams,m.a < 256 /\ m.b < 256
 ins:∀ k ∈ p.ins,k < 256
 parts:∀ q ∈ p.parts,q.Ok
 cH:∀ k ∈ p.cH,k < 256
theorem tA{α:Type}{P:α -> Prop}{l:List α}{c:α}(h:∀ m ∈ l,P m)(hc:P c):∀ m ∈ l ++ [c],P m:=by
 intro m hm
 rcases List.mem_append.1 hm with h1 | h1
 ·exact h m h1
 ·rw [List.mem_singleton.1 h1]; exact hc
theorem zY{x:Nat}{l:Int}(h:1 <= l /\ l <= 4096):iP ⟨mB,a9 x,l,0,0⟩ /\ ∃ k,(⟨mB,a9 x,l,0,0⟩:eQ).width = a9 k :=
 ⟨⟨sn 109 (by unfold eI; decide),dP x,h.1,h.2,rfl,rfl⟩,x,rfl⟩
theorem zZ{x:Nat}{o:Bool}:lH (⟨sB,a9 x,o⟩:bI).name /\ ∃ k,(⟨sB,a9 x,o⟩:bI).width = a9 k:=⟨sn 115 (by unfold eI; decide),x,rfl⟩
theorem Gr.Kn{ws : List Int}{cs : List Cell}{ins : List Int}{aD : List eQ}{streams : List bI}(h : Gr (pn ws cs ins aD streams)){i : Nat}(hi : i < cs.length) :
  In (cs.getD ((((cs.length:Int) - 1) - (i:Int)).toNat) default).out ws.length \/ (cs.getD ((((cs.length:Int) - 1) - (i:Int)).toNat) default).kind ≠ 4:=by
 by_cases h4:(cs.getD ((((cs.length:Int) - 1) - (i:Int)).toNat) default).kind = 4
 ·exact .inl (h.outs om h4)
 ·exact .inr h4
def Bw(ws:List Int)(streams:List bI)(i:Nat)(d0 d:List Int):Prop :=
 d.length = i + 1 /\ (∀ j,j < i -> d.getD j 0 = d0.getD j 0) /\ ((streams.getD i default).out = true -> In (d.getD i 0) ws.length /\ ws.getD (d.getD i 0).toNat 0 = (streams.getD i default).width) /\ ((streams.getD i default).out = false -> d.getD i 0 = -1)
theorem xP{ws : List Int}{streams : List bI}{i : Nat}{d0 : List Int}{x : Int}(hl : d0.length = i)(hx : In x ws.length ∧ ws.getD x.toNat 0 = (streams.getD i default).width)(ho : (streams.getD i default).out = true) :
  Bw ws streams i d0 ((d0 ++ ([-1]:List Int)).set i x):=by
 have e:((d0 ++ ([-1]:List Int)).set i x).getD i 0 = x:=by rw [bP,if_pos ⟨rfl,by simp; omega⟩]
 refine ⟨by simp [hl],fun j hj=>?_,fun _=>by rw [e]; exact hx,fun h=>by rw [ho] at h; cases h⟩
 rw [bP,if_neg om,eJ om]
theorem xQ{ws:List Int}{streams:List bI}{i:Nat}{d0:List Int}(hl:d0.length = i)(ho:(streams.getD i default).out = false):Bw ws streams i d0 (d0 ++ ([-1]:List Int)) :=
 ⟨by simp [hl],fun j hj=>eJ om,fun h=>(by rw [ho] at h; cases h),fun _=>gX hl.symm⟩
theorem CD{ws : List Int}{streams : List bI}{i : Nat}{a d0 d : List Int}{x : Int}(so : a.length = i)(h : ∀ j, j < i → vQ ws streams a d0 j)(hx : In x ws.length ∧ ws.getD x.toNat 0 = 1)(hd : Bw ws streams i d0 d) :
  ∀ j,j < i + 1 -> vQ ws streams (a ++ [x]) d j:=by
 intro j hj
 rcases Nat.lt_or_ge j i with h1 | h1
 ·have h2:=h j h1
  unfold vQ at *
  rw [eJ om,hd.2.1 j h1]; exact h2
 ·obtain rfl:j = i:=by omega
  unfold vQ
  rw [gX so.symm]
  exact ⟨hx,hd.2.2.1,hd.2.2.2⟩
open Go Go.AW Go.Proofs
section
variable {H:Type} {enc:TypeId × Value -> H} {W:World} {base:Nat}
theorem ED:Try.prog.cellsOf 5 = 1:=by kernel_rfl
theorem Ko:Try.prog.cellsOf 138 = 3:=by kernel_rfl
theorem RZ:Reads enc Try.prog W base 81 U2.row (fun m=>m.a < 256 /\ m.b < 256) (fun _=>0) :=
 (Reads.RM Try.underlying81 ED au se).map (fun x=>(⟨x.1,x.2⟩:U2)) (fun _=>rfl) (fun _ h=>h) (fun _=>Nat.zero_le _)
theorem Sa:Reads enc Try.prog W base 138 (fun x:Nat × Nat × Nat=>uh x.1 ++ (uh x.2.1 ++ uh x.2.2)) (fun x=>x.1 < 256 /\ x.2.1 < 256 /\ x.2.2 < 256) (fun _=>0):=Reads.RN Try.underlying138 ED au se
theorem NQ:Reads enc Try.prog W base 140 rT.row rT.Ok (fun _=>0) :=
 (Reads.struct Try.underlying140 au (eH.cons rfl ED se (eH.cons rfl ED se (eH.cons rfl ED se (eH.cons rfl Ko Sa (eH.cons rfl IV Bp eH.nil)))))).map
  (fun x=>(⟨x.1,x.2.1,x.2.2.1,x.2.2.2.1.1,x.2.2.2.1.2.1,x.2.2.2.1.2.2,x.2.2.2.2.1⟩:rT)) (fun _=>rfl) (fun x h=>⟨h.1,h.2.1,h.2.2.1,h.2.2.2.1.1,h.2.2.2.1.2.1,h.2.2.2.1.2.2,h.2.2.2.2.1⟩) (fun _=>Nat.zero_le _)
theorem Ja:Reads enc Try.prog W base 54 (fun l:List U2=>[.fz 2 (l.map U2.row)]) (fun l=>l.length * 2 <= 140737488351232 /\ ∀ a ∈ l,a.a < 256 /\ a.b < 256) (fun l=>(l.map (fun _=>0)).sum):=Reads.slice Try.underlying54 au ab au RZ
theorem Jb:Reads enc Try.prog W base 55 (fun l:List Nat=>[.fz 1 (l.map uh)]) (fun l=>l.length * 1 <= 140737488351232 /\ ∀ a ∈ l,a < 256) (fun l=>(l.map (fun _=>1)).sum):=Reads.slice Try.underlying55 au ab au se
theorem Kq:Reads enc Try.prog W base 56 (fun l:List rT=>[.fz 7 (l.map rT.row)]) (fun l=>l.length * 16 <= 140737488351232 /\ ∀ a ∈ l,a.Ok) (fun l=>(l.map (fun _=>0)).sum):=Reads.slice Try.underlying56 au ab au NQ
theorem Jc:Try.prog.cellsOf 54 = 1:=by kernel_rfl
theorem Jd:Try.prog.cellsOf 55 = 1:=by kernel_rfl
theorem NR:Try.prog.cellsOf 56 = 1:=by kernel_rfl
theorem NS:Reads enc Try.prog W base 58 nw.row nw.Ok (fun _=>0) :=
 (Reads.struct Try.underlying58 au (eH.cons rfl Jc Ja (eH.cons rfl Jc Ja (eH.cons rfl Jd Jb (eH.cons rfl NR Kq (eH.cons rfl Jd Jb eH.nil)))))).map
  (fun x=>(⟨x.1,x.2.1,x.2.2.1,x.2.2.2.1,x.2.2.2.2.1⟩:nw)) (fun _=>rfl) (fun x h=>⟨h.1.2,h.2.1.2,h.2.2.1.2,h.2.2.2.1.2,h.2.2.2.2.1.2⟩) (fun _=>Nat.zero_le _)
end
open Go Go.AW Go.Proofs
end Go.Proofs.Ytlimckldnjmabaa
namespace Go.Proofs.Ytlimckldnjmabaa
open Go Go.AW Go.Proofs
theorem iZ:TY.kC Try.prog 100 0 = some (0,3):=by kernel_rfl
theorem cS:TY.kC Try.prog 100 2 = some (2,3):=by kernel_rfl
theorem kz:TY.kC Try.prog 100 3 = some (3,3):=by kernel_rfl
theorem kA:TY.kC Try.prog 100 4 = some (4,3):=by kernel_rfl
theorem bU:TY.kC Try.prog 100 5 = some (5,3):=by kernel_rfl
theorem Bx:TY.kC Try.prog 128 0 = some (0,9):=by kernel_rfl
theorem mc:TY.kC Try.prog 128 1 = some (1,3):=by kernel_rfl
theorem tB:TY.kC Try.prog 128 2 = some (2,3):=by kernel_rfl
theorem By:TY.kC Try.prog 128 3 = some (3,3):=by kernel_rfl
theorem Bz:TY.kC Try.prog 128 4 = some (4,3):=by kernel_rfl
theorem BA:TY.kC Try.prog 130 0 = some (0,9):=by kernel_rfl
theorem me:TY.kC Try.prog 130 1 = some (1,3):=by kernel_rfl
theorem gx:TY.kC Try.prog 130 2 = some (2,4):=by kernel_rfl
theorem ja:TY.kC Try.prog 152 0 = some (0,27):=by kernel_rfl
theorem EE:TY.kC Try.prog 27 0 = some (0,9):=by kernel_rfl
theorem bB:TY.kC Try.prog 27 1 = some (1,22):=by kernel_rfl
theorem mh:TY.kC Try.prog 27 10 = some (10,22):=by kernel_rfl
theorem bS:TY.kC Try.prog 27 2 = some (2,23):=by kernel_rfl
theorem jf:TY.kC Try.prog 27 3 = some (3,22):=by kernel_rfl
theorem eK:TY.kC Try.prog 27 4 = some (4,24):=by kernel_rfl
theorem cK:TY.kC Try.prog 27 5 = some (5,25):=by kernel_rfl
theorem lL:TY.kC Try.prog 27 6 = some (6,22):=by kernel_rfl
theorem kb:TY.kC Try.prog 27 7 = some (7,22):=by kernel_rfl
theorem qF:TY.kC Try.prog 27 8 = some (8,3):=by kernel_rfl
theorem sq:TY.kC Try.prog 27 9 = some (9,3):=by kernel_rfl
theorem ck:TY.kC Try.prog 73 0 = some (0,3):=by kernel_rfl
theorem cL:TY.kC Try.prog 73 1 = some (1,3):=by kernel_rfl
theorem eg:TY.kC Try.prog 73 2 = some (2,3):=by kernel_rfl
theorem bT:TY.kC Try.prog 73 3 = some (3,22):=by kernel_rfl
theorem dE:TY.kC Try.prog 73 4 = some (4,66):=by kernel_rfl
theorem bY:TY.kC Try.prog 73 5 = some (5,3):=by kernel_rfl
theorem NT:TY.isInt Try.prog 232 = some .u64:=by kernel_rfl
theorem r4:TY.isInt Try.prog 3 = some .i64:=by kernel_rfl
theorem vS:TY.isInt Try.prog 5 = some .u8:=by kernel_rfl
theorem wE:TY.isInt Try.prog 66 = some .u64:=by kernel_rfl
theorem Je:aP Try.prog 100 = true:=by kernel_rfl
theorem NU:aP Try.prog 108 = true:=by kernel_rfl
theorem NV:aP Try.prog 109 = true:=by kernel_rfl
theorem NW:aP Try.prog 110 = true:=by kernel_rfl
theorem kZ:aP Try.prog 111 = true:=by kernel_rfl
theorem NX:aP Try.prog 112 = true:=by kernel_rfl
theorem NY:aP Try.prog 113 = true:=by kernel_rfl
theorem NZ:aP Try.prog 114 = true:=by kernel_rfl
theorem uw:aP Try.prog 117 = true:=by kernel_rfl
theorem Jf:aP Try.prog 118 = true:=by kernel_rfl
theorem EF:aP Try.prog 123 = true:=by kernel_rfl
theorem Oa:aP Try.prog 153 = true:=by kernel_rfl
theorem EG:aP Try.prog 154 = true:=by kernel_rfl
theorem EH:aP Try.prog 155 = true:=by kernel_rfl
theorem ux:aP Try.prog 156 = true:=by kernel_rfl
theorem Jg:aP Try.prog 157 = true:=by kernel_rfl
theorem Ob:aP Try.prog 158 = true:=by kernel_rfl
theorem Oc:aP Try.prog 159 = true:=by kernel_rfl
theorem Od:aP Try.prog 160 = true:=by kernel_rfl
theorem Oe:aP Try.prog 161 = true:=by kernel_rfl
theorem Og:aP Try.prog 162 = true:=by kernel_rfl
theorem Oh:aP Try.prog 163 = true:=by kernel_rfl
theorem Oi:aP Try.prog 164 = true:=by kernel_rfl
theorem EI:aP Try.prog 165 = true:=by kernel_rfl
theorem Oj:aP Try.prog 167 = true:=by kernel_rfl
theorem xR:aP Try.prog 174 = true:=by kernel_rfl
theorem Ol:aP Try.prog 184 = true:=by kernel_rfl
theorem Om:aP Try.prog 185 = true:=by kernel_rfl
theorem EJ:aP Try.prog 186 = true:=by kernel_rfl
theorem Oo:aP Try.prog 187 = true:=by kernel_rfl
theorem Oq:aP Try.prog 188 = true:=by kernel_rfl
theorem Ot:aP Try.prog 189 = true:=by kernel_rfl
theorem Ou:aP Try.prog 190 = true:=by kernel_rfl
theorem Ov:aP Try.prog 194 = true:=by kernel_rfl
theorem Ow:aP Try.prog 197 = true:=by kernel_rfl
theorem Ox:aP Try.prog 42 = true:=by kernel_rfl
theorem Hv:aP Try.prog 44 = true:=by kernel_rfl
theorem Oy:aP Try.prog 52 = true:=by kernel_rfl
theorem Sb:aP Try.prog 53 = true:=by kernel_rfl
theorem Sc:aP Try.prog 54 = true:=by kernel_rfl
theorem Sd:aP Try.prog 55 = true:=by kernel_rfl
theorem Hw:aP Try.prog 62 = true:=by kernel_rfl
theorem Kr:aP Try.prog 72 = true:=by kernel_rfl
theorem Ks:aP Try.prog 73 = true:=by kernel_rfl
theorem Se:aP Try.prog 80 = true:=by kernel_rfl
theorem Sf:aP Try.prog 81 = true:=by kernel_rfl
theorem Sg:aP Try.prog 86 = true:=by kernel_rfl
theorem Oz:aP Try.prog 87 = true:=by kernel_rfl
theorem wF:aP Try.prog 88 = true:=by kernel_rfl
theorem O0:aP Try.prog 89 = true:=by kernel_rfl
theorem Kt:aP Try.prog 90 = true:=by kernel_rfl
theorem O1:aP Try.prog 91 = true:=by kernel_rfl
theorem Hx:aP Try.prog 93 = true:=by kernel_rfl
theorem sP:TY.j5 Try.prog 100 = some [(0,1),(1,1),(2,1),(3,1),(4,1),(5,1)]:=by kernel_rfl
theorem vu:TY.j5 Try.prog 73 = some [(0,1),(1,1),(2,1),(3,1),(4,1),(5,1)]:=by kernel_rfl
theorem dJ:TY.shape Try.prog 100 = some (some 6):=by kernel_rfl
theorem Jh:TY.shape Try.prog 128 = some (some 5):=by kernel_rfl
theorem EK:TY.shape Try.prog 130 = some (some 3):=by kernel_rfl
theorem bn:TY.shape Try.prog 22 = some none:=by kernel_rfl
theorem fU:TY.shape Try.prog 23 = some none:=by kernel_rfl
theorem ln:TY.shape Try.prog 24 = some none:=by kernel_rfl
theorem gy:TY.shape Try.prog 25 = some none:=by kernel_rfl
theorem fF:TY.shape Try.prog 27 = some (some 11):=by kernel_rfl
theorem bg:TY.shape Try.prog 3 = some none:=by kernel_rfl
theorem vT:TY.shape Try.prog 4 = some none:=by kernel_rfl
theorem fV:TY.shape Try.prog 66 = some none:=by kernel_rfl
theorem fq:TY.shape Try.prog 73 = some (some 6):=by kernel_rfl
theorem Md:TY.shape Try.prog 9 = some none:=by kernel_rfl
theorem Aa:TY.shape Try.prog 98 = some none:=by kernel_rfl
theorem cR:TY.size Try.prog 100 = some 6:=by kernel_rfl
theorem Ji:TY.size Try.prog 128 = some 5:=by kernel_rfl
theorem EL:TY.size Try.prog 130 = some 3:=by kernel_rfl
theorem fG:TY.size Try.prog 22 = some 1:=by kernel_rfl
theorem ti:TY.size Try.prog 23 = some 1:=by kernel_rfl
theorem dT:TY.size Try.prog 3 = some 1:=by kernel_rfl
theorem QA:TY.size Try.prog 4 = some 1:=by kernel_rfl
theorem gi:TY.size Try.prog 73 = some 6:=by kernel_rfl
theorem Si:TY.size Try.prog 98 = some 1:=by kernel_rfl
theorem ee:TY.slice Try.prog 105 = some (22,1,24):=by kernel_rfl
theorem a7:TY.slice Try.prog 22 = some (3,1,8):=by kernel_rfl
theorem dU:TY.slice Try.prog 23 = some (73,6,64):=by kernel_rfl
theorem jE:TY.slice Try.prog 24 = some (128,5,48):=by kernel_rfl
theorem fu:TY.slice Try.prog 25 = some (130,3,32):=by kernel_rfl
theorem ss:TY.slice Try.prog 62 = some (4,1,1):=by kernel_rfl
theorem X3:Try.prog.underlying 4 = some .bool:=by kernel_rfl
theorem Ku:Try.prog.underlying 9 = some .string:=by kernel_rfl
theorem mi:TY.zero Try.prog 100 = some [.int .i64 0,.int .i64 0,.int .i64 0,.int .i64 0,.int .i64 0,.int .i64 0]:=by kernel_rfl
theorem mX:TY.zero Try.prog 128 = some [.string ByteArray.empty,.int .i64 0,.int .i64 0,.int .i64 0,.int .i64 0]:=by kernel_rfl
theorem mj:TY.zero Try.prog 130 = some [.string ByteArray.empty,.int .i64 0,.bool false]:=by kernel_rfl
theorem pJ:TY.zero Try.prog 22 = some [.slice none 0 0]:=by kernel_rfl
theorem dG:TY.zero Try.prog 3 = some [.int .i64 0]:=by kernel_rfl
theorem Sj:TY.zero Try.prog 4 = some [.bool false]:=by kernel_rfl
theorem ez:TY.zero Try.prog 73 = some [.int .i64 0,.int .i64 0,.int .i64 0,.slice none 0 0,.int .u64 0,.int .i64 0]:=by kernel_rfl
theorem Sk:TY.zero Try.prog 98 = some [.nilFunc]:=by kernel_rfl
open Go Go.AW Go.Proofs
theorem oI:TY.array Try.prog 138 = some (3,5,1):=by kernel_rfl
theorem Hy:TY.array Try.prog 81 = some (2,5,1):=by kernel_rfl
theorem Hz:TY.kC Try.prog 140 0 = some (0,5):=by kernel_rfl
theorem pw:TY.kC Try.prog 140 1 = some (1,5):=by kernel_rfl
theorem BB:TY.kC Try.prog 140 2 = some (2,5):=by kernel_rfl
theorem jF:TY.kC Try.prog 140 3 = some (3,138):=by kernel_rfl
theorem tC:TY.kC Try.prog 140 4 = some (6,66):=by kernel_rfl
theorem wG:TY.kC Try.prog 58 0 = some (0,54):=by kernel_rfl
theorem wH:TY.kC Try.prog 58 1 = some (1,54):=by kernel_rfl
theorem Ab:TY.kC Try.prog 58 2 = some (2,55):=by kernel_rfl
theorem qG:TY.kC Try.prog 58 3 = some (3,56):=by kernel_rfl
theorem Ac:TY.kC Try.prog 58 4 = some (4,55):=by kernel_rfl
theorem O2:aP Try.prog 119 = true:=by kernel_rfl
theorem Jj:aP Try.prog 124 = true:=by kernel_rfl
theorem O3:aP Try.prog 35 = true:=by kernel_rfl
theorem vv:aP Try.prog 64 = true:=by kernel_rfl
theorem O4:aP Try.prog 65 = true:=by kernel_rfl
theorem Sl:aP Try.prog 66 = true:=by kernel_rfl
theorem jg:aP Try.prog 67 = true:=by kernel_rfl
theorem EM:TY.j5 Try.prog 128 = some [(0,1),(1,1),(2,1),(3,1),(4,1)]:=by kernel_rfl
theorem EN:TY.j5 Try.prog 130 = some [(0,1),(1,1),(2,1)]:=by kernel_rfl
theorem Sm:TY.j5 Try.prog 27 = some [(0,1),(1,1),(2,1),(3,1),(4,1),(5,1),(6,1),(7,1),(8,1),(9,1),(10,1)]:=by kernel_rfl
theorem EO:TY.shape Try.prog 140 = some (some 7):=by kernel_rfl
theorem sQ:TY.shape Try.prog 5 = some none:=by kernel_rfl
theorem xS:TY.shape Try.prog 54 = some none:=by kernel_rfl
theorem CF:TY.shape Try.prog 55 = some none:=by kernel_rfl
theorem Ad:TY.shape Try.prog 56 = some none:=by kernel_rfl
theorem HA:TY.size Try.prog 24 = some 1:=by kernel_rfl
theorem HB:TY.size Try.prog 25 = some 1:=by kernel_rfl
theorem Kv:TY.size Try.prog 27 = some 11:=by kernel_rfl
theorem HC:TY.size Try.prog 66 = some 1:=by kernel_rfl
theorem xT:TY.slice Try.prog 54 = some (81,2,2):=by kernel_rfl
theorem CG:TY.slice Try.prog 55 = some (5,1,1):=by kernel_rfl
theorem Ae:TY.slice Try.prog 56 = some (140,7,16):=by kernel_rfl
theorem HD:TY.zero Try.prog 27 = some [.string ByteArray.empty,.slice none 0 0,.slice none 0 0,.slice none 0 0,.slice none 0 0,.slice none 0 0,.slice none 0 0,.slice none 0 0,.int .i64 0,.int .i64 0,.slice none 0 0]:=by kernel_rfl
open Go Go.AW Go.Proofs
theorem HE:TY.kC Try.prog 107 0 = some (0,85):=by kernel_rfl
theorem nG:TY.kC Try.prog 107 1 = some (1,105):=by kernel_rfl
theorem BC:TY.kC Try.prog 107 2 = some (2,105):=by kernel_rfl
theorem HF:TY.kC Try.prog 114 0 = some (0,3):=by kernel_rfl
theorem nH:TY.kC Try.prog 159 0 = some (0,85):=by kernel_rfl
theorem mn:TY.kC Try.prog 221 0 = some (0,3):=by kernel_rfl
theorem lp:TY.kC Try.prog 221 1 = some (1,3):=by kernel_rfl
theorem sR:aP Try.prog 125 = true:=by kernel_rfl
theorem O5:aP Try.prog 126 = true:=by kernel_rfl
theorem O6:aP Try.prog 127 = true:=by kernel_rfl
theorem EP:aP Try.prog 128 = true:=by kernel_rfl
theorem ER:aP Try.prog 129 = true:=by kernel_rfl
theorem Jk:aP Try.prog 130 = true:=by kernel_rfl
theorem BD:aP Try.prog 131 = true:=by kernel_rfl
theorem O7:aP Try.prog 132 = true:=by kernel_rfl
theorem ES:aP Try.prog 142 = true:=by kernel_rfl
theorem xU:aP Try.prog 143 = true:=by kernel_rfl
theorem So:aP Try.prog 15 = true:=by kernel_rfl
theorem vU:aP Try.prog 175 = true:=by kernel_rfl
theorem Jl:aP Try.prog 176 = true:=by kernel_rfl
theorem O8:aP Try.prog 177 = true:=by kernel_rfl
theorem ET:aP Try.prog 178 = true:=by kernel_rfl
theorem O9:aP Try.prog 195 = true:=by kernel_rfl
theorem Jm:aP Try.prog 198 = true:=by kernel_rfl
theorem Sp:aP Try.prog 22 = true:=by kernel_rfl
theorem Kw:aP Try.prog 30 = true:=by kernel_rfl
theorem Sq:aP Try.prog 32 = true:=by kernel_rfl
theorem Sr:aP Try.prog 37 = true:=by kernel_rfl
theorem Ss:aP Try.prog 46 = true:=by kernel_rfl
theorem Su:aP Try.prog 47 = true:=by kernel_rfl
theorem Sv:aP Try.prog 74 = true:=by kernel_rfl
theorem Sw:aP Try.prog 75 = true:=by kernel_rfl
theorem Sx:aP Try.prog 76 = true:=by kernel_rfl
theorem Sy:aP Try.prog 77 = true:=by kernel_rfl
theorem OA:aP Try.prog 78 = true:=by kernel_rfl
theorem OB:aP Try.prog 79 = true:=by kernel_rfl
theorem S0:aP Try.prog 92 = true:=by kernel_rfl
theorem S1:aP Try.prog 94 = true:=by kernel_rfl
theorem uy:aP Try.prog 95 = true:=by kernel_rfl
theorem tj:aP Try.prog 96 = true:=by kernel_rfl
theorem HG:aP Try.prog 97 = true:=by kernel_rfl
theorem r5:TY.j5 Try.prog 107 = some [(0,1),(1,1),(2,1)]:=by kernel_rfl
theorem OC:TY.j5 Try.prog 114 = some [(0,1),(1,1),(2,1)]:=by kernel_rfl
theorem OD:TY.j5 Try.prog 152 = some [(0,11)]:=by kernel_rfl
theorem Jn:TY.j5 Try.prog 159 = some [(0,1)]:=by kernel_rfl
theorem BE:TY.j5 Try.prog 221 = some [(0,1),(1,1)]:=by kernel_rfl
theorem r6:TY.shape Try.prog 105 = some none:=by kernel_rfl
theorem OE:TY.shape Try.prog 107 = some (some 3):=by kernel_rfl
theorem EU:TY.shape Try.prog 221 = some (some 2):=by kernel_rfl
theorem OF:TY.shape Try.prog 58 = some (some 5):=by kernel_rfl
theorem CH:TY.shape Try.prog 85 = some none:=by kernel_rfl
theorem oJ:TY.size Try.prog 107 = some 3:=by kernel_rfl
theorem BF:TY.size Try.prog 221 = some 2:=by kernel_rfl
theorem OG:TY.size Try.prog 85 = some 1:=by kernel_rfl
theorem eo:TY.slice Try.prog 219 = some (221,2,16):=by kernel_rfl
theorem xV:TY.slice Try.prog 85 = some (114,3,24):=by kernel_rfl
theorem jV:TY.zero Try.prog 107 = some [.slice none 0 0,.slice none 0 0,.slice none 0 0]:=by kernel_rfl
theorem EV:TY.zero Try.prog 114 = some [.int .i64 0,.int .i64 0,.int .i64 0]:=by kernel_rfl
theorem OH:TY.zero Try.prog 152 = some [.string ByteArray.empty,.slice none 0 0,.slice none 0 0,.slice none 0 0,.slice none 0 0,.slice none 0 0,.slice none 0 0,.slice none 0 0,.int .i64 0,.int .i64 0,.slice none 0 0]:=by kernel_rfl
theorem Jo:TY.zero Try.prog 159 = some [.slice none 0 0]:=by kernel_rfl
theorem jq:TY.zero Try.prog 221 = some [.int .i64 0,.int .i64 0]:=by kernel_rfl
open Go Go.AW Go.Proofs
end Go.Proofs.Ytlimckldnjmabaa
namespace Go.Proofs.Ytlimckldnjmabaa
open Go Go.AW Go.Proofs
theorem su{w:Int}:aw Try.prog 155 [vi w] [] [] (fun r o=>r = .v (.bool (decide (dk w))) /\ o = []):=by
 refine aw.of Try.func155 U U U (n:=9) ab (aH U) (.sr (.an (.nil (.sr ?_))))
 refine .mv ?_
 refine .vl (Y.qp U U) (.mv ?_)
 refine .a8 (d:=5) U (fun c5=>?_) (fun c5=>?_)
 refine .gw 5 (Y.zf U U) (.gw 5 (Y.qy U U) (.pk ?_))
 refine .an (.nil (.ret ?_))
 exact .rb rfl (dd (by (simp only [dk]) <;> (first | omega | grind)))
 refine .gz 5 (.gz 5 (.pk ?_))
 refine .an (.nil (.ret ?_))
 exact .rb rfl (df (by (simp only [dk]) <;> (first | omega | grind)))
theorem qH{w:Int}:aw Try.prog 90 [vi w] [] [] (fun r o=>r = .v (.bool (decide (dk w))) /\ o = []):=by
 refine aw.of Try.func90 U U U (n:=9) ab (aH U) (.sr (.an (.nil (.sr ?_))))
 refine .mv ?_
 refine .vl (Y.qp U U) (.mv ?_)
 refine .a8 (d:=5) U (fun c5=>?_) (fun c5=>?_)
 refine .gw 5 (Y.zf U U) (.gw 5 (Y.qy U U) (.pk ?_))
 refine .an (.nil (.ret ?_))
 exact .rb rfl (dd (by (simp only [dk]) <;> (first | omega | grind)))
 refine .gz 5 (.gz 5 (.pk ?_))
 refine .an (.nil (.ret ?_))
 exact .rb rfl (df (by (simp only [dk]) <;> (first | omega | grind)))
theorem qI{s:ByteArray}(hs:s.size <= 140737488351232):aw Try.prog 154 [.v (.string s)] [] [] (fun r o=>r = .v (.bool (decide (lH s))) /\ o = []):=by
 refine aw.of Try.func154 U U U (n:=44) ab (aH U) (.sr (.an ?_))
 refine .nil (.seq (.sr (.mv ?_)))
 refine .vl (Y.qx Ku U) (.mv ?_)
 refine .nil (.block (.gS (fun (cp:Nat)=>⟨[(0,.v (.string s)),(6,vi s.size),(7,vi cp)],[]⟩) (fun cp=>((cp:Int) <= (s.size:Int)) /\ (∀ j,j < cp -> eI (aL s j))) (fun cp=>((s.size:Int) - (cp:Int)).toNat) 0 (⟨om,by intro j h; omega⟩) (Le.mk (.c2 (.cons (ak U aY) .nil)) .nil) (fun cp x9=>?_)))
 obtain ⟨Cv,hb⟩:=x9
 refine .sr (.vl (Y.zb U U) (.nil (.seq (.aB U (fun c8=>?_) (fun c8=>?_)))))
 refine .skip ?_
 refine .oD (⟨[(0,.v (.string s)),(6,vi s.size),(7,vi cp)],[]⟩) (((97 <= ((aL s cp:Nat):Int)) /\ (((aL s cp:Nat):Int) <= 122)) \/ ((97 <= ((aL s cp:Nat):Int)) /\ (¬ (((aL s cp:Nat):Int) <= 122)) /\ (65 <= ((aL s cp:Nat):Int)) /\ (((aL s cp:Nat):Int) <= 90)) \/ ((97 <= ((aL s cp:Nat):Int)) /\ (¬ (((aL s cp:Nat):Int) <= 122)) /\ (65 <= ((aL s cp:Nat):Int)) /\ (¬ (((aL s cp:Nat):Int) <= 90)) /\ (48 <= ((aL s cp:Nat):Int)) /\ (((aL s cp:Nat):Int) <= 57)) \/ ((97 <= ((aL s cp:Nat):Int)) /\ (¬ (((aL s cp:Nat):Int) <= 122)) /\ (65 <= ((aL s cp:Nat):Int)) /\ (¬ (((aL s cp:Nat):Int) <= 90)) /\ (48 <= ((aL s cp:Nat):Int)) /\ (¬ (((aL s cp:Nat):Int) <= 57)) /\ (((aL s cp:Nat):Int) = 95)) \/ ((97 <= ((aL s cp:Nat):Int)) /\ (¬ (((aL s cp:Nat):Int) <= 122)) /\ (65 <= ((aL s cp:Nat):Int)) /\ (¬ (((aL s cp:Nat):Int) <= 90)) /\ (¬ (48 <= ((aL s cp:Nat):Int))) /\ (((aL s cp:Nat):Int) = 95)) \/ ((97 <= ((aL s cp:Nat):Int)) /\ (¬ (((aL s cp:Nat):Int) <= 122)) /\ (¬ (65 <= ((aL s cp:Nat):Int))) /\ (48 <= ((aL s cp:Nat):Int)) /\ (((aL s cp:Nat):Int) <= 57)) \/ ((97 <= ((aL s cp:Nat):Int)) /\ (¬ (((aL s cp:Nat):Int) <= 122)) /\ (¬ (65 <= ((aL s cp:Nat):Int))) /\ (48 <= ((aL s cp:Nat):Int)) /\ (¬ (((aL s cp:Nat):Int) <= 57)) /\ (((aL s cp:Nat):Int) = 95)) \/ ((97 <= ((aL s cp:Nat):Int)) /\ (¬ (((aL s cp:Nat):Int) <= 122)) /\ (¬ (65 <= ((aL s cp:Nat):Int))) /\ (¬ (48 <= ((aL s cp:Nat):Int))) /\ (((aL s cp:Nat):Int) = 95)) \/ ((¬ (97 <= ((aL s cp:Nat):Int))) /\ (65 <= ((aL s cp:Nat):Int)) /\ (((aL s cp:Nat):Int) <= 90)) \/ ((¬ (97 <= ((aL s cp:Nat):Int))) /\ (65 <= ((aL s cp:Nat):Int)) /\ (¬ (((aL s cp:Nat):Int) <= 90)) /\ (48 <= ((aL s cp:Nat):Int)) /\ (((aL s cp:Nat):Int) <= 57)) \/ ((¬ (97 <= ((aL s cp:Nat):Int))) /\ (65 <= ((aL s cp:Nat):Int)) /\ (¬ (((aL s cp:Nat):Int) <= 90)) /\ (48 <= ((aL s cp:Nat):Int)) /\ (¬ (((aL s cp:Nat):Int) <= 57)) /\ (((aL s cp:Nat):Int) = 95)) \/ ((¬ (97 <= ((aL s cp:Nat):Int))) /\ (65 <= ((aL s cp:Nat):Int)) /\ (¬ (((aL s cp:Nat):Int) <= 90)) /\ (¬ (48 <= ((aL s cp:Nat):Int))) /\ (((aL s cp:Nat):Int) = 95)) \/ ((¬ (97 <= ((aL s cp:Nat):Int))) /\ (¬ (65 <= ((aL s cp:Nat):Int))) /\ (48 <= ((aL s cp:Nat):Int)) /\ (((aL s cp:Nat):Int) <= 57)) \/ ((¬ (97 <= ((aL s cp:Nat):Int))) /\ (¬ (65 <= ((aL s cp:Nat):Int))) /\ (48 <= ((aL s cp:Nat):Int)) /\ (¬ (((aL s cp:Nat):Int) <= 57)) /\ (((aL s cp:Nat):Int) = 95)) \/ ((¬ (97 <= ((aL s cp:Nat):Int))) /\ (¬ (65 <= ((aL s cp:Nat):Int))) /\ (¬ (48 <= ((aL s cp:Nat):Int))) /\ (((aL s cp:Nat):Int) = 95))) ?_ (fun V4=>?_)
 refine .block (.sr (.mv ?_))
 refine .an (.nil (.sr ?_))
 refine .mv ?_
 refine .mv ?_
 refine .vl (Y.qv (m:=cp) Ku U U aY om) (.an (.nil (.sr ?_)))
 refine .mv ?_
 refine .vl (Y.qp U U) (.mv ?_)
 refine .a8 (d:=15) U (fun tD=>?_) (fun tD=>?_)
 refine .gw 15 (Y.zf U U) (.gw 15 (Y.qy U U) (.pk ?_))
 refine .mv ?_
 refine .a8 (d:=19) U (fun r7=>?_) (fun r7=>?_)
 refine .gz 19 (.gz 19 (.gz 19 (.gz 22 (.gz 22 (.gz 19 (.pk ?_))))))
 refine .mv ?_
 refine .gz 27 (.gz 27 (.gz 27 (.gz 30 (.gz 30 (.gz 27 (.pk ?_))))))
 refine .mv ?_
 refine .gz 35 (.gz 35 (.pk ?_))
 refine .vl (Y.zl U) (.nil (.cu U ?_))
 refine .skip (⟨.inl ⟨tD,r7⟩,Le.mk (.c2 (.c .nil)) .nil⟩)
 refine .gw 19 (Y.zf U U) (.gw 19 (Y.qp U U) (.gw 19 (Y.zf U U) (.a8 (d:=22) U (fun pU=>?_) (fun pU=>?_))))
 refine .gw 22 (Y.zf U U) (.gw 22 (Y.qy U U) (.gw 19 (Y.zm U U U) (.pk ?_)))
 refine .mv ?_
 refine .a8 (d:=27) U (fun yS=>?_) (fun yS=>?_)
 refine .gz 27 (.gz 27 (.gz 27 (.gz 30 (.gz 30 (.gz 27 (.pk ?_))))))
 refine .mv ?_
 refine .gz 35 (.gz 35 (.pk ?_))
 refine .vl (Y.zl U) (.nil (.cu U ?_))
 refine .skip (⟨.inr (.inl ⟨tD,r7,pU,yS⟩),Le.mk (.c2 (.c .nil)) .nil⟩)
 refine .gw 27 (Y.zf U U) (.gw 27 (Y.qp U U) (.gw 27 (Y.zf U U) (.a8 (d:=30) U (fun qW=>?_) (fun qW=>?_))))
 refine .gw 30 (Y.zf U U) (.gw 30 (Y.qy U U) (.gw 27 (Y.zm U U U) (.pk ?_)))
 refine .mv ?_
 refine .a8 (d:=35) U (fun uz=>?_) (fun uz=>?_)
 refine .gz 35 (.gz 35 (.pk ?_))
 refine .vl (Y.zl U) (.nil (.cu U ?_))
 refine .skip (⟨.inr (.inr (.inl ⟨tD,r7,pU,yS,qW,uz⟩)),Le.mk (.c2 (.c .nil)) .nil⟩)
 refine .gw 35 (Y.zf U U) (.gw 35 (Y.ql U U) (.pk ?_))
 refine .vl (Y.zl U) (.nil (.dX U (fun sv=>?_) (fun sv=>?_)))
 refine .sr (.an (.nil (.ret ?_)))
 exact .rb rfl (df (fun h=>by have h1:=h.1 cp om; unfold eI at h1; omega))
 refine .skip (⟨.inr (.inr (.inr (.inl ⟨tD,r7,pU,yS,qW,uz,sv⟩))),Le.mk (.c2 (.c .nil)) .nil⟩)
 refine .gz 30 (.gz 30 (.gw 27 (Y.zm U U U) (.pk ?_)))
 refine .mv ?_
 refine .gw 35 (Y.zf U U) (.gw 35 (Y.ql U U) (.pk ?_))
 refine .vl (Y.zl U) (.nil (.dX U (fun sv=>?_) (fun sv=>?_)))
 refine .sr (.an (.nil (.ret ?_)))
 exact .rb rfl (df (fun h=>by have h1:=h.1 cp om; unfold eI at h1; omega))
 refine .skip (⟨.inr (.inr (.inr (.inr (.inl ⟨tD,r7,pU,yS,qW,sv⟩)))),Le.mk (.c2 (.c .nil)) .nil⟩)
 refine .gz 22 (.gz 22 (.gw 19 (Y.zm U U U) (.pk ?_)))
 refine .mv ?_
 refine .gw 27 (Y.zf U U) (.gw 27 (Y.qp U U) (.gw 27 (Y.zf U U) (.a8 (d:=30) U (fun qW=>?_) (fun qW=>?_))))
 refine .gw 30 (Y.zf U U) (.gw 30 (Y.qy U U) (.gw 27 (Y.zm U U U) (.pk ?_)))
 refine .mv ?_
 refine .a8 (d:=35) U (fun uz=>?_) (fun uz=>?_)
 refine .gz 35 (.gz 35 (.pk ?_))
 refine .vl (Y.zl U) (.nil (.cu U ?_))
 refine .skip (⟨.inr (.inr (.inr (.inr (.inr (.inl ⟨tD,r7,pU,qW,uz⟩))))),Le.mk (.c2 (.c .nil)) .nil⟩)
 refine .gw 35 (Y.zf U U) (.gw 35 (Y.ql U U) (.pk ?_))
 refine .vl (Y.zl U) (.nil (.dX U (fun sv=>?_) (fun sv=>?_)))
 refine .sr (.an (.nil (.ret ?_)))
 exact .rb rfl (df (fun h=>by have h1:=h.1 cp om; unfold eI at h1; omega))
 refine .skip (⟨.inr (.inr (.inr (.inr (.inr (.inr (.inl ⟨tD,r7,pU,qW,uz,sv⟩)))))),Le.mk (.c2 (.c .nil)) .nil⟩)
 refine .gz 30 (.gz 30 (.gw 27 (Y.zm U U U) (.pk ?_)))
 refine .mv ?_
 refine .gw 35 (Y.zf U U) (.gw 35 (Y.ql U U) (.pk ?_))
 refine .vl (Y.zl U) (.nil (.dX U (fun sv=>?_) (fun sv=>?_)))
 refine .sr (.an (.nil (.ret ?_)))
 exact .rb rfl (df (fun h=>by have h1:=h.1 cp om; unfold eI at h1; omega))
 refine .skip (⟨.inr (.inr (.inr (.inr (.inr (.inr (.inr (.inl ⟨tD,r7,pU,qW,sv⟩))))))),Le.mk (.c2 (.c .nil)) .nil⟩)
 refine .gz 15 (.gz 15 (.pk ?_))
 refine .mv ?_
 refine .gw 19 (Y.zf U U) (.gw 19 (Y.qp U U) (.gw 19 (Y.zf U U) (.a8 (d:=22) U (fun pU=>?_) (fun pU=>?_))))
 refine .gw 22 (Y.zf U U) (.gw 22 (Y.qy U U) (.gw 19 (Y.zm U U U) (.pk ?_)))
 refine .mv ?_
 refine .a8 (d:=27) U (fun yS=>?_) (fun yS=>?_)
 refine .gz 27 (.gz 27 (.gz 27 (.gz 30 (.gz 30 (.gz 27 (.pk ?_))))))
 refine .mv ?_
 refine .gz 35 (.gz 35 (.pk ?_))
 refine .vl (Y.zl U) (.nil (.cu U ?_))
 refine .skip (⟨.inr (.inr (.inr (.inr (.inr (.inr (.inr (.inr (.inl ⟨tD,pU,yS⟩)))))))),Le.mk (.c2 (.c .nil)) .nil⟩)
 refine .gw 27 (Y.zf U U) (.gw 27 (Y.qp U U) (.gw 27 (Y.zf U U) (.a8 (d:=30) U (fun qW=>?_) (fun qW=>?_))))
 refine .gw 30 (Y.zf U U) (.gw 30 (Y.qy U U) (.gw 27 (Y.zm U U U) (.pk ?_)))
 refine .mv ?_
 refine .a8 (d:=35) U (fun uz=>?_) (fun uz=>?_)
 refine .gz 35 (.gz 35 (.pk ?_))
 refine .vl (Y.zl U) (.nil (.cu U ?_))
 refine .skip (⟨.inr (.inr (.inr (.inr (.inr (.inr (.inr (.inr (.inr (.inl ⟨tD,pU,yS,qW,uz⟩))))))))),Le.mk (.c2 (.c .nil)) .nil⟩)
 refine .gw 35 (Y.zf U U) (.gw 35 (Y.ql U U) (.pk ?_))
 refine .vl (Y.zl U) (.nil (.dX U (fun sv=>?_) (fun sv=>?_)))
 refine .sr (.an (.nil (.ret ?_)))
 exact .rb rfl (df (fun h=>by have h1:=h.1 cp om; unfold eI at h1; omega))
 refine .skip (⟨.inr (.inr (.inr (.inr (.inr (.inr (.inr (.inr (.inr (.inr (.inl ⟨tD,pU,yS,qW,uz,sv⟩)))))))))),Le.mk (.c2 (.c .nil)) .nil⟩)
 refine .gz 30 (.gz 30 (.gw 27 (Y.zm U U U) (.pk ?_)))
 refine .mv ?_
 refine .gw 35 (Y.zf U U) (.gw 35 (Y.ql U U) (.pk ?_))
 refine .vl (Y.zl U) (.nil (.dX U (fun sv=>?_) (fun sv=>?_)))
 refine .sr (.an (.nil (.ret ?_)))
 exact .rb rfl (df (fun h=>by have h1:=h.1 cp om; unfold eI at h1; omega))
 refine .skip (⟨.inr (.inr (.inr (.inr (.inr (.inr (.inr (.inr (.inr (.inr (.inr (.inl ⟨tD,pU,yS,qW,sv⟩))))))))))),Le.mk (.c2 (.c .nil)) .nil⟩)
 refine .gz 22 (.gz 22 (.gw 19 (Y.zm U U U) (.pk ?_)))
 refine .mv ?_
 refine .gw 27 (Y.zf U U) (.gw 27 (Y.qp U U) (.gw 27 (Y.zf U U) (.a8 (d:=30) U (fun qW=>?_) (fun qW=>?_))))
 refine .gw 30 (Y.zf U U) (.gw 30 (Y.qy U U) (.gw 27 (Y.zm U U U) (.pk ?_)))
 refine .mv ?_
 refine .a8 (d:=35) U (fun uz=>?_) (fun uz=>?_)
 refine .gz 35 (.gz 35 (.pk ?_))
 refine .vl (Y.zl U) (.nil (.cu U ?_))
 refine .skip (⟨.inr (.inr (.inr (.inr (.inr (.inr (.inr (.inr (.inr (.inr (.inr (.inr (.inl ⟨tD,pU,qW,uz⟩)))))))))))),Le.mk (.c2 (.c .nil)) .nil⟩)
 refine .gw 35 (Y.zf U U) (.gw 35 (Y.ql U U) (.pk ?_))
 refine .vl (Y.zl U) (.nil (.dX U (fun sv=>?_) (fun sv=>?_)))
 refine .sr (.an (.nil (.ret ?_)))
 exact .rb rfl (df (fun h=>by have h1:=h.1 cp om; unfold eI at h1; omega))
 refine .skip (⟨.inr (.inr (.inr (.inr (.inr (.inr (.inr (.inr (.inr (.inr (.inr (.inr (.inr (.inl ⟨tD,pU,qW,uz,sv⟩))))))))))))),Le.mk (.c2 (.c .nil)) .nil⟩)
 refine .gz 30 (.gz 30 (.gw 27 (Y.zm U U U) (.pk ?_)))
 refine .mv ?_
 refine .gw 35 (Y.zf U U) (.gw 35 (Y.ql U U) (.pk ?_))
 refine .vl (Y.zl U) (.nil (.dX U (fun sv=>?_) (fun sv=>?_)))
 refine .sr (.an (.nil (.ret ?_)))
 exact .rb rfl (df (fun h=>by have h1:=h.1 cp om; unfold eI at h1; omega))
 refine .skip (⟨.inr (.inr (.inr (.inr (.inr (.inr (.inr (.inr (.inr (.inr (.inr (.inr (.inr (.inr (⟨tD,pU,qW,sv⟩)))))))))))))),Le.mk (.c2 (.c .nil)) .nil⟩)
 refine .region (.vl (Y.qb U U aJ) (.mv ?_))
 refine .nil (⟨cp + 1,⟨om,tZ hb (by unfold eI; omega)⟩,om,Le.mk (.c2 (.cons (ak U aY) .nil)) .nil⟩)
 refine .exit (.sr (.mv ?_))
 refine .vl (Y.qx Ku U) (.vl (Y.qy U U) (.an (.nil (.ret ?_))))
 exact .rb rfl (dd ⟨fun h=>⟨fun j hj=>hb j om,om⟩,fun h=>by have:=h.2; omega⟩)
theorem mD{s:ByteArray}(hs:s.size <= 140737488351232):aw Try.prog 165 [.v (.string s)] [] [] (fun r o=>r = .v (.bool (decide (lH s))) /\ o = []):=by
 refine aw.of Try.func165 U U U (n:=44) ab (aH U) (.sr (.an ?_))
 refine .nil (.seq (.sr (.an (.nil (.block ?_)))))
 refine .gS (fun (bF:Nat)=>⟨[(0,.v (.string s)),(3,vi bF)],[]⟩) (fun bF=>((bF:Int) <= (s.size:Int)) /\ (∀ j,j < bF -> eI (aL s j))) (fun bF=>((s.size:Int) - (bF:Int)).toNat) 0 (⟨om,by intro j h; omega⟩) (Le.mk (.c (.cons (ak U aY) .nil)) .nil) (fun bF x9=>?_)
 obtain ⟨Cv,hb⟩:=x9
 refine .seq (.sr (.mv ?_))
 refine .mv ?_
 refine .vl (Y.qx Ku U) (.vl (Y.zb U U) (.nil (.aB U (fun c8=>?_) (fun c8=>?_))))
 refine .skip ?_
 refine .oD (⟨[(0,.v (.string s)),(3,vi bF)],[]⟩) (((97 <= ((aL s bF:Nat):Int)) /\ (((aL s bF:Nat):Int) <= 122)) \/ ((97 <= ((aL s bF:Nat):Int)) /\ (¬ (((aL s bF:Nat):Int) <= 122)) /\ (65 <= ((aL s bF:Nat):Int)) /\ (((aL s bF:Nat):Int) <= 90)) \/ ((97 <= ((aL s bF:Nat):Int)) /\ (¬ (((aL s bF:Nat):Int) <= 122)) /\ (65 <= ((aL s bF:Nat):Int)) /\ (¬ (((aL s bF:Nat):Int) <= 90)) /\ (48 <= ((aL s bF:Nat):Int)) /\ (((aL s bF:Nat):Int) <= 57)) \/ ((97 <= ((aL s bF:Nat):Int)) /\ (¬ (((aL s bF:Nat):Int) <= 122)) /\ (65 <= ((aL s bF:Nat):Int)) /\ (¬ (((aL s bF:Nat):Int) <= 90)) /\ (48 <= ((aL s bF:Nat):Int)) /\ (¬ (((aL s bF:Nat):Int) <= 57)) /\ (((aL s bF:Nat):Int) = 95)) \/ ((97 <= ((aL s bF:Nat):Int)) /\ (¬ (((aL s bF:Nat):Int) <= 122)) /\ (65 <= ((aL s bF:Nat):Int)) /\ (¬ (((aL s bF:Nat):Int) <= 90)) /\ (¬ (48 <= ((aL s bF:Nat):Int))) /\ (((aL s bF:Nat):Int) = 95)) \/ ((97 <= ((aL s bF:Nat):Int)) /\ (¬ (((aL s bF:Nat):Int) <= 122)) /\ (¬ (65 <= ((aL s bF:Nat):Int))) /\ (48 <= ((aL s bF:Nat):Int)) /\ (((aL s bF:Nat):Int) <= 57)) \/ ((97 <= ((aL s bF:Nat):Int)) /\ (¬ (((aL s bF:Nat):Int) <= 122)) /\ (¬ (65 <= ((aL s bF:Nat):Int))) /\ (48 <= ((aL s bF:Nat):Int)) /\ (¬ (((aL s bF:Nat):Int) <= 57)) /\ (((aL s bF:Nat):Int) = 95)) \/ ((97 <= ((aL s bF:Nat):Int)) /\ (¬ (((aL s bF:Nat):Int) <= 122)) /\ (¬ (65 <= ((aL s bF:Nat):Int))) /\ (¬ (48 <= ((aL s bF:Nat):Int))) /\ (((aL s bF:Nat):Int) = 95)) \/ ((¬ (97 <= ((aL s bF:Nat):Int))) /\ (65 <= ((aL s bF:Nat):Int)) /\ (((aL s bF:Nat):Int) <= 90)) \/ ((¬ (97 <= ((aL s bF:Nat):Int))) /\ (65 <= ((aL s bF:Nat):Int)) /\ (¬ (((aL s bF:Nat):Int) <= 90)) /\ (48 <= ((aL s bF:Nat):Int)) /\ (((aL s bF:Nat):Int) <= 57)) \/ ((¬ (97 <= ((aL s bF:Nat):Int))) /\ (65 <= ((aL s bF:Nat):Int)) /\ (¬ (((aL s bF:Nat):Int) <= 90)) /\ (48 <= ((aL s bF:Nat):Int)) /\ (¬ (((aL s bF:Nat):Int) <= 57)) /\ (((aL s bF:Nat):Int) = 95)) \/ ((¬ (97 <= ((aL s bF:Nat):Int))) /\ (65 <= ((aL s bF:Nat):Int)) /\ (¬ (((aL s bF:Nat):Int) <= 90)) /\ (¬ (48 <= ((aL s bF:Nat):Int))) /\ (((aL s bF:Nat):Int) = 95)) \/ ((¬ (97 <= ((aL s bF:Nat):Int))) /\ (¬ (65 <= ((aL s bF:Nat):Int))) /\ (48 <= ((aL s bF:Nat):Int)) /\ (((aL s bF:Nat):Int) <= 57)) \/ ((¬ (97 <= ((aL s bF:Nat):Int))) /\ (¬ (65 <= ((aL s bF:Nat):Int))) /\ (48 <= ((aL s bF:Nat):Int)) /\ (¬ (((aL s bF:Nat):Int) <= 57)) /\ (((aL s bF:Nat):Int) = 95)) \/ ((¬ (97 <= ((aL s bF:Nat):Int))) /\ (¬ (65 <= ((aL s bF:Nat):Int))) /\ (¬ (48 <= ((aL s bF:Nat):Int))) /\ (((aL s bF:Nat):Int) = 95))) ?_ (fun Zt=>?_)
 refine .block (.sr (.mv ?_))
 refine .mv ?_
 refine .vl (Y.qv (m:=bF) Ku U U aY om) (.an (.nil (.sr ?_)))
 refine .mv ?_
 refine .vl (Y.qp U U) (.mv ?_)
 refine .a8 (d:=16) U (fun px=>?_) (fun px=>?_)
 refine .gw 16 (Y.zf U U) (.gw 16 (Y.qy U U) (.pk ?_))
 refine .mv ?_
 refine .a8 (d:=20) U (fun CJ=>?_) (fun CJ=>?_)
 refine .gz 20 (.gz 20 (.gz 20 (.gz 23 (.gz 23 (.gz 20 (.pk ?_))))))
 refine .mv ?_
 refine .gz 28 (.gz 28 (.gz 28 (.gz 31 (.gz 31 (.gz 28 (.pk ?_))))))
 refine .mv ?_
 refine .gz 36 (.gz 36 (.pk ?_))
 refine .vl (Y.zl U) (.nil (.cu U ?_))
 refine .skip (⟨.inl ⟨px,CJ⟩,Le.mk (.c (.c .nil)) .nil⟩)
 refine .gw 20 (Y.zf U U) (.gw 20 (Y.qp U U) (.gw 20 (Y.zf U U) (.a8 (d:=23) U (fun oK=>?_) (fun oK=>?_))))
 refine .gw 23 (Y.zf U U) (.gw 23 (Y.qy U U) (.gw 20 (Y.zm U U U) (.pk ?_)))
 refine .mv ?_
 refine .a8 (d:=28) U (fun xW=>?_) (fun xW=>?_)
 refine .gz 28 (.gz 28 (.gz 28 (.gz 31 (.gz 31 (.gz 28 (.pk ?_))))))
 refine .mv ?_
 refine .gz 36 (.gz 36 (.pk ?_))
 refine .vl (Y.zl U) (.nil (.cu U ?_))
 refine .skip (⟨.inr (.inl ⟨px,CJ,oK,xW⟩),Le.mk (.c (.c .nil)) .nil⟩)
 refine .gw 28 (Y.zf U U) (.gw 28 (Y.qp U U) (.gw 28 (Y.zf U U) (.a8 (d:=31) U (fun tE=>?_) (fun tE=>?_))))
 refine .gw 31 (Y.zf U U) (.gw 31 (Y.qy U U) (.gw 28 (Y.zm U U U) (.pk ?_)))
 refine .mv ?_
 refine .a8 (d:=36) U (fun vm=>?_) (fun vm=>?_)
 refine .gz 36 (.gz 36 (.pk ?_))
 refine .vl (Y.zl U) (.nil (.cu U ?_))
 refine .skip (⟨.inr (.inr (.inl ⟨px,CJ,oK,xW,tE,vm⟩)),Le.mk (.c (.c .nil)) .nil⟩)
 refine .gw 36 (Y.zf U U) (.gw 36 (Y.ql U U) (.pk ?_))
 refine .vl (Y.zl U) (.nil (.dX U (fun r8=>?_) (fun r8=>?_)))
 refine .sr (.an (.nil (.ret ?_)))
 exact .rb rfl (df (fun h=>by have h1:=h.1 bF om; unfold eI at h1; omega))
 refine .skip (⟨.inr (.inr (.inr (.inl ⟨px,CJ,oK,xW,tE,vm,r8⟩))),Le.mk (.c (.c .nil)) .nil⟩)
 refine .gz 31 (.gz 31 (.gw 28 (Y.zm U U U) (.pk ?_)))
 refine .mv ?_
 refine .gw 36 (Y.zf U U) (.gw 36 (Y.ql U U) (.pk ?_))
 refine .vl (Y.zl U) (.nil (.dX U (fun r8=>?_) (fun r8=>?_)))
 refine .sr (.an (.nil (.ret ?_)))
 exact .rb rfl (df (fun h=>by have h1:=h.1 bF om; unfold eI at h1; omega))
 refine .skip (⟨.inr (.inr (.inr (.inr (.inl ⟨px,CJ,oK,xW,tE,r8⟩)))),Le.mk (.c (.c .nil)) .nil⟩)
 refine .gz 23 (.gz 23 (.gw 20 (Y.zm U U U) (.pk ?_)))
 refine .mv ?_
 refine .gw 28 (Y.zf U U) (.gw 28 (Y.qp U U) (.gw 28 (Y.zf U U) (.a8 (d:=31) U (fun tE=>?_) (fun tE=>?_))))
 refine .gw 31 (Y.zf U U) (.gw 31 (Y.qy U U) (.gw 28 (Y.zm U U U) (.pk ?_)))
 refine .mv ?_
 refine .a8 (d:=36) U (fun vm=>?_) (fun vm=>?_)
 refine .gz 36 (.gz 36 (.pk ?_))
 refine .vl (Y.zl U) (.nil (.cu U ?_))
 refine .skip (⟨.inr (.inr (.inr (.inr (.inr (.inl ⟨px,CJ,oK,tE,vm⟩))))),Le.mk (.c (.c .nil)) .nil⟩)
 refine .gw 36 (Y.zf U U) (.gw 36 (Y.ql U U) (.pk ?_))
 refine .vl (Y.zl U) (.nil (.dX U (fun r8=>?_) (fun r8=>?_)))
 refine .sr (.an (.nil (.ret ?_)))
 exact .rb rfl (df (fun h=>by have h1:=h.1 bF om; unfold eI at h1; omega))
 refine .skip (⟨.inr (.inr (.inr (.inr (.inr (.inr (.inl ⟨px,CJ,oK,tE,vm,r8⟩)))))),Le.mk (.c (.c .nil)) .nil⟩)
 refine .gz 31 (.gz 31 (.gw 28 (Y.zm U U U) (.pk ?_)))
 refine .mv ?_
 refine .gw 36 (Y.zf U U) (.gw 36 (Y.ql U U) (.pk ?_))
 refine .vl (Y.zl U) (.nil (.dX U (fun r8=>?_) (fun r8=>?_)))
 refine .sr (.an (.nil (.ret ?_)))
 exact .rb rfl (df (fun h=>by have h1:=h.1 bF om; unfold eI at h1; omega))
 refine .skip (⟨.inr (.inr (.inr (.inr (.inr (.inr (.inr (.inl ⟨px,CJ,oK,tE,r8⟩))))))),Le.mk (.c (.c .nil)) .nil⟩)
 refine .gz 16 (.gz 16 (.pk ?_))
 refine .mv ?_
 refine .gw 20 (Y.zf U U) (.gw 20 (Y.qp U U) (.gw 20 (Y.zf U U) (.a8 (d:=23) U (fun oK=>?_) (fun oK=>?_))))
 refine .gw 23 (Y.zf U U) (.gw 23 (Y.qy U U) (.gw 20 (Y.zm U U U) (.pk ?_)))
 refine .mv ?_
 refine .a8 (d:=28) U (fun xW=>?_) (fun xW=>?_)
 refine .gz 28 (.gz 28 (.gz 28 (.gz 31 (.gz 31 (.gz 28 (.pk ?_))))))
 refine .mv ?_
 refine .gz 36 (.gz 36 (.pk ?_))
 refine .vl (Y.zl U) (.nil (.cu U ?_))
 refine .skip (⟨.inr (.inr (.inr (.inr (.inr (.inr (.inr (.inr (.inl ⟨px,oK,xW⟩)))))))),Le.mk (.c (.c .nil)) .nil⟩)
 refine .gw 28 (Y.zf U U) (.gw 28 (Y.qp U U) (.gw 28 (Y.zf U U) (.a8 (d:=31) U (fun tE=>?_) (fun tE=>?_))))
 refine .gw 31 (Y.zf U U) (.gw 31 (Y.qy U U) (.gw 28 (Y.zm U U U) (.pk ?_)))
 refine .mv ?_
 refine .a8 (d:=36) U (fun vm=>?_) (fun vm=>?_)
 refine .gz 36 (.gz 36 (.pk ?_))
 refine .vl (Y.zl U) (.nil (.cu U ?_))
 refine .skip (⟨.inr (.inr (.inr (.inr (.inr (.inr (.inr (.inr (.inr (.inl ⟨px,oK,xW,tE,vm⟩))))))))),Le.mk (.c (.c .nil)) .nil⟩)
 refine .gw 36 (Y.zf U U) (.gw 36 (Y.ql U U) (.pk ?_))
 refine .vl (Y.zl U) (.nil (.dX U (fun r8=>?_) (fun r8=>?_)))
 refine .sr (.an (.nil (.ret ?_)))
 exact .rb rfl (df (fun h=>by have h1:=h.1 bF om; unfold eI at h1; omega))
 refine .skip (⟨.inr (.inr (.inr (.inr (.inr (.inr (.inr (.inr (.inr (.inr (.inl ⟨px,oK,xW,tE,vm,r8⟩)))))))))),Le.mk (.c (.c .nil)) .nil⟩)
 refine .gz 31 (.gz 31 (.gw 28 (Y.zm U U U) (.pk ?_)))
 refine .mv ?_
 refine .gw 36 (Y.zf U U) (.gw 36 (Y.ql U U) (.pk ?_))
 refine .vl (Y.zl U) (.nil (.dX U (fun r8=>?_) (fun r8=>?_)))
 refine .sr (.an (.nil (.ret ?_)))
 exact .rb rfl (df (fun h=>by have h1:=h.1 bF om; unfold eI at h1; omega))
 refine .skip (⟨.inr (.inr (.inr (.inr (.inr (.inr (.inr (.inr (.inr (.inr (.inr (.inl ⟨px,oK,xW,tE,r8⟩))))))))))),Le.mk (.c (.c .nil)) .nil⟩)
 refine .gz 23 (.gz 23 (.gw 20 (Y.zm U U U) (.pk ?_)))
 refine .mv ?_
 refine .gw 28 (Y.zf U U) (.gw 28 (Y.qp U U) (.gw 28 (Y.zf U U) (.a8 (d:=31) U (fun tE=>?_) (fun tE=>?_))))
 refine .gw 31 (Y.zf U U) (.gw 31 (Y.qy U U) (.gw 28 (Y.zm U U U) (.pk ?_)))
 refine .mv ?_
 refine .a8 (d:=36) U (fun vm=>?_) (fun vm=>?_)
 refine .gz 36 (.gz 36 (.pk ?_))
 refine .vl (Y.zl U) (.nil (.cu U ?_))
 refine .skip (⟨.inr (.inr (.inr (.inr (.inr (.inr (.inr (.inr (.inr (.inr (.inr (.inr (.inl ⟨px,oK,tE,vm⟩)))))))))))),Le.mk (.c (.c .nil)) .nil⟩)
 refine .gw 36 (Y.zf U U) (.gw 36 (Y.ql U U) (.pk ?_))
 refine .vl (Y.zl U) (.nil (.dX U (fun r8=>?_) (fun r8=>?_)))
 refine .sr (.an (.nil (.ret ?_)))
 exact .rb rfl (df (fun h=>by have h1:=h.1 bF om; unfold eI at h1; omega))
 refine .skip (⟨.inr (.inr (.inr (.inr (.inr (.inr (.inr (.inr (.inr (.inr (.inr (.inr (.inr (.inl ⟨px,oK,tE,vm,r8⟩))))))))))))),Le.mk (.c (.c .nil)) .nil⟩)
 refine .gz 31 (.gz 31 (.gw 28 (Y.zm U U U) (.pk ?_)))
 refine .mv ?_
 refine .gw 36 (Y.zf U U) (.gw 36 (Y.ql U U) (.pk ?_))
 refine .vl (Y.zl U) (.nil (.dX U (fun r8=>?_) (fun r8=>?_)))
 refine .sr (.an (.nil (.ret ?_)))
 exact .rb rfl (df (fun h=>by have h1:=h.1 bF om; unfold eI at h1; omega))
 refine .skip (⟨.inr (.inr (.inr (.inr (.inr (.inr (.inr (.inr (.inr (.inr (.inr (.inr (.inr (.inr (⟨px,oK,tE,r8⟩)))))))))))))),Le.mk (.c (.c .nil)) .nil⟩)
 refine .region (.mv ?_)
 refine .vl (Y.qb U U aJ) (.an ?_)
 refine .nil (⟨bF + 1,⟨om,tZ hb (by unfold eI; omega)⟩,om,Le.mk (.c (.cons (ak U aY) .nil)) .nil⟩)
 refine .exit (.sr (.mv ?_))
 refine .vl (Y.qx Ku U) (.vl (Y.qy U U) (.an (.nil (.ret ?_))))
 exact .rb rfl (dd ⟨fun h=>⟨fun j hj=>hb j om,om⟩,fun h=>by have:=h.2; omega⟩)
theorem mE{op:Int}:aw Try.prog 186 [vi op] [] [] (fun r o=>r = (vi (cy op)) /\ o = []):=by
 refine aw.of Try.func186 U U U (n:=25) ab (aH U) (.sr (.an ?_))
 refine .nil (.seq (.sr (.mv ?_)))
 refine .nil (.block (.seq (.sr (.vl (Y.ql U U) (.an (.nil ?_))))))
 refine .bt U (fun c4=>?_) (fun c4=>?_)
 refine .skip (.aQ U (.sr (.an (.nil (.ret ?_)))))
 exact .ri rfl (by simp only [cy]; omega)
 refine .sr (.vl (Y.ql U U) (.an (.nil ?_)))
 refine .bt U (fun c4=>?_) (fun c4=>?_)
 refine .skip (.aQ U (.sr (.an (.nil (.ret ?_)))))
 exact .ri rfl (by simp only [cy]; omega)
 refine .sr (.vl (Y.ql U U) (.an (.nil ?_)))
 refine .bt U (fun c4=>?_) (fun c4=>?_)
 refine .skip (.aQ U (.sr (.an (.nil (.ret ?_)))))
 exact .ri rfl (by simp only [cy]; omega)
 refine .sr (.vl (Y.ql U U) (.an (.nil ?_)))
 refine .bt U (fun c4=>?_) (fun c4=>?_)
 refine .skip (.aQ U (.sr (.an (.nil (.ret ?_)))))
 exact .ri rfl (by simp only [cy]; omega)
 refine .sr (.vl (Y.ql U U) (.an (.nil ?_)))
 refine .bt U (fun c4=>?_) (fun c4=>?_)
 refine .skip (.aQ U (.sr (.an (.nil (.ret ?_)))))
 exact .ri rfl (by simp only [cy]; omega)
 refine .sr (.vl (Y.ql U U) (.an (.nil ?_)))
 refine .bt U (fun c4=>?_) (fun c4=>?_)
 refine .skip (.aQ U (.sr (.an (.nil (.ret ?_)))))
 exact .ri rfl (by simp only [cy]; omega)
 refine .sr (.vl (Y.ql U U) (.an (.nil ?_)))
 refine .bt U (fun c4=>?_) (fun c4=>?_)
 refine .skip (.aQ U (.sr (.an (.nil (.ret ?_)))))
 exact .ri rfl (by simp only [cy]; omega)
 refine .sr (.vl (Y.ql U U) (.an (.nil ?_)))
 refine .bt U (fun c4=>?_) (fun c4=>?_)
 refine .skip (.aQ U (.sr (.an (.nil (.ret ?_)))))
 exact .ri rfl (by simp only [cy]; omega)
 refine .sr (.vl (Y.ql U U) (.an (.nil ?_)))
 refine .bt U (fun c4=>?_) (fun c4=>?_)
 refine .skip (.aQ U (.sr (.an (.nil (.ret ?_)))))
 exact .ri rfl (by simp only [cy]; omega)
 refine .sr (.vl (Y.ql U U) (.an (.nil ?_)))
 refine .bt U (fun c4=>?_) (fun c4=>?_)
 refine .skip (.aQ U (.sr (.an (.nil (.ret ?_)))))
 exact .ri rfl (by simp only [cy]; omega)
 refine .sr (.vl (Y.ql U U) (.an (.nil ?_)))
 refine .bt U (fun c4=>?_) (fun c4=>?_)
 refine .skip (.aQ U (.sr (.an (.nil (.ret ?_)))))
 exact .ri rfl (by simp only [cy]; omega)
 refine .sr (.vl (Y.ql U U) (.an (.nil ?_)))
 refine .bt U (fun c4=>?_) (fun c4=>?_)
 refine .skip (.aQ U (.sr (.an (.nil (.ret ?_)))))
 exact .ri rfl (by simp only [cy]; omega)
 refine .sr (.vl (Y.ql U U) (.an (.nil ?_)))
 refine .bt U (fun c4=>?_) (fun c4=>?_)
 refine .skip (.aQ U (.sr (.an (.nil (.ret ?_)))))
 exact .ri rfl (by simp only [cy]; omega)
 refine .region (.vl (Y.ql U U) (.an (.nil ?_)))
 refine .bt U (fun c4=>?_) (fun c4=>?_)
 refine .sr (.an (.nil (.ret ?_)))
 exact .ri rfl (by simp only [cy]; omega)
 refine .sr (.vl (Y.ql U U) (.an (.nil ?_)))
 refine .aB U (fun r7=>?_) (fun r7=>?_)
 refine .sr (.an (.nil (.ret ?_)))
 exact .ri rfl (by simp only [cy]; omega)
 refine .seq (.sr (.vl (Y.ql U U) (.an (.nil ?_))))
 refine .bt U (fun Af=>?_) (fun Af=>?_)
 refine .skip (.aQ U (.sr (.an (.nil (.ret ?_)))))
 exact .ri rfl (by simp only [cy]; omega)
 refine .sr (.vl (Y.ql U U) (.an (.nil ?_)))
 refine .bt U (fun Af=>?_) (fun Af=>?_)
 refine .skip (.aQ U (.sr (.an (.nil (.ret ?_)))))
 exact .ri rfl (by simp only [cy]; omega)
 refine .region (.vl (Y.ql U U) (.an (.nil ?_)))
 refine .bt U (fun Af=>?_) (fun Af=>?_)
 refine .sr (.an (.nil (.ret ?_)))
 exact .ri rfl (by simp only [cy]; omega)
 refine .skip (.sr (.an (.nil (.ret ?_))))
 exact .ri rfl (by simp only [cy]; omega)
open Go Go.AW Go.Proofs
theorem xX{w:Int}:aw Try.prog 190 [vi w] [] [] (fun r o=>r = (vi ((gh w:Nat):Int)) /\ o = []):=by
 refine aw.of Try.func190 U U U (n:=6) ab (aH U) (.sr (.an (.nil (.sr ?_))))
 refine .mv ?_
 refine .vl (Y.zd U U U) (.vl (Y.ze U U U) (.an (.nil (.ret ?_))))
 exact .ri rfl (by unfold gh; (repeat' split) <;> omega)
theorem sS{w:Int}:aw Try.prog 118 [vi w] [] [] (fun r o=>r = (vi ((gh w:Nat):Int)) /\ o = []):=by
 refine aw.of Try.func118 U U U (n:=6) ab (aH U) (.sr (.an (.nil (.sr ?_))))
 refine .mv ?_
 refine .vl (Y.zd U U U) (.vl (Y.ze U U U) (.an (.nil (.ret ?_))))
 exact .ri rfl (by unfold gh; (repeat' split) <;> omega)
theorem CK{w:Int}:aw Try.prog 167 [vi w] [] [] (fun r o=>r = .v (.int .u64 ((2 ^ gh w - 1:Nat):Int)) /\ o = []):=by
 refine aw.of Try.func167 U U U (n:=10) ab (aH U) ?_
 have hl:=ky w
 refine .sr (.an ?_)
 refine .nil (.seq (.sr (.mv ?_)))
 refine .aR Ou (xX (w:=w)) U (.ai U U .nil) ab U ?_
 refine .an (.nil (.sr ?_))
 refine .mv ?_
 refine .vl (Y.ql U U) (.nil (.aB U (fun c6=>?_) (fun c6=>?_)))
 refine .sr (.an (.nil (.ret ?_)))
 exact .ri rfl (by rw [show gh w = 0 by omega]; rfl)
 refine .skip (.sr (.mv ?_))
 refine .vl (Y.wa U U aJ) (.vl (Y.zv (a:=18446744073709551615) ((64 - ((gh w:Nat):Int)).toNat) U U om om) (.an (.nil (.ret ?_))))
 exact .ri rfl (by rw [show ((64:Int) - ((gh w:Nat):Int)).toNat = 64 - gh w by omega,Hp])
theorem ke{w:Int}{x:Nat}(hx:x < 18446744073709551616):aw Try.prog 117 [vi w,.v (.int .u64 (x:Int))] [] [] (fun r o=>r = .v (.int .u64 ((gA w x:Nat):Int)) /\ o = []):=by
 refine aw.of Try.func117 U U U (n:=9) ab (aH U) ?_
 have hm:=Hq w
 refine .sr (.an (.nil (.sr ?_)))
 refine .mv ?_
 refine .mv ?_
 refine .aR Oj (CK (w:=w)) U (.ai U U .nil) ab U (.vl (Y.qe (a:=x) (b:=(2 ^ gh w - 1)) U U om) (.an (.nil (.ret ?_))))
 exact .ri rfl (by rw [Es])
theorem u0{w:Int}:aw Try.prog 189 [vi w] [] [] (fun r o=>r = .v (.bool (decide (eY w))) /\ o = []):=by
 refine aw.of Try.func189 U U U (n:=9) ab (aH U) (.sr (.an (.nil (.sr ?_))))
 refine .mv ?_
 refine .vl (Y.qp U U) (.mv ?_)
 refine .a8 (d:=5) U (fun c5=>?_) (fun c5=>?_)
 refine .gw 5 (Y.zf U U) (.gw 5 (Y.qy U U) (.pk ?_))
 refine .an (.nil (.ret ?_))
 exact .rb rfl (dd (by (simp only [eY]) <;> (first | omega | grind)))
 refine .gz 5 (.gz 5 (.pk ?_))
 refine .an (.nil (.ret ?_))
 exact .rb rfl (df (by (simp only [eY]) <;> (first | omega | grind)))
theorem mo{w:Int}:aw Try.prog 42 [vi w] [] [] (fun r o=>r = .v (.bool (decide (eY w))) /\ o = []):=by
 refine aw.of Try.func42 U U U (n:=9) ab (aH U) (.sr (.an (.nil (.sr ?_))))
 refine .mv ?_
 refine .vl (Y.qp U U) (.mv ?_)
 refine .a8 (d:=5) U (fun c5=>?_) (fun c5=>?_)
 refine .gw 5 (Y.zf U U) (.gw 5 (Y.qy U U) (.pk ?_))
 refine .an (.nil (.ret ?_))
 exact .rb rfl (dd (by (simp only [eY]) <;> (first | omega | grind)))
 refine .gz 5 (.gz 5 (.pk ?_))
 refine .an (.nil (.ret ?_))
 exact .rb rfl (df (by (simp only [eY]) <;> (first | omega | grind)))
theorem vw{w:Int}:aw Try.prog 86 [vi w] [] [] (fun r o=>r = .v (.bool (decide (Eu w))) /\ o = []):=by
 refine aw.of Try.func86 U U U (n:=9) ab (aH U) (.sr (.an (.nil (.sr ?_))))
 refine .mv ?_
 refine .vl (Y.qp U U) (.mv ?_)
 refine .a8 (d:=5) U (fun c5=>?_) (fun c5=>?_)
 refine .gw 5 (Y.zf U U) (.gw 5 (Y.qy U U) (.pk ?_))
 refine .an (.nil (.ret ?_))
 exact .rb rfl (dd (by (simp only [Eu]) <;> (first | omega | grind)))
 refine .gz 5 (.gz 5 (.pk ?_))
 refine .an (.nil (.ret ?_))
 exact .rb rfl (df (by (simp only [Eu]) <;> (first | omega | grind)))
theorem g5{w:Int}:aw Try.prog 88 [vi w] [] [] (fun r o=>r = .v (.bool (decide (Unary w))) /\ o = []):=by
 refine aw.of Try.func88 U U U (n:=13) ab (aH U) (.sr (.an (.nil (.sr ?_))))
 refine .mv ?_
 refine .vl (Y.ql U U) (.mv ?_)
 refine .a8 (d:=5) U (fun c5=>?_) (fun c5=>?_)
 refine .gz 5 (.gz 5 (.pk ?_))
 refine .mv ?_
 refine .gz 9 (.gz 9 (.pk ?_))
 refine .an (.nil (.ret ?_))
 exact .rb rfl (dt (by (simp only [Unary]) <;> (first | omega | grind)))
 refine .gw 5 (Y.zf U U) (.gw 5 (Y.ql U U) (.pk ?_))
 refine .mv ?_
 refine .a8 (d:=9) U (fun c9=>?_) (fun c9=>?_)
 refine .gz 9 (.gz 9 (.pk ?_))
 refine .an (.nil (.ret ?_))
 exact .rb rfl (dt (by (simp only [Unary]) <;> (first | omega | grind)))
 refine .gw 9 (Y.zf U U) (.gw 9 (Y.ql U U) (.pk ?_))
 refine .an (.nil (.ret ?_))
 exact .rb rfl (dd (by (simp only [Unary]) <;> (first | omega | grind)))
theorem nY{w:Int}:aw Try.prog 87 [vi w] [] [] (fun r o=>r = .v (.bool (decide (Seq w))) /\ o = []):=by
 refine aw.of Try.func87 U U U (n:=9) ab (aH U) (.sr (.an (.nil (.sr ?_))))
 refine .mv ?_
 refine .vl (Y.qp U U) (.mv ?_)
 refine .a8 (d:=5) U (fun c5=>?_) (fun c5=>?_)
 refine .gw 5 (Y.zf U U) (.gw 5 (Y.qy U U) (.pk ?_))
 refine .an (.nil (.ret ?_))
 exact .rb rfl (dd (by (simp only [Seq]) <;> (first | omega | grind)))
 refine .gz 5 (.gz 5 (.pk ?_))
 refine .an (.nil (.ret ?_))
 exact .rb rfl (df (by (simp only [Seq]) <;> (first | omega | grind)))
theorem py{w:Int}:aw Try.prog 93 [vi w] [] [] (fun r o=>r = .v (.bool (decide (cU w))) /\ o = []):=by
 refine aw.of Try.func93 U U U (n:=13) ab (aH U) (.sr (.an (.nil (.sr ?_))))
 refine .mv ?_
 refine .vl (Y.ql U U) (.mv ?_)
 refine .a8 (d:=5) U (fun c5=>?_) (fun c5=>?_)
 refine .gz 5 (.gz 5 (.pk ?_))
 refine .mv ?_
 refine .gz 9 (.gz 9 (.pk ?_))
 refine .an (.nil (.ret ?_))
 exact .rb rfl (dt (by (simp only [cU]) <;> (first | omega | grind)))
 refine .gw 5 (Y.zf U U) (.gw 5 (Y.ql U U) (.pk ?_))
 refine .mv ?_
 refine .a8 (d:=9) U (fun c9=>?_) (fun c9=>?_)
 refine .gz 9 (.gz 9 (.pk ?_))
 refine .an (.nil (.ret ?_))
 exact .rb rfl (dt (by (simp only [cU]) <;> (first | omega | grind)))
 refine .gw 9 (Y.zf U U) (.gw 9 (Y.ql U U) (.pk ?_))
 refine .an (.nil (.ret ?_))
 exact .rb rfl (dd (by (simp only [cU]) <;> (first | omega | grind)))
theorem r9{w:Int}:aw Try.prog 100 [vi w] [] [] (fun r o=>r = .v (.bool (decide (cU w))) /\ o = []):=by
 refine aw.of Try.func100 U U U (n:=13) ab (aH U) (.sr (.an (.nil (.sr ?_))))
 refine .mv ?_
 refine .vl (Y.ql U U) (.mv ?_)
 refine .a8 (d:=5) U (fun c5=>?_) (fun c5=>?_)
 refine .gz 5 (.gz 5 (.pk ?_))
 refine .mv ?_
 refine .gz 9 (.gz 9 (.pk ?_))
 refine .an (.nil (.ret ?_))
 exact .rb rfl (dt (by (simp only [cU]) <;> (first | omega | grind)))
 refine .gw 5 (Y.zf U U) (.gw 5 (Y.ql U U) (.pk ?_))
 refine .mv ?_
 refine .a8 (d:=9) U (fun c9=>?_) (fun c9=>?_)
 refine .gz 9 (.gz 9 (.pk ?_))
 refine .an (.nil (.ret ?_))
 exact .rb rfl (dt (by (simp only [cU]) <;> (first | omega | grind)))
 refine .gw 9 (Y.zf U U) (.gw 9 (Y.ql U U) (.pk ?_))
 refine .an (.nil (.ret ?_))
 exact .rb rfl (dd (by (simp only [cU]) <;> (first | omega | grind)))
theorem nI{w:Int}:aw Try.prog 44 [vi w] [] [] (fun r o=>r = .v (.bool (decide (Plain w))) /\ o = []):=by
 refine aw.of Try.func44 U U U (n:=18) ab (aH U) (.sr (.an (.nil (.sr ?_))))
 refine .mv ?_
 refine .aR Sg (vw (w:=w)) U (.ai U U .nil) ab U ?_
 refine .mv ?_
 refine .a8 (d:=5) U (fun c5=>?_) (fun c5=>?_)
 refine .gw 5 (Y.zf U U) (.aC (d:=5) U ab U (.aR Oz (nY (w:=w)) U (.ai U U .nil) ab U ?_))
 refine .gw 5 (Y.zl U) (.pk ?_)
 refine .mv ?_
 refine .eR (d:=10) U (fun S2=>?_) (fun S2=>?_)
 refine .gz 10 (.gz 10 (.pk ?_))
 refine .mv ?_
 refine .gz 14 (.gz 14 (.pk ?_))
 refine .an (.nil (.ret ?_))
 exact .rb rfl (dt (by (simp only [Plain]) <;> (first | omega | grind)))
 refine .gw 10 (Y.zf U U) (.gw 10 (Y.ql U U) (.pk ?_))
 refine .mv ?_
 refine .a8 (d:=14) U (fun Ag=>?_) (fun Ag=>?_)
 refine .gz 14 (.gz 14 (.pk ?_))
 refine .an (.nil (.ret ?_))
 exact .rb rfl (dt (by (simp only [Plain]) <;> (first | omega | grind)))
 refine .gw 14 (Y.zf U U) (.aC (d:=14) U ab U (.aR wF (g5 (w:=w)) U (.ai U U .nil) ab U ?_))
 refine .pk ?_
 refine .an (.nil (.ret ?_))
 exact .rb rfl (dd (by (simp only [Plain]) <;> (first | omega | grind)))
 refine .gz 5 (.gz 5 (.gz 5 (.pk ?_)))
 refine .mv ?_
 refine .gw 10 (Y.zf U U) (.gw 10 (Y.ql U U) (.pk ?_))
 refine .mv ?_
 refine .a8 (d:=14) U (fun Ag=>?_) (fun Ag=>?_)
 refine .gz 14 (.gz 14 (.pk ?_))
 refine .an (.nil (.ret ?_))
 exact .rb rfl (dt (by (simp only [Plain]) <;> (first | omega | grind)))
 refine .gw 14 (Y.zf U U) (.aC (d:=14) U ab U (.aR wF (g5 (w:=w)) U (.ai U U .nil) ab U ?_))
 refine .pk ?_
 refine .an (.nil (.ret ?_))
 exact .rb rfl (dd (by (simp only [Plain]) <;> (first | omega | grind)))
theorem cW{i n:Int}:aw Try.prog 111 [vi i,vi n] [] [] (fun r o=>r = .v (.bool (decide (In i n))) /\ o = []):=by
 refine aw.of Try.func111 U U U (n:=12) ab (aH U) (.sr (.an (.nil (.sr ?_))))
 refine .mv ?_
 refine .vl (Y.qp U U) (.mv ?_)
 refine .a8 (d:=7) U (fun c7=>?_) (fun c7=>?_)
 refine .gw 7 (Y.zf U U) (.gw 7 (Y.zf U U) (.gw 7 (Y.zb U U) (.pk ?_)))
 refine .an (.nil (.ret ?_))
 exact .rb rfl (dd (by (simp only [In]) <;> (first | omega | grind)))
 refine .gz 7 (.gz 7 (.gz 7 (.pk ?_)))
 refine .an (.nil (.ret ?_))
 exact .rb rfl (df (by (simp only [In]) <;> (first | omega | grind)))
open Go Go.AW Go.Proofs
theorem pz{w:Int}:aw Try.prog 62 [vi w] [] [] (fun r o=>r = .v (.int .u64 ((2 ^ gh w - 1:Nat):Int)) /\ o = []):=by
 refine aw.of Try.func62 U U U (n:=15) ab (aH U) ?_
 have hl:=ky w
 refine .sr (.an (.nil (.sr ?_)))
 refine .an ?_
 refine .nil (.seq (.sr (.an (.nil (.block ?_)))))
 refine .gT (fun (oL:Nat) (dh:Nat)=>⟨[(0,vi w),(3,.v (.int .u64 (oL:Int))),(4,vi dh)],[]⟩) (fun oL dh=>((dh:Int) <= ((gh w:Nat):Int)) /\ (oL = 2 ^ dh - 1)) (fun oL dh=>(((gh w:Nat):Int) - (dh:Int)).toNat) 0 0 (⟨om,U⟩) (Le.mk (.c (.cons (ak U aY) (.cons (ak U aY) .nil))) .nil) (fun oL dh pK=>?_)
 obtain ⟨CL,hx⟩:=pK
 refine .seq (.sr (.mv ?_))
 refine .mv ?_
 refine .aR Jf (sS (w:=w)) U (.ai U U .nil) ab U (.vl (Y.zb U U) (.nil (.aB U (fun c8=>?_) (fun c8=>?_))))
 refine .skip (.seq (.block (.region (.mv ?_))))
 refine .vl (Y.zi (a:=2) (b:=oL) U U) (.vl (Y.qc (a:=((2 * oL) % 18446744073709551616)) (b:=1) U U) (.an (.nil (.region ?_))))
 refine .mv ?_
 refine .vl (Y.qb U U aJ) (.an ?_)
 refine .nil (⟨(((2 * oL) % 18446744073709551616) + 1) % 18446744073709551616,dh + 1,⟨om,C9 hx om⟩,om,Le.mk (.c (.cons (ak U aY) (.cons (ak U aY) .nil))) .nil⟩)
 refine .exit (.sr (.mv ?_))
 refine .an (.nil (.ret ?_))
 exact .ri rfl (by rw [hx,show dh = gh w by omega])
theorem CM{w:Int}{x:Nat}(hx:x < 18446744073709551616):aw Try.prog 81 [vi w,.v (.int .u64 (x:Int))] [] [] (fun r o=>r = .dK 1 ((jT (gh w) x).map ah) /\ o = []):=by
 refine aw.of Try.func81 U U U (n:=22) ab (aH U) ?_
 have hl:=ky w
 refine .sr (.an (.nil (.sr ?_)))
 refine .an ?_
 refine .sh (Sh.nil (d:=5) 105 1 U ab) (.nil (.seq (.sr (.an (.nil (.block ?_))))))
 refine .e8 (fun (tk:Nat) (kf:Nat) (bf:List Int)=>⟨[(0,vi w),(1,.v (.int .u64 (tk:Int))),(5,.aN 105 1 0 bf.length),(6,vi kf)],[(105,.rows 1 (bf.map ah))]⟩) (fun tk kf bf=>((kf:Int) <= ((gh w:Nat):Int)) /\ (bf.length = kf) /\ (bf = jT kf x) /\ (tk = x / 2 ^ kf) /\ (tk < 18446744073709551616)) (fun tk kf bf=>(((gh w:Nat):Int) - (kf:Int)).toNat) x 0 ([]:List Int) (⟨pP,U,U,by simp,hx⟩) (Le.mk (.c (.cons (ak U aY) (.cons (aM U aJ) (.cons (ak U aY) .nil)))) (.c .nil)) (fun tk kf bf pK=>?_)
 obtain ⟨CL,hlen,hb,hv,hm⟩:=pK
 refine .seq (.sr (.mv ?_))
 refine .mv ?_
 refine .aR Jf (sS (w:=w)) U (.ai U U .nil) ab U (.vl (Y.zb U U) (.nil (.aB U (fun S2=>?_) (fun S2=>?_))))
 refine .skip (.seq (.block (.sr (.mv ?_))))
 refine .mv ?_
 refine .vl (Y.zs (a:=tk) (b:=2) U U om) (.vl (Y.qk wE r4 U yO) (.buildSlice (([((tk % 2:Nat):Int)]:List Int).map ah) a7 dG U U U U U (aq (s:=1) (f:=ah) (fun _=>U)) U U U ab ?_))
 refine .cJ ah (bf ++ ([((tk % 2:Nat):Int)]:List Int)) a7 dG U U U U (bh aJ) (aV aJ) (b8 aJ) aJ aJ ab ab ?_
 refine .an (.nil (.region ?_))
 refine .mv ?_
 refine .vl (Y.zp (a:=tk) (b:=2) U U om) (.an (.nil (.region ?_)))
 refine .mv ?_
 refine .vl (Y.qb U U aJ) (.an ?_)
 refine .nil (⟨tk / 2,kf + 1,bf ++ ([((tk % 2:Nat):Int)]:List Int),⟨om,by simp; omega,by rw [hb,zR,hv],by rw [hv,Nat.div_div_eq_div_mul,Nat.pow_succ],om⟩,om,Le.mk (.c (.cons (ak U aY) (.cons (aM U om) (.cons (ak U aY) .nil)))) (.c .nil)⟩)
 refine .exit (.sr (.mv ?_))
 refine .an ?_
 exact .sh (Sh.dL (d:=4) (o:=105) U U (aW om) ab) (.nil (.ret ⟨_,_,U,U,(Eg (fun (z0:List Int)=>X.dK 1 (z0.map ah)) (by rw [hb,show kf = gh w by omega]:bf = jT (gh w) x):X.dK 1 (bf.map ah) = X.dK 1 ((jT (gh w) x).map ah)),U⟩))
theorem CN{l:List Int}(h1:∀ b ∈ l,0 <= b /\ b <= 1)(h2:l.length <= 64):aw Try.prog 80 [.fz 1 (l.map ah)] [] [] (fun r o=>r = .v (.int .u64 ((gj l:Nat):Int)) /\ o = []):=by
 refine aw.of Try.func80 U U U (n:=21) ab (aH U) (.sr (.an (.nil (.sr ?_))))
 refine .an ?_
 refine .nil (.seq (.sr (.mv ?_)))
 refine .vl (Y.qw (n:=l.length) a7 U dY) (.vl (Y.wa U U aJ) (.an (.nil (.block ?_))))
 refine .gT (fun (oL:Nat) (dh:Int)=>⟨[(0,.fz 1 (l.map ah)),(3,.v (.int .u64 (oL:Int))),(4,vi dh)],[]⟩) (fun oL dh=>(-1 <= dh /\ dh < (l.length:Int)) /\ (oL = gj (l.drop (dh + 1).toNat))) (fun oL dh=>(dh + 1).toNat) 0 ((l.length:Int) - 1) (⟨om,by rw [List.drop_eq_nil_of_le om]; rfl⟩) (Le.mk (.c (.cons (ak U aY) (.cons (ak U aY) .nil))) .nil) (fun oL dh pK=>?_)
 obtain ⟨hi,hx⟩:=pK
 refine .seq (.sr (.mv ?_))
 refine .vl (Y.qp U U) (.nil (.aB U (fun c9=>?_) (fun c9=>?_)))
 refine .skip (.seq (.block (.region (.mv ?_))))
 refine .vl (Y.zi (a:=2) (b:=oL) U U) (.mv ?_)
 refine .mv ?_
 refine .vl (Y.qr (m:=(dh).toNat) a7 U U om (ao (d:=0) om)) ?_
 have hb:=h1 _ (cg (l:=l) (i:=dh.toNat) om)
 refine .ld bg ?_
 refine .vl (Y.qj r4 wE U (vH _ om)) (.vl (Y.qc (a:=((2 * oL) % 18446744073709551616)) (b:=((l.getD ((dh).toNat) 0).toNat)) U U) (.an (.nil (.region ?_))))
 refine .mv ?_
 refine .vl (Y.wa U U aJ) (.an ?_)
 refine .nil (⟨(((2 * oL) % 18446744073709551616) + ((l.getD ((dh).toNat) 0).toNat)) % 18446744073709551616,dh - 1,⟨om,C8 h1 h2 om hx⟩,om,Le.mk (.c (.cons (ak U aY) (.cons (ak U aY) .nil))) .nil⟩)
 refine .exit (.sr (.mv ?_))
 refine .an (.nil (.ret ?_))
 exact .ri rfl (by rw [hx,show (dh + 1).toNat = 0 by omega,List.drop_zero])
theorem vV{w:Int}{x:Nat}(hx:x < 18446744073709551616):aw Try.prog 35 [vi w,.v (.int .u64 (x:Int))] [] [] (fun r o=>r = .v (.int .u64 ((gA w x:Nat):Int)) /\ o = []):=by
 refine aw.of Try.func35 U U U (n:=9) ab (aH U) (.sr (.an (.nil (.sr ?_))))
 refine .mv ?_
 refine .mv ?_
 refine .aR Sf (CM (w:=w) (x:=x) (om)) U (.ai U U (.ai U U .nil)) ab U ?_
 refine .sh (Sh.cN (d:=7) ((jT (gh w) x).map ah) U iX (cM.map aI)) (.aR Se (CN (l:=(jT (gh w) x)) (Et _ _) (by rw [C7]; exact ky _)) U (.ai U U .nil) ab U ?_)
 refine .an (.nil (.ret ?_))
 exact .ri rfl (by rw [zT]; rfl)
open Go Go.AW
structure Gate where
 kind:Int
 a:Int
 b:Int
instance:Inhabited Gate:=⟨⟨0,0,0⟩⟩
def Gate.row(g:Gate):List X:=[.v (.int .i64 g.kind),.v (.int .i64 g.a),.v (.int .i64 g.b)]
theorem Gate.bE(g:Gate):X.b6 g.row = true:=rfl
theorem Gate.lG(g:Gate):X.fm g.row:=by simp [Gate.row,X.fm,X.plain]
def qJ(i:Nat)(g:Gate):Prop :=
 (1 <= g.kind /\ g.kind <= 7) /\ (if 4 <= g.kind then 0 <= g.a /\ g.a < i else g.a = 0) /\ (if 5 <= g.kind then 0 <= g.b /\ g.b < i else g.b = 0)
def Good(l:List Gate):Prop:=∀ i g,l[i]? = some g -> qJ i g
def mY(l:List Gate):Nat:=l.countP (fun g=>decide (g.kind = 3))
theorem lq(l e:List Gate):mY (l ++ e) = mY l + mY e:=List.countP_append
theorem p3(g:Gate):mY [g] = if g.kind = 3 then 1 else 0:=by simp [mY,List.countP_cons]
theorem Kx(l:List Gate):mY l <= l.length:=List.countP_le_length
theorem Good.nil:Good []:=fun i g h=>by simp at h
theorem Good.snoc{l:List Gate}{g:Gate}(h:Good l)(hg:qJ l.length g):Good (l ++ [g]):=by
 intro i q hi
 rcases Nat.lt_or_ge i l.length with h1 | h1
 ·rw [List.getElem?_append_left h1] at hi; exact h i q hi
 ·rw [List.getElem?_append_right h1] at hi
  rcases Nat.eq_zero_or_pos (i - l.length) with h2 | h2
  ·rw [h2] at hi; simp at hi; subst hi
   rwa [show i = l.length by omega]
  ·rw [List.getElem?_eq_none (by simp; omega)] at hi; cases hi
theorem Good.left{l e:List Gate}(h:Good (l ++ e)):Good l:=fun i g hi=>h i g (by
 have:i < l.length:=(List.getElem?_eq_some_iff.1 hi).1
 rw [List.getElem?_append_left this]; exact hi)
def valOf(out ins:List Bool)(n:Nat)(g:Gate):Bool :=
 if g.kind = 2 then true else if g.kind = 3 then ins.getD n false else if g.kind = 4 then !out.getD g.a.toNat false
 else if g.kind = 5 then out.getD g.a.toNat false && out.getD g.b.toNat false else if g.kind = 6 then out.getD g.a.toNat false || out.getD g.b.toNat false
 else if g.kind = 7 then out.getD g.a.toNat false != out.getD g.b.toNat false else false
def yT(out ins:List Int)(n:Nat)(g:Gate):Int :=
 if g.kind = 3 then ins.getD n 0 else if g.kind = 4 then out.getD g.a.toNat 0 + 10 else if 5 <= g.kind /\ g.kind <= 7 then max (out.getD g.a.toNat 0) (out.getD g.b.toNat 0) + 20 else 0
section
variable {α:Type} (f:List α -> Nat -> Gate -> α)
def og(l : List Gate) : Nat → List α
 | 0=>[]
 | i + 1=>og l i ++ (match l[i]? with | some g=>[f (og l i) (mY (l.take i)) g] | none=>[])
theorem kg{l:List Gate}{i:Nat}{q:Gate}(hg:l[i]? = some q):og f l (i + 1) = og f l i ++ [f (og f l i) (mY (l.take i)) q]:=by
 simp [og,hg]
theorem kH{l : List Gate} : ∀ {i : Nat}, i ≤ l.length → (og f l i).length = i
 | 0,_=>rfl
 | i + 1,h=>by
  rw [kg f (List.getElem?_eq_getElem (show i < l.length by omega)),List.length_append,kH om]; rfl
theorem u3{l e : List Gate} : ∀ {i : Nat}, i ≤ l.length → og f (l ++ e) i = og f l i
 | 0,_=>rfl
 | i + 1,h=>by
  have hg:l[i]? = some l[i]:=List.getElem?_eq_getElem (show i < l.length by omega)
  have X4:(l ++ e)[i]? = some l[i]:=by rw [List.getElem?_append_left om]; exact hg
  rw [kg f hg,kg f X4,u3 om,List.take_append_of_le_length om]
theorem sw{l:List Gate}{g:Gate}:og f (l ++ [g]) (l.length + 1) = og f l l.length ++ [f (og f l l.length) (mY l) g]:=by
 rw [kg f (q:=g) (by simp),u3 f (Nat.le_refl _),List.take_append_of_le_length (Nat.le_refl _),List.take_length]
end
def outs(l:List Gate)(ins:List Bool)(i:Nat):List Bool:=og (fun o n g=>valOf o ins n g) l i
def pV(l:List Gate)(ins:List Int)(i:Nat):List Int:=og (fun o n g=>yT o ins n g) l i
def val(l:List Gate)(ins:List Bool)(i:Int):Bool:=(outs l ins l.length).getD i.toNat false
def CO(c:Int)(l:List Gate)(i:Int):Int:=(pV l (List.replicate (mY l) c) l.length).getD i.toNat 0
theorem CP{o ins xY:List Int}{n:Nat}{g:Gate}(h:g.kind = 3 -> ins.getD n 0 = xY.getD n 0):yT o ins n g = yT o xY n g:=by
 unfold yT
 by_cases h3:g.kind = 3
 ·rw [if_pos h3,if_pos h3,h h3]
 ·rw [if_neg h3,if_neg h3]
theorem OI{o ins xY:List Int}{n n':Nat}{g:Gate}(h:g.kind ≠ 3):yT o ins n g = yT o xY n' g:=by
 unfold yT
 rw [if_neg h,if_neg h]
theorem sT{l : List Gate}{ins xY : List Int}(h : ∀ k, k < mY l → ins.getD k 0 = xY.getD k 0) : ∀ {i : Nat}, i ≤ l.length → pV l ins i = pV l xY i
 | 0,_=>rfl
 | i + 1,hi=>by
  have hg:l[i]? = some l[i]:=List.getElem?_eq_getElem (show i < l.length by omega)
  have ih:=sT h (i:=i) om
  unfold pV at ih ⊢
  rw [kg _ hg,kg _ hg,ih]
  congr 2
  refine CP fun h3=>h _ ?_
  have h1:mY l = mY (l.take i) + mY (l.drop i):=by rw [<- lq,List.take_append_drop]
  have h2:1 <= mY (l.drop i):=by
   have h4:l.drop i = [l[i]] ++ l.drop (i + 1):=List.drop_eq_getElem_cons (show i < l.length by omega)
   rw [h4,lq,p3,if_pos h3]; omega
  omega
theorem u4{n k:Nat}{c:Int}(h:k < n):(List.replicate n c).getD k 0 = c:=by
 rw [List.getD_eq_getElem?_getD,List.getElem?_replicate,if_pos h]; rfl
theorem xZ{α : Type}{l : List Gate}{f : List α → Nat → Gate → α}{i j : Nat}(hi : i < j) : ∀ {m : Nat}, j ≤ m → m ≤ l.length → (og f l m)[i]? = (og f l j)[i]?
 | 0,h,_=>by omega
 | m + 1,h,hl=>by
  rcases Nat.lt_or_ge m j with h1 | h1
  ·rw [show m + 1 = j by omega]
  ·rw [kg f (List.getElem?_eq_getElem (show m < l.length by omega)),List.getElem?_append_left (by rw [kH f om]; omega)]
   exact xZ hi h1 om
theorem vW{α:Type}{l:List Gate}{f:List α -> Nat -> Gate -> α}{e:List Gate}{i:Nat}{d:α}(h:i < l.length):(og f (l ++ e) (l ++ e).length).getD i d = (og f l l.length).getD i d:=by
 rw [List.getD_eq_getElem?_getD,List.getD_eq_getElem?_getD,xZ (j:=l.length) h (by simp) (Nat.le_refl _),u3 f (Nat.le_refl _)]
theorem BG{l e:List Gate}{ins:List Bool}{i:Int}(h0:0 <= i)(h:i < l.length):val (l ++ e) ins i = val l ins i:=vW om
theorem BH{l e:List Gate}{c i:Int}(h0:0 <= i)(h:i < l.length):CO c (l ++ e) i = CO c l i:=by
 unfold CO
 have h1:(pV (l ++ e) (List.replicate (mY (l ++ e)) c) (l ++ e).length).getD i.toNat 0 = (pV l (List.replicate (mY (l ++ e)) c) l.length).getD i.toNat 0:=vW om
 rw [h1,sT (xY:=List.replicate (mY l) c) (fun k hk=>by rw [u4 (by rw [lq]; omega),u4 hk]) (Nat.le_refl _)]
theorem lx{α:Type}{l:List α}{x d:α}{n:Nat}(h:n = l.length):(l ++ [x]).getD n d = x:=by subst h; simp
theorem val_last{l:List Gate}{g:Gate}{ins:List Bool}:val (l ++ [g]) ins (l.length:Int) = valOf (outs l ins l.length) ins (mY l) g:=by
 unfold val outs
 rw [List.length_append,List.length_singleton,sw,Int.toNat_natCast]
 exact lx (kH _ (Nat.le_refl _)).symm
theorem EW{l:List Gate}{g:Gate}{c:Int}(h:g.kind ≠ 3):CO c (l ++ [g]) (l.length:Int) = yT (pV l (List.replicate (mY l) c) l.length) [] 0 g:=by
 have h1:mY (l ++ [g]) = mY l:=by rw [lq,p3,if_neg h]; omega
 unfold CO pV
 rw [h1,List.length_append,List.length_singleton,sw,Int.toNat_natCast,lx (kH _ (Nat.le_refl _)).symm]
 exact OI h
open Go Go.AW
structure Ext(l l':List Gate):Prop where
 ex:∃ e,l' = l ++ e /\ ∀ g ∈ e,g.kind ≠ 3
 dZ:Good l'
theorem Ext.refl{l:List Gate}(h:Good l):Ext l l:=⟨⟨[],by simp,by simp⟩,h⟩
theorem Ext.trans{l l' V5:List Gate}(h:Ext l l')(h':Ext l' V5):Ext l V5:=by
 obtain ⟨e,he,hk⟩:=h.ex
 obtain ⟨e',X5,Bh⟩:=h'.ex
 refine ⟨⟨e ++ e',by rw [X5,he,List.append_assoc],fun g hg=>?_⟩,h'.dZ⟩
 rcases List.mem_append.1 hg with h1 | h1
 ·exact hk g h1
 ·exact Bh g h1
theorem Ext.one{l:List Gate}{g:Gate}(h:Good l)(hg:qJ l.length g)(hk:g.kind ≠ 3):Ext l (l ++ [g]) :=
 ⟨⟨[g],rfl,fun x hx=>by rw [List.mem_singleton.1 hx]; exact hk⟩,h.snoc hg⟩
theorem Ext.len{l l':List Gate}(h:Ext l l'):l.length <= l'.length:=by obtain ⟨e,rfl,_⟩:=h.ex; simp
theorem ya : ∀ {e : List Gate}, (∀ g ∈ e, g.kind ≠ 3) → mY e = 0
 | [],_=>rfl
 | g :: e,h=>by
  have h1:mY (g :: e) = mY [g] + mY e:=lq [g] e
  rw [h1,p3,if_neg (h g (by simp)),ya (fun x hx=>h x (by simp [hx]))]
theorem Ext.mY{l l':List Gate}(h:Ext l l'):mY l' = mY l:=by
 obtain ⟨e,rfl,hk⟩:=h.ex
 rw [lq,ya hk]; omega
structure Wr(c:Int)(l:List Gate)(i:Int)(f:List Bool -> Bool)(t:Int):Prop where
 lo:0 <= i
 hi:i < l.length
 v:∀ ins,val l ins i = f ins
 t:CO c l i <= t
theorem Wr.ext{c:Int}{l l':List Gate}{i:Int}{f:List Bool -> Bool}{t:Int}(h:Wr c l i f t)(he:Ext l l'):Wr c l' i f t:=by
 have hl:=he.len
 obtain ⟨e,rfl,_⟩:=he.ex
 exact ⟨h.lo,by have:=h.hi; omega,fun ins=>by rw [BG h.lo h.hi]; exact h.v ins,by rw [BH h.lo h.hi]; exact h.t⟩
theorem Wr.late{c:Int}{l:List Gate}{i:Int}{f:List Bool -> Bool}{t t':Int}(h:Wr c l i f t)(ht:t <= t'):Wr c l i f t':=⟨h.lo,h.hi,h.v,by have:=h.t; omega⟩
theorem Wr.as{c:Int}{l:List Gate}{i:Int}{f f':List Bool -> Bool}{t:Int}(h:Wr c l i f t)(hf:∀ ins,f ins = f' ins):Wr c l i f' t:=⟨h.lo,h.hi,fun ins=>by rw [h.v,hf],h.t⟩
section
variable {c:Int} {l:List Gate} {a b:Int} {f g:List Bool -> Bool} {s t u:Int}
theorem Wr.last{g:Gate}{h:List Bool -> Bool}(hk:g.kind ≠ 3)(hv:∀ ins,valOf (outs l ins l.length) ins (mY l) g = h ins)(ht:yT (pV l (List.replicate (mY l) c) l.length) [] 0 g <= u):Wr c (l ++ [g]) (l.length:Int) h u :=
 ⟨om,by simp; omega,fun ins=>by rw [val_last]; exact hv ins,by rw [EW hk]; exact ht⟩
theorem Wr.and(ha:Wr c l a f s)(hb:Wr c l b g t)(hs:s + 20 <= u)(ht:t + 20 <= u):Wr c (l ++ [⟨5,a,b⟩]) (l.length:Int) (fun ins=>f ins && g ins) u:=by
 refine Wr.last (by simp) (fun ins=>?_) ?_
 ·have h1:=ha.v ins; have h2:=hb.v ins; unfold val at h1 h2
  simp only [valOf,h1,h2]; rfl
 ·have h1:=ha.t; have h2:=hb.t; unfold CO at h1 h2
  simp only [yT]; rw [if_neg ab,if_neg ab,if_pos ab]; omega
theorem Wr.or(ha:Wr c l a f s)(hb:Wr c l b g t)(hs:s + 20 <= u)(ht:t + 20 <= u):Wr c (l ++ [⟨6,a,b⟩]) (l.length:Int) (fun ins=>f ins || g ins) u:=by
 refine Wr.last (by simp) (fun ins=>?_) ?_
 ·have h1:=ha.v ins; have h2:=hb.v ins; unfold val at h1 h2
  simp only [valOf,h1,h2]; rfl
 ·have h1:=ha.t; have h2:=hb.t; unfold CO at h1 h2
  simp only [yT]; rw [if_neg ab,if_neg ab,if_pos ab]; omega
theorem Wr.xor(ha:Wr c l a f s)(hb:Wr c l b g t)(hs:s + 20 <= u)(ht:t + 20 <= u):Wr c (l ++ [⟨7,a,b⟩]) (l.length:Int) (fun ins=>f ins ^^ g ins) u:=by
 refine Wr.last (by simp) (fun ins=>?_) ?_
 ·have h1:=ha.v ins; have h2:=hb.v ins; unfold val at h1 h2
  simp only [valOf,h1,h2]
  cases f ins <;> cases g ins <;> rfl
 ·have h1:=ha.t; have h2:=hb.t; unfold CO at h1 h2
  simp only [yT]; rw [if_neg ab,if_neg ab,if_pos ab]; omega
theorem Wr.not(ha:Wr c l a f s)(hs:s + 10 <= u):Wr c (l ++ [⟨4,a,0⟩]) (l.length:Int) (fun ins=>!f ins) u:=by
 refine Wr.last (by simp) (fun ins=>?_) ?_
 ·have h1:=ha.v ins; unfold val at h1
  simp only [valOf,h1]; rfl
 ·have h1:=ha.t; unfold CO at h1
  simp only [yT]; rw [if_neg ab,if_pos ab]; omega
theorem Wr.zero(hu:0 <= u):Wr c (l ++ [⟨1,0,0⟩]) (l.length:Int) (fun _=>false) u:=Wr.last ab (fun ins=>rfl) (by simpa [yT] using hu)
theorem Wr.one(hu:0 <= u):Wr c (l ++ [⟨2,0,0⟩]) (l.length:Int) (fun _=>true) u:=Wr.last ab (fun ins=>rfl) (by simpa [yT] using hu)
theorem ok_two{k:Int}(hk:5 <= k /\ k <= 7)(ha:Wr c l a f s)(hb:Wr c l b g t):qJ l.length ⟨k,a,b⟩ :=
 ⟨⟨by show 1 <= k; omega,hk.2⟩,by rw [if_pos (by show 4 <= k; omega)]; exact ⟨ha.lo,ha.hi⟩,by rw [if_pos hk.1]; exact ⟨hb.lo,hb.hi⟩⟩
theorem Ky(ha:Wr c l a f s):qJ l.length ⟨4,a,0⟩:=⟨⟨by simp,by simp⟩,by rw [if_pos (by simp)]; exact ⟨ha.lo,ha.hi⟩,by rw [if_neg (by simp)]⟩
theorem EX{k:Int}{i:Nat}(hk:1 <= k /\ k <= 3):qJ i ⟨k,0,0⟩:=⟨⟨hk.1,by show k <= 7; omega⟩,by rw [if_neg (by show ¬ 4 <= k; omega)],by rw [if_neg (by show ¬ 5 <= k; omega)]⟩
theorem Ext.two{k:Int}(hg:Good l)(hk:5 <= k /\ k <= 7)(ha:Wr c l a f s)(hb:Wr c l b g t):Ext l (l ++ [⟨k,a,b⟩]):=Ext.one hg (ok_two hk ha hb) (by show k ≠ 3; omega)
theorem Ext.not(hg:Good l)(ha:Wr c l a f s):Ext l (l ++ [⟨4,a,0⟩]):=Ext.one hg (Ky ha) (by simp)
theorem Ext.Me{k:Int}(hg:Good l)(hk:1 <= k /\ k <= 2):Ext l (l ++ [⟨k,0,0⟩]):=Ext.one hg (EX ⟨hk.1,om⟩) (by show k ≠ 3; omega)
end
structure Wd(c:Int)(l:List Gate)(a:List Int)(w:Nat)(N:List Bool -> BitVec w)(t:Int):Prop where
 len:a.length = w
 bit:∀ k,k < w -> Wr c l (a.getD k 0) (fun ins=>(N ins).getLsbD k) t
theorem Wd.ext{c:Int}{l l':List Gate}{a:List Int}{w:Nat}{N:List Bool -> BitVec w}{t:Int}(h:Wd c l a w N t)(he:Ext l l'):Wd c l' a w N t:=⟨h.len,fun k hk=>(h.bit k hk).ext he⟩
theorem Wd.late{c:Int}{l:List Gate}{a:List Int}{w:Nat}{N:List Bool -> BitVec w}{t t':Int}(h:Wd c l a w N t)(ht:t <= t'):Wd c l a w N t':=⟨h.len,fun k hk=>(h.bit k hk).late ht⟩
structure Ws(c:Int)(l:List Gate)(a:List Int)(f:Nat -> List Bool -> Bool)(t:Int):Prop where
 bit:∀ k,k < a.length -> Wr c l (a.getD k 0) (f k) t
theorem Ws.nil{c:Int}{l:List Gate}{f:Nat -> List Bool -> Bool}{t:Int}:Ws c l [] f t:=⟨fun k hk=>by simp at hk⟩
theorem Ws.ext{c:Int}{l l':List Gate}{a:List Int}{f:Nat -> List Bool -> Bool}{t:Int}(h:Ws c l a f t)(he:Ext l l'):Ws c l' a f t:=⟨fun k hk=>(h.bit k hk).ext he⟩
theorem Ws.snoc{c:Int}{l:List Gate}{a:List Int}{x:Int}{f:Nat -> List Bool -> Bool}{t:Int}(h:Ws c l a f t)(hx:Wr c l x (f a.length) t):Ws c l (a ++ [x]) f t:=⟨fun k hk=>by
 rcases Nat.lt_or_ge k a.length with h1 | h1
 ·rw [List.getD_eq_getElem?_getD,List.getElem?_append_left h1,<- List.getD_eq_getElem?_getD]; exact h.bit k h1
 ·have:k = a.length:=by simp at hk; omega
  subst this; rw [lx rfl]; exact hx⟩
theorem Ws.late{c:Int}{l:List Gate}{a:List Int}{f:Nat -> List Bool -> Bool}{t t':Int}(h:Ws c l a f t)(ht:t <= t'):Ws c l a f t':=⟨fun k hk=>(h.bit k hk).late ht⟩
theorem Ws.as{c:Int}{l:List Gate}{a:List Int}{f f':Nat -> List Bool -> Bool}{t:Int}(h:Ws c l a f t)(hf:∀ k,k < a.length -> ∀ ins,f k ins = f' k ins):Ws c l a f' t:=⟨fun k hk=>(h.bit k hk).as (hf k hk)⟩
theorem Wd.ws{c:Int}{l:List Gate}{a:List Int}{w:Nat}{N:List Bool -> BitVec w}{t:Int}(h:Wd c l a w N t):Ws c l a (fun k ins=>(N ins).getLsbD k) t:=⟨fun k hk=>h.bit k (by have:=h.len; omega)⟩
theorem Ws.wd{c:Int}{l:List Gate}{a:List Int}{w:Nat}{f:Nat -> List Bool -> Bool}{N:List Bool -> BitVec w}{t:Int}(h:Ws c l a f t)(hl:a.length = w)(hf:∀ k,k < w -> ∀ ins,f k ins = (N ins).getLsbD k):Wd c l a w N t :=
 ⟨hl,fun k hk=>(h.bit k om).as (hf k hk)⟩
open Go Go.AW
def ca(G P : Nat → Bool)(j : Nat) : Nat → Bool → Bool
 | 0,z=>z
 | k + 1,z=>G (j + k) || (P (j + k) && ca G P j k z)
def pp(P : Nat → Bool)(j : Nat) : Nat → Bool
 | 0=>true
 | k + 1=>P (j + k) && pp P j k
theorem Jp{G P : Nat → Bool}{j : Nat}{z : Bool} : ∀ k, ca G P j k z = (ca G P j k false || (pp P j k && z))
 | 0=>by simp [ca,pp]
 | k + 1=>by
  simp only [ca,pp]
  rw [Jp k]
  cases G (j + k) <;> cases P (j + k) <;> cases pp P j k <;> cases ca G P j k false <;> cases z <;> rfl
theorem EY{G P : Nat → Bool}{j k : Nat}{z : Bool} : ∀ m, ca G P j (k + m) z = ca G P (j + k) m (ca G P j k z)
 | 0=>rfl
 | m + 1=>by
  show (G (j + (k + m)) || (P (j + (k + m)) && ca G P j (k + m) z)) = _
  rw [EY m,<- Nat.add_assoc]; rfl
theorem EZ{P : Nat → Bool}{j k : Nat} : ∀ m, pp P j (k + m) = (pp P (j + k) m && pp P j k)
 | 0=>by simp [pp]
 | m + 1=>by
  show (P (j + (k + m)) && pp P j (k + m)) = _
  rw [EZ m,<- Nat.add_assoc]
  simp only [pp,Bool.and_assoc]
theorem rA{G P G' P' : Nat → Bool}{z : Bool} : ∀ {k}, (∀ i, i < k → G i = G' i) → (∀ i, i < k → P i = P' i) → ca G P 0 k z = ca G' P' 0 k z
 | 0,_,_=>rfl
 | k + 1,hg,hp=>by
  simp only [ca,Nat.zero_add]
  rw [hg k om,hp k om,rA (fun i hi=>hg i om) (fun i hi=>hp i om)]
def gen(G P:Nat -> Bool)(d i:Nat):Bool:=ca G P (i + 1 - d) (i + 1 - (i + 1 - d)) false
theorem HH{G P:Nat -> Bool}{i:Nat}:gen G P 1 i = G i:=by
 unfold gen
 rw [show i + 1 - 1 = i by omega,show i + 1 - i = 1 by omega]
 simp [ca]
theorem wI{G P:Nat -> Bool}{d i:Nat}(h:i < d):gen G P d i = ca G P 0 (i + 1) false:=by
 unfold gen
 rw [show i + 1 - d = 0 by omega]; rfl
theorem BK{G P:Nat -> Bool}{d i:Nat}(h:d <= i):gen G P (2 * d) i = (gen G P d i || (pp P (i + 1 - d) d && gen G P d (i - d))):=by
 unfold gen
 rw [show i + 1 - (i + 1 - d) = d by omega,<- Jp]
 have h1:i - d + 1 - d = i + 1 - 2 * d:=by omega
 have h2:i + 1 - (i + 1 - 2 * d) = (i - d + 1 - (i - d + 1 - d)) + d:=by omega
 rw [h2,EY,h1,show i + 1 - 2 * d + (i - d + 1 - (i + 1 - 2 * d)) = i + 1 - d by omega]
theorem Fa{G P:Nat -> Bool}{d i:Nat}(h:i < d):gen G P (2 * d) i = gen G P d i:=by
 rw [wI h,wI om]
theorem Kz{P:Nat -> Bool}{d i:Nat}(h:2 * d <= i + 1):pp P (i + 1 - 2 * d) (2 * d) = (pp P (i + 1 - d) d && pp P (i - d + 1 - d) d):=by
 rw [Nat.two_mul,EZ,show i + 1 - (d + d) + d = i + 1 - d by omega,show i - d + 1 - d = i + 1 - (d + d) by omega]
theorem u5{w : Nat}{x y : BitVec w}{z : Bool} : ∀ n, ca (fun i => x.getLsbD i && y.getLsbD i) (fun i => x.getLsbD i ^^ y.getLsbD i) 0 n z = BitVec.carry n x y z
 | 0=>by simp [ca,BitVec.carry_zero]
 | n + 1=>by
  simp only [ca,Nat.zero_add]
  rw [u5 n,BitVec.carry_succ]
  cases x.getLsbD n <;> cases y.getLsbD n <;> cases BitVec.carry n x y z <;> rfl
theorem HJ{w:Nat}{x y:BitVec w}{i:Nat}(h:i < w):(x + y).getLsbD i = ((x.getLsbD i ^^ y.getLsbD i) ^^ ca (fun i=>x.getLsbD i && y.getLsbD i) (fun i=>x.getLsbD i ^^ y.getLsbD i) 0 i false):=by
 rw [u5,BitVec.getLsbD_add h,Bool.xor_assoc]
def HK{w:Nat}(x y:BitVec w)(i:Nat):Bool:=if i = 0 then x.getLsbD 0 || !y.getLsbD 0 else x.getLsbD i && !y.getLsbD i
theorem Fb{w : Nat}{x y : BitVec w} : ∀ n, n + 1 ≤ w → ca (HK x y) (fun i => x.getLsbD i ^^ !y.getLsbD i) 0 (n + 1) false = ca (fun i => x.getLsbD i && (~~~y).getLsbD i) (fun i => x.getLsbD i ^^ (~~~y).getLsbD i) 0 (n + 1) true
 | 0,hw=>by
  simp only [ca,HK,Nat.add_zero,if_true,BitVec.getLsbD_not,show 0 < w by omega,decide_true,Bool.true_and]
  cases x.getLsbD 0 <;> cases y.getLsbD 0 <;> rfl
 | n + 1,hw=>by
  have h:=Fb (x:=x) (y:=y) n om
  rw [ca,h]
  conv=>rhs; rw [ca]
  simp only [Nat.zero_add,HK,Nat.add_one_ne_zero,if_false,BitVec.getLsbD_not,show n + 1 < w by omega,decide_true,Bool.true_and]
theorem HL{w:Nat}{x y:BitVec w}{i:Nat}(h:i < w)(h0:0 < i):(x - y).getLsbD i = ((x.getLsbD i ^^ !y.getLsbD i) ^^ ca (HK x y) (fun i=>x.getLsbD i ^^ !y.getLsbD i) 0 i false):=by
 obtain ⟨i,rfl⟩:∃ j,i = j + 1:=⟨i - 1,om⟩
 rw [Fb i om,u5,BitVec.sub_eq_add_neg,BitVec.neg_eq_not_add,<- BitVec.add_assoc]
 have h1:=BitVec.getLsbD_add_add_bool h x (~~~y) true
 rw [show BitVec.setWidth w (BitVec.ofBool true) = 1#w by
  apply BitVec.eq_of_toNat_eq; simp] at h1
 rw [h1,BitVec.getLsbD_not]
 simp [show i + 1 < w by omega,Bool.xor_assoc]
theorem Fc{w:Nat}{x y:BitVec w}(h:0 < w):(x - y).getLsbD 0 = (x.getLsbD 0 ^^ y.getLsbD 0):=by
 have h1:=BitVec.getLsbD_add_add_bool h x (~~~y) true
 rw [show BitVec.setWidth w (BitVec.ofBool true) = 1#w by
  apply BitVec.eq_of_toNat_eq; simp] at h1
 rw [BitVec.sub_eq_add_neg,BitVec.neg_eq_not_add,<- BitVec.add_assoc,h1,BitVec.getLsbD_not,BitVec.carry_zero]
 simp only [h,decide_true,Bool.true_and]
 cases x.getLsbD 0 <;> cases y.getLsbD 0 <;> rfl
open Go Go.AW
noncomputable instance (p:nw):Decidable p.Q9:=Classical.propDecidable _
structure pW(n:ae)(dO:List Int):Prop where
 len:dO.length = n.aa.length
 K0:∀ w:Int,In w n.aa.length -> cX n (dO.getD w.toNat 0) w
def sU(n:ae)(k:Nat)(dO:List Int):Prop:=dO.length = n.aa.length /\ ∀ j w:Int,cX n j w -> j < k -> dO.getD w.toNat 0 = j
theorem sU.done{n:ae}{dO:List Int}(hf:bx n)(h:sU n n.cells.length dO):pW n dO:=by
 refine ⟨h.1,fun w hw=>?_⟩
 obtain ⟨i,hi⟩:=hf.sj hw
 rw [h.2 i w hi hi.1.2]; exact hi
theorem sU.set{n:ae}{k:Nat}{dO:List Int}(hf:bx n)(h:sU n k dO)(hk:k < n.cells.length)(h0:(n.cells.getD k default).out ≥ 0):sU n (k + 1) (dO.set (n.cells.getD k default).out.toNat (k:Int)):=by
 refine ⟨by rw [List.length_set]; exact h.1,fun j w hd hj=>?_⟩
 have hc:=hf.cells k hk
 have h7:(n.cells.getD k default).kind ≠ 7:=fun e=>by have:=hc.2.2.1 e; omega
 have Mf:cX n (k:Int) (n.cells.getD k default).out:=⟨⟨om,om⟩,h7,rfl⟩
 have hw:=hf.iQ hd; have S3:=hf.iQ Mf
 unfold In at hw S3
 rw [bP]
 by_cases e:(n.cells.getD k default).out.toNat = w.toNat /\ (n.cells.getD k default).out.toNat < dO.length
 ·rw [if_pos e]
  have e2:(n.cells.getD k default).out = w:=by omega
  exact hf.unique (e2 ▸ Mf) hd
 ·rw [if_neg e]
  have fN:j ≠ (k:Int):=by
   rintro rfl
   apply e
   have e2:(n.cells.getD k default).out = w:=hd.2.2
   have:=h.1
   omega
  exact h.2 j w hd om
theorem sU.skip{n:ae}{k:Nat}{dO:List Int}(hf:bx n)(h:sU n k dO)(h0:¬ (n.cells.getD k default).out ≥ 0):sU n (k + 1) dO:=by
 refine ⟨h.1,fun j w hd hj=>?_⟩
 have hw:=hf.iQ hd
 unfold In at hw
 have fN:j ≠ (k:Int):=by
  rintro rfl
  have:(n.cells.getD k default).out = w:=hd.2.2
  omega
 exact h.2 j w hd om
structure OJ(n:ae)(l:List Int)(k:Nat)(pl:List Int):Prop where
 len:pl.length = n.cells.length
 at_:∀ j,j < k -> pl.getD (l.getD j 0).toNat 0 = (j:Int) + 1
 none_:∀ c:Int,In c n.cells.length -> (∀ j,j < k -> l.getD j 0 ≠ c) -> pl.getD c.toNat 0 = 0
theorem u6{l:List Int}(h:l.Nodup){i j:Nat}(hi:i < l.length)(hj:j < l.length)(e:l.getD i 0 = l.getD j 0):i = j:=by
 rw [List.getD_eq_getElem?_getD,List.getD_eq_getElem?_getD,List.getElem?_eq_getElem hi,List.getElem?_eq_getElem hj] at e
 simp only [Option.getD_some] at e
 rw [List.Nodup,List.pairwise_iff_getElem] at h
 rcases Nat.lt_trichotomy i j with h1 | h1 | h1
 ·exact absurd e (h i j hi hj h1)
 ·exact h1
 ·exact absurd e.symm (h j i hj hi h1)
theorem OJ.init(n:ae)(l:List Int):OJ n l 0 (List.replicate n.cells.length 0) :=
 ⟨by simp,fun j hj=>by omega,fun c hc _=>by
  unfold In at hc
  rw [List.getD_eq_getElem?_getD,List.getElem?_eq_getElem (by simp; omega)]; simp⟩
theorem OJ.step{n:ae}{l pl:List Int}{k:Nat}(ho:Ord n l)(h:OJ n l k pl)(hk:k < l.length):OJ n l (k + 1) (pl.set (l.getD k 0).toNat ((k:Int) + 1)):=by
 have hr:=ho.vL _ (cg hk)
 have hl:=h.len
 refine ⟨by rw [List.length_set]; exact hl,fun j hj=>?_,fun c hc fN=>?_⟩
 ·rw [bP]
  rcases Nat.lt_or_ge j k with h1 | h1
  ·have Q3:=ho.vL _ (cg (l:=l) (i:=j) om)
   rw [if_neg (fun e=>by have:=u6 ho.nd hk (by omega:j < l.length) om; omega)]
   exact h.at_ j h1
  ·obtain rfl:j = k:=by omega
   rw [if_pos ⟨rfl,om⟩]
 ·have h1:=fN k om
  unfold In at hc
  rw [bP,if_neg (fun e=>h1 om)]
  exact h.none_ c hc (fun j hj=>fN j om)
theorem Ord.mem{n:ae}{l:List Int}(ho:Ord n l){i:Int}(hi:0 <= i /\ i < n.cells.length):i ∈ l:=by
 refine Classical.byContradiction fun hn=>?_
 have h1:∀ x ∈ i :: l,x ∈ (List.range n.cells.length).map (fun (j:Nat)=>(j:Int)):=by
  intro x hx
  have hr:0 <= x /\ x < n.cells.length:=by
   rcases List.mem_cons.1 hx with rfl | hx
   ·exact hi
   ·exact ho.vL x hx
  exact List.mem_map.2 ⟨x.toNat,List.mem_range.2 om,om⟩
 have h2:=length_le_of_subset (List.nodup_cons.2 ⟨hn,ho.nd⟩) h1
 simp only [List.length_cons,List.length_map,List.length_range,ho.len] at h2
 omega
theorem lJ.ok{n:ae}{l:List Int}{e:Int}(h:lJ n l e)(hf:bx n)(ht:Fit n)(ha:Acyclic n):Ord n l /\ e = 0:=by
 rcases h with ⟨h1,_⟩ | ⟨_,h2,_⟩ | ⟨_,_,h3,_⟩ | ⟨_,_,_,h4,h5⟩
 ·exact absurd hf h1
 ·exact absurd ht h2
 ·exact absurd ha h3
 ·exact ⟨h4,h5⟩
theorem yb{n:ae}(hf:bx n)(ht:Fit n)(ha:Acyclic n):jU n = 0:=by unfold jU; rw [if_pos hf,if_pos ht,if_pos ha]
open Go Go.AW
inductive GH (n:ae) (ws:List Int):Int -> Prop where
 | root {w i:Int} (hw:w ∈ ws) (h:cX n i w):GH n ws i
 | step {i x j:Int} (hi:GH n ws i) (hc:cU (n.cell i).kind) (hx:x ∈ (n.cell i).args) (h:cX n j x):GH n ws j
def Fe(l:List Bool):Nat:=l.countP (fun b=>!b)
theorem CQ(l:List Bool):Fe l <= l.length:=List.countP_le_length
structure wJ(n:ae)(dO ws:List Int)(l:List Int)(seen:List Bool):Prop where
 len:seen.length = n.cells.length
 vL:∀ w ∈ l,In w n.aa.length
 snd:∀ w ∈ l,∀ i,cX n i w -> GH n ws i
 HM:∀ i:Nat,i < n.cells.length -> seen.getD i false = true -> GH n ws i
 root:∀ w ∈ ws,seen.getD (dO.getD w.toNat 0).toNat false = true \/ w ∈ l
 jQ:∀ i:Nat,i < n.cells.length -> seen.getD i false = true -> cU (n.cells.getD i default).kind -> ∀ x ∈ (n.cells.getD i default).args,seen.getD (dO.getD x.toNat 0).toNat false = true \/ x ∈ l
 sz:l.length + 4 * Fe seen <= ws.length + 4 * n.cells.length
theorem rp{k i:Nat}:(List.replicate k false).getD i false = false:=by
 rw [List.getD_eq_getElem?_getD]
 by_cases h:i < k
 ·rw [List.getElem?_eq_getElem (by simpa using h)]; simp
 ·rw [List.getElem?_eq_none (by simpa using h)]; rfl
theorem wJ.init{n:ae}{dO ws:List Int}(hw:∀ w ∈ ws,In w n.aa.length):wJ n dO ws ws (List.replicate n.cells.length false) where
 len:=by simp
 vL:=hw
 snd:=fun w hw i hi=>.root hw hi
 HM:=fun i _ h=>by rw [rp] at h; cases h
 root:=fun w hw=>.inr hw
 jQ:=fun i _ h=>by rw [rp] at h; cases h
 sz:=by have:=CQ (List.replicate n.cells.length false); simp at this; omega
section
variable {n:ae} {dO ws l:List Int} {seen:List Bool}
theorem p4{l:List Int}(h:0 < l.length){x:Int}(hx:x ∈ l):x = l.getD (l.length - 1) 0 \/ x ∈ l.take (l.length - 1):=by
 obtain ⟨i,hi,rfl⟩:=List.mem_iff_getElem.1 hx
 by_cases e:i = l.length - 1
 ·left; subst e; rw [List.getD_eq_getElem?_getD,List.getElem?_eq_getElem hi]; rfl
 ·right
  refine List.mem_iff_getElem.2 ⟨i,by simp; omega,by simp⟩
theorem wJ.skip(h:wJ n dO ws l seen)(h0:0 < l.length)(hs:seen.getD (dO.getD (l.getD (l.length - 1) 0).toNat 0).toNat false = true):wJ n dO ws (l.take (l.length - 1)) seen where
 len:=h.len
 vL:=fun w hw=>h.vL w (List.mem_of_mem_take hw)
 snd:=fun w hw=>h.snd w (List.mem_of_mem_take hw)
 HM:=h.HM
 root:=fun w hw=>by
  rcases h.root w hw with h1 | h1
  ·exact .inl h1
  ·rcases p4 h0 h1 with h2 | h2
   ·exact .inl (by rw [h2]; exact hs)
   ·exact .inr h2
 jQ:=fun i hi hm hc x hx=>by
  rcases h.jQ i hi hm hc x hx with h1 | h1
  ·exact .inl h1
  ·rcases p4 h0 h1 with h2 | h2
   ·exact .inl (by rw [h2]; exact hs)
   ·exact .inr h2
 sz:=by have:=h.sz; simp only [List.length_take]; omega
theorem wJ.last(hb:pW n dO)(h:wJ n dO ws l seen)(h0:0 < l.length):(0 <= l.getD (l.length - 1) 0 /\ l.getD (l.length - 1) 0 < n.aa.length) /\ (0 <= dO.getD (l.getD (l.length - 1) 0).toNat 0 /\ dO.getD (l.getD (l.length - 1) 0).toNat 0 < n.cells.length):=by
 have hw:=h.vL _ (cg (l:=l) (i:=l.length - 1) om)
 exact ⟨hw,(hb.K0 _ hw).1⟩
theorem K3{a b:Nat}(h:b <= a /\ a <= 4611686018427387904):IntKind.i64.wrap ((a:Int) - (b:Int)) = ((a - b:Nat):Int):=by
 rw [show ((a:Int) - (b:Int)) = ((a - b:Nat):Int) by omega]
 exact IntWalk.i64_in _ om
theorem take_one{α:Type}{d:α}{l:List α}{k:Nat}(h:k < l.length):l.take (k + 1) = l.take k ++ [l.getD k d]:=by
 rw [List.take_add_one,List.getElem?_eq_getElem h,List.getD_eq_getElem?_getD,List.getElem?_eq_getElem h]; rfl
def vX(n:ae)(ws:List Int)(seen:List Bool):Prop:=seen.length = n.cells.length /\ ∀ i:Nat,i < n.cells.length -> (seen.getD i false = true ↔ GH n ws i)
theorem wJ.done(hb:pW n dO)(hf:bx n)(h:wJ n dO ws l seen)(h0:l.length = 0)(hw:∀ w ∈ ws,In w n.aa.length):vX n ws seen:=by
 have hl:l = []:=List.eq_nil_of_length_eq_zero h0
 subst hl
 refine ⟨h.len,fun i hi=>⟨h.HM i hi,fun hr=>?_⟩⟩
 have key:∀ j:Int,GH n ws j -> 0 <= j /\ j < n.cells.length /\ seen.getD j.toNat false = true:=by
  intro j hj
  induction hj with
  | root qU hd =>
   rcases h.root _ qU with h1 | h1
   ·rw [hf.unique (hb.K0 _ (hw _ qU)) hd] at h1
    exact ⟨hd.1.1,hd.1.2,h1⟩
   ·cases h1
  | @step i x j hi hc hx hd ih =>
   rcases h.jQ i.toNat om ih.2.2 hc x hx with h1 | h1
   ·rw [hf.unique (hb.K0 _ (hf.um ⟨ih.1,ih.2.1⟩ hx)) hd] at h1
    exact ⟨hd.1.1,hd.1.2,h1⟩
   ·cases h1
 exact (key _ hr).2.2
end
theorem vX.eq{n:ae}{ws:List Int}{s t:List Bool}(hs:vX n ws s)(ht:vX n ws t):s = t:=by
 refine List.ext_getElem (by rw [hs.1,ht.1]) fun i h1 h2=>?_
 have e1:=hs.2 i (by have:=hs.1; omega)
 have e2:=ht.2 i (by have:=hs.1; omega)
 rw [List.getD_eq_getElem?_getD,List.getElem?_eq_getElem h1] at e1
 rw [List.getD_eq_getElem?_getD,List.getElem?_eq_getElem h2] at e2
 simp only [Option.getD_some] at e1 e2
 cases h3:s[i] <;> cases h4:t[i] <;> simp_all
open Go Go.AW
def GI(p:Nat -> Bool)(k:Nat):List Nat:=(List.range k).filter p
theorem wK{p:Nat -> Bool}{k:Nat}(h:p k = false):GI p (k + 1) = GI p k:=by
 simp only [GI,List.range_succ,List.filter_append,List.filter_cons,h,List.filter_nil,List.append_nil,Bool.false_eq_true,if_false]
theorem Ff(p:Nat -> Bool)(k:Nat):(GI p k).length <= k:=by
 have:=List.length_filter_le p (List.range k)
 rw [List.length_range] at this; exact this
def HN(p:Nat -> Bool)(w:Nat):Int:=if p w then ((GI p w).length:Int) else -1
def Mg(p:Nat -> Bool)(x:Int):Int:=if 0 <= x then HN p x.toNat else x
def Jq{α:Type}(p:Nat -> Bool)(l:List α)(d:α):List α:=(GI p l.length).map (fun i=>l.getD i d)
open Go Go.AW
def kc(n:ae)(s:List Bool)(i:Nat):Bool:=s.getD i false || !decide (cU (n.cells.getD i default).kind)
def kw(n:ae)(dO:List Int)(s:List Bool)(w:Nat):Bool:=kc n s (dO.getD w 0).toNat
def S4(p:Nat -> Bool)(c:Cell):Cell:=⟨c.kind,c.op,Mg p c.out,c.args.map (Mg p),c.num,c.mem⟩
structure OK(n:ae)(dO:List Int)(s:List Bool):Prop where
 freeze:kw n dO s n.freeze.toNat = true
 done:kw n dO s n.done.toNat = true
 cH:∀ r ∈ n.cH,kw n dO s r.toNat = true
 bD:∀ r ∈ n.bD,kw n dO s r.toNat = true
 data:∀ r ∈ n.data,0 <= r -> kw n dO s r.toNat = true
 jQ:∀ i,i < n.cells.length -> kc n s i = true -> ∀ x ∈ (n.cells.getD i default).args,kw n dO s x.toNat = true
section
variable {n:ae} {dO:List Int} {s:List Bool} (hf:bx n) (hb:pW n dO) (hk:OK n dO s)
end
open Go Go.AW
structure VP(n:ae):Prop where
 formed:bx n
 fit:Fit n
 acyclic:Acyclic n
 small:n.Small
 dm:n.cells.length <= 48
 cO:n.aa.length <= 48
 uv:∀ c ∈ n.cells,c.args.length <= 4
 vR:n.cH.length <= 3
 gB:n.aD.length <= 3
 bZ:n.streams.length <= 4
 EC:n.ins.length <= 4
section
variable {n:ae} {dO:List Int} {s:List Bool} (hv:VP n) (hb:pW n dO) (hk:OK n dO s)
end
open Go Go.AW
structure HO(n:ae)(w:Int):Prop where
 is:w ∈ n.bD \/ w ∈ n.cH \/ w = n.freeze \/ w = n.done \/ (w ∈ n.data /\ 0 <= w) \/ ∃ i,i < n.cells.length /\ ¬ cU (n.cells.getD i default).kind /\ w ∈ (n.cells.getD i default).args
def rB(n:ae)(l:List Int):Prop:=∀ w,w ∈ l ↔ HO n w
theorem HO.vL{n:ae}(hf:bx n){w:Int}(h:HO n w):In w n.aa.length:=by
 rcases h.is with h | h | h | h | ⟨h,h0⟩ | ⟨i,hi,_,h⟩
 ·obtain ⟨j,hj,rfl⟩:=List.mem_iff_getElem.1 h
  have h1:=(hf.strs j (by have:=hf.dy; omega)).2.2.1
  rwa [List.getD_eq_getElem?_getD,List.getElem?_eq_getElem hj] at h1
 ·exact hf.cH w h
 ·rw [h]; exact hf.freeze
 ·rw [h]; exact hf.done
 ·obtain ⟨j,hj,rfl⟩:=List.mem_iff_getElem.1 h
  have h1:=(hf.strs j (by have:=hf.gm; omega)).2.2.2
  have e:n.data.getD j 0 = n.data[j]:=by rw [List.getD_eq_getElem?_getD,List.getElem?_eq_getElem hj]; rfl
  rw [<- e] at h0 ⊢
  cases ho:(n.streams.getD j default).out with
  | true=>exact h1.1 ho
  | false=>have:=h1.2 ho; omega
 ·exact (hf.cells i hi).1 w h
section
variable {n:ae} {dO l:List Int} {s:List Bool} (hf:bx n) (hb:pW n dO) (hl:rB n l) (hc:vX n l s)
include hf hb hl hc
end
open Go Go.AW
structure Sn(n:ae)(dO rs:List Int)(l:List Int)(eu:List Bool):Prop where
 len:eu.length = n.cells.length
 vL:∀ w ∈ l,w < 0 \/ In w n.aa.length
 snd:∀ w ∈ l,∀ i,cX n i w -> GH n rs i
 seq:∀ i:Nat,i < n.cells.length -> ¬ cU (n.cells.getD i default).kind -> eu.getD i false = true
 HM:∀ i:Nat,i < n.cells.length -> eu.getD i false = true -> cU (n.cells.getD i default).kind -> GH n rs i
 root:∀ w ∈ rs,eu.getD (dO.getD w.toNat 0).toNat false = true \/ w ∈ l
 jQ:∀ i:Nat,i < n.cells.length -> eu.getD i false = true -> cU (n.cells.getD i default).kind -> ∀ x ∈ (n.cells.getD i default).args,eu.getD (dO.getD x.toNat 0).toNat false = true \/ x ∈ l
section
variable {n:ae} {dO rs l:List Int} {eu:List Bool}
theorem Sn.skip(h:Sn n dO rs l eu)(hf:∀ w ∈ rs,0 <= w)(X6:bx n)(h0:0 < l.length)(hs:l.getD (l.length - 1) 0 < 0 \/ eu.getD (dO.getD (l.getD (l.length - 1) 0).toNat 0).toNat false = true):Sn n dO rs (l.take (l.length - 1)) eu where
 len:=h.len
 vL:=fun w hw=>h.vL w (List.mem_of_mem_take hw)
 snd:=fun w hw=>h.snd w (List.mem_of_mem_take hw)
 seq:=h.seq
 HM:=h.HM
 root:=fun w hw=>by
  rcases h.root w hw with h1 | h1
  ·exact .inl h1
  ·rcases p4 h0 h1 with h2 | h2
   ·rcases hs with hs | hs
    ·have:=hf w hw; omega
    ·exact .inl (by rw [h2]; exact hs)
   ·exact .inr h2
 jQ:=fun i hi hm hc x hx=>by
  rcases h.jQ i hi hm hc x hx with h1 | h1
  ·exact .inl h1
  ·rcases p4 h0 h1 with h2 | h2
   ·rcases hs with hs | hs
    ·have h3:=(X6.cells i hi).1 x hx
     unfold In at h3; omega
    ·exact .inl (by rw [h2]; exact hs)
   ·exact .inr h2
theorem Sn.done(hb:pW n dO)(hf:bx n)(QB:∀ w ∈ rs,In w n.aa.length)(h:Sn n dO rs l eu)(h0:l.length = 0){s:List Bool}(hc:vX n rs s):∀ i,i < n.cells.length -> eu.getD i false = kc n s i:=by
 have hl:l = []:=List.eq_nil_of_length_eq_zero h0
 subst hl
 have key:∀ j:Int,GH n rs j -> 0 <= j /\ j < n.cells.length /\ eu.getD j.toNat false = true:=by
  intro j hj
  induction hj with
  | root qU hd =>
   rcases h.root _ qU with h1 | h1
   ·rw [hf.unique (hb.K0 _ (QB _ qU)) hd] at h1
    exact ⟨hd.1.1,hd.1.2,h1⟩
   ·cases h1
  | @step i x j hi tq hx hd ih =>
   rcases h.jQ i.toNat om ih.2.2 tq x hx with h1 | h1
   ·rw [hf.unique (hb.K0 _ (hf.um ⟨ih.1,ih.2.1⟩ hx)) hd] at h1
    exact ⟨hd.1.1,hd.1.2,h1⟩
   ·cases h1
 intro i hi
 unfold kc
 by_cases tq:cU (n.cells.getD i default).kind
 ·rw [decide_eq_true tq]
  simp only [Bool.not_true,Bool.or_false]
  have e:=hc.2 i hi
  cases hn:eu.getD i false with
  | true=>exact (e.2 (h.HM i hi hn tq)).symm
  | false =>
   cases hs:s.getD i false with
   | false=>rfl
   | true =>
    have:=(key _ (e.1 hs)).2.2
    rw [Int.toNat_natCast,hn] at this; cases this
 ·rw [h.seq i hi tq,decide_eq_false tq]; simp
end
end Go.Proofs.Ytlimckldnjmabaa
