import Derived.Test.YtalhcfjcbbkpgaaGreatZt0e
set_option maxRecDepth 100000
set_option maxHeartbeats 4000000
namespace Go.Proofs.YtalhcfjcbbkpgaaGreat
section
def xJ(r:Nat):Nat:=if r % 2=0 then r / 2 else (r / 2) ^^^ 3988292384
def kK:Nat->Nat->Nat
 | 0,r=>r
 | n+1,r=>xJ (kK n r)
def zf(r b:Nat):Nat:=kK 8 (r ^^^ b)
def lu(bs:List Nat):Nat:=bs.foldl zf 4294967295
def lC(bs:List Nat):Nat:=lu bs ^^^ 4294967295
theorem TB{r:Nat}(h:r<4294967296):xJ r<4294967296:=by
 unfold xJ;split
 ·omega
 ·exact Nat.xor_lt_two_pow (n:=32) (by omega) (by decide)
theorem M9{r:Nat}(h:r<4294967296):∀n,kK n r<4294967296:=by
 intro n
 induction n with
 | zero=>exact h
 | succ n a=>exact TB a
theorem TD{r b:Nat}(h:r<4294967296)(a:b<256):zf r b<4294967296 :=
 M9 (Nat.xor_lt_two_pow (n:=32) h (by omega)) 8
theorem Na:∀(bs:List Nat) (r:Nat),(∀b ∈ bs,b<256)->r<4294967296->bs.foldl zf r<4294967296:=by
 intro bs
 induction bs with
 | nil=>intro r _ h;exact h
 | cons b bs c=>intro r a h;exact c _ (fun x d=>a x (by simp[d])) (TD h (a b (by simp)))
theorem Nb{bs:List Nat}(h:∀b ∈ bs,b<256):lC bs<4294967296 :=
 Nat.xor_lt_two_pow (n:=32) (Na bs _ h (by decide)) (by decide)
def four(x:Nat):List Nat:=[x % 256,x / 256 % 256,x / 65536 % 256,x / 16777216 % 256]
theorem TF(x:Nat):∀b ∈ four x,b<256:=by intro b a;simp only [four,List.mem_cons,List.not_mem_nil,or_false]at a;omega
end
section
def TG(a:List Nat)(i:Nat):Bool:=a.getD (i / 8) 0 / 2 ^ (i % 8) % 2 == 1
def EB(a:List Nat)(n:Nat):Prop:=n<=8 * a.length/\8 * a.length<n+8
def EC(a:List Nat)(n:Nat):Prop:=∀i,n<=i->i<8 * a.length->TG a i=false
instance (cs:List Nat) (n:Nat):Decidable (EB cs n):=by unfold EB;infer_instance
noncomputable instance (cs:List Nat) (n:Nat):Decidable (EC cs n):=Classical.propDecidable _
end
section
open Go.RowKit
theorem TH(w:World):Calls Tryz.prog 23 #[.slice none 0 0] w fun e w'=>e=.returned (.slice none 0 0)/\w=w':=by
 go_enter Tryz.func23,Tryz.ntmps23;go_wp2_with fail;go_loop [3,4] (fun a i=>i=.int .i64 0/\a=.slice none 0 0) (fun _ _=>0)
 case atStart=>exact⟨rfl,rfl⟩
 case round =>
  obtain⟨rfl,rfl⟩:=hrel;go_wp2_with fail;go_ret;exact⟨rfl,rfl⟩
end
