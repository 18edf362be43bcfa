import Derived.Test.YtcfdpogegngplaaGreatZlCanon
namespace Go.Proofs.YtcfdpogegngplaaGreat
open Go.RowKit
theorem new_gen {s:List Nat} {rt:Int} {ln:Nat} {sv:Value} {W:World} (hs:Sl .i64 W sv (nats s)) (hP:IsP s.length (sg s)) (he:s.length % 2=0) (hl:s.length≤131072) (hln:ln≤65536) (hrt:(s.length=0∧rt=-1)∨∃ r:Nat,rt=r∧r < s.length) :
  Calls Tryz.prog 30 #[sv,.int .i64 rt,.int .i64 ln] W (MadeMap W s rt ln):=by
 rcases hrt with ⟨h0,rfl⟩ | ⟨r,rfl,hr⟩
 ·obtain rfl:s=[]:=List.eq_nil_of_length_eq_zero h0
  exact new_none sv ln W hs hln
 ·exact new_some sv s r ln W hs hP he hr hl hln
end Go.Proofs.YtcfdpogegngplaaGreat
