/- Lemmas for laws of this seat. -/
import Derived.Test.YtpacclkciilmpaaGreatDoorGBC
import Derived.IntWalk
set_option maxHeartbeats 4000000
namespace Go.Proofs.YtpacclkciilmpaaGreatDoor.Sw
set_option linter.unusedVariables false
set_option linter.unusedSimpArgs false
set_option linter.deprecated false
open Go
theorem aA.ri {P:Program} {B:World} {fn:FuncId} {f:Func} {args:Array Value} {h:av} {g:GH} {Lc:List au} {D:Value→GH→List au→Prop} {e:Env}
    (hf:P.funcs[fn]?=some f) (hb:f.body.isSome=true) (hn:args.size≤f.ntmps) (he:qt args.toList 0=e) (h0:norm 1000 [.code (qs f)]=pt (cJ f) 0)
    (H:∀R:Value→av→Prop,(∀v h' g' u,St h g (aM Lc) g' u h'→D v g' u→R v h')→At (bS P B fn f R) [] 0 e h):aA P B fn args h g Lc D:=
  yz.ri hf hb hn he h0 (H _ fun _ _ g' u s p=>⟨g',u,s,p⟩)
theorem dm {b:Bool} (h:(!b)=true):b=false:=by cases b<;>simp_all
theorem dn {b:Bool} (h:(!b)=false):b=true:=by cases b<;>simp_all
theorem rj {α:Type} [BEq α] [LawfulBEq α] {a b:α} (h:(a==b)=false):¬(a=b):=by intro e;subst e;simp at h
theorem jO {α:Type} [BEq α] [LawfulBEq α] {a b:α} (h:(a != b)=true):¬(a=b):=by simpa using h
theorem l6 {α:Type} [BEq α] [LawfulBEq α] {a b:α} (h:(a != b)=false):a=b:=by simpa using h
theorem bp {k:IntKind} {a b:Int} (h:a=b):Value.int k a=Value.int k b:=by rw[h]
theorem aS {a b:Bool} (h:a=b):Value.bool a=Value.bool b:=by rw[h]
theorem jh {a b:aj} (h:a=b):Value.string (a_ a)=Value.string (a_ b):=by rw[h]
theorem bM {a b c d:Value} (h:a=c) (k:b=d):Value.tuple #[a,b]=Value.tuple #[c,d]:=by rw[h,k]
theorem j4 {a b c d e f:Value} (h:a=d) (k:b=e) (l:c=f):Value.tuple #[a,b,c]=Value.tuple #[d,e,f]:=by rw[h,k,l]
theorem bP {α:Type} {g:GH} {T:TypeId} {d:Kd α} {v:Value} {xs ys:List α} (h:ay g T d v xs) (e:xs=ys):ay g T d v ys:=e▸h
theorem oA {n:Int} (h0: -9223372036854775808≤n) (h1:n≤9223372036854775807):Value.int .i64 (IntKind.wrap .i64 n)=Value.int .i64 n:=by
  rw[show IntKind.wrap .i64 n=n from by rw[IntKind.wrap_i64];omega]
theorem cT {cs:Array Value} {o n:Nat} {vs:List Value} (h:cut cs o n=vs) (k:Nat) {v:Value} (hv:vs[k]?=some v):cs[o+k]?=some v:=by
  subst h
  unfold cut at hv
  rw[o7] at hv
  split at hv
  · simpa using hv
  · cases hv
theorem MI {cs:Array Value} {o n:Nat} {vs ws:List Value} (h:cut cs o n=vs) (k m:Nat) (hv:(vs.drop k).take m=ws) (hm:k+m≤n:=by omega):cut cs (o+k) m=ws:=by
  rw[←sR cs o n k m hm,h,hv]
theorem Op.cast {C:fC} {ds:List Deferred} {i:Nat} {r:av} {M:Nat→Prop} {Ls:List (Nat×Bool)} {e e':Env} {h:av} (he:e=e') (K:Op C ds i r M Ls e' h):Op C ds i r M Ls e h:=he▸K
theorem drop_at {α:Type} {xs:List α} {i:Nat} {x:α} (h:xs[i]?=some x):xs.drop i=x::xs.drop (i+1):=by
  have hlt:=(dL.1 h).1
  rw[uo hlt,(dL.1 h).2]
theorem fu {α:Type} {xs:List α} {i:Nat} {x:α} (h:xs[i]?=some x):xs.take (i+1)=xs.take i++[x]:=by
  rw[List.take_add_one,h];rfl
theorem toNat_succ {n:Int} (h:0≤n):(n+1).toNat=n.toNat+1:=by omega
end Go.Proofs.YtpacclkciilmpaaGreatDoor.Sw
