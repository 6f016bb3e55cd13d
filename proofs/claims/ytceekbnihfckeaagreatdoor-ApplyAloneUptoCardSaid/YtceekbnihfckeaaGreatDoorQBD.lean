/- Lemmas for laws of this seat. -/
import Derived.Test.YtceekbnihfckeaaGreatDoorQBC
import Derived.IntWalk
namespace Go.Proofs.YtceekbnihfckeaaGreatDoor.Sw
set_option linter.unusedVariables false
set_option linter.unusedSimpArgs false
set_option linter.deprecated false
open Go
theorem aE.uB {P:Program} {B:World} {fn:FuncId} {f:Func} {args:Array Value} {h:ax} {g:GH} {Lc:List ay} {D:Value→GH→List ay→Prop} {e:Env}
    (hf:P.funcs[fn]?=some f) (hb:f.body.isSome=true) (hn:args.size≤f.ntmps) (he:sW args.toList 0=e) (h0:norm 1000 [.code (sV f)]=pt (dz f) 0)
    (H:∀R:Value→ax→Prop,(∀v h' g' u,St h g (aV Lc) g' u h'→D v g' u→R v h')→At (bX P B fn f R) [] 0 e h):aE P B fn args h g Lc D:=
  Bf.uB hf hb hn he h0 (H _ fun _ _ g' u s p=>⟨g',u,s,p⟩)
theorem dG {b:Bool} (h:(!b)=true):b=false:=by cases b<;>simp_all
theorem dH {b:Bool} (h:(!b)=false):b=true:=by cases b<;>simp_all
theorem n4 {α:Type} [BEq α] [LawfulBEq α] {a b:α} (h:(a==b)=false):¬(a=b):=by intro e;subst e;simp at h
theorem gY {α:Type} [BEq α] [LawfulBEq α] {a b:α} (h:(a != b)=true):¬(a=b):=by simpa using h
theorem jk {α:Type} [BEq α] [LawfulBEq α] {a b:α} (h:(a != b)=false):a=b:=by simpa using h
theorem bB {k:IntKind} {a b:Int} (h:a=b):Value.int k a=Value.int k b:=by rw[h]
theorem aS {a b:Bool} (h:a=b):Value.bool a=Value.bool b:=by rw[h]
theorem jY {a b:an} (h:a=b):Value.string (bp a)=Value.string (bp b):=by rw[h]
theorem b7 {a b c d:Value} (h:a=c) (k:b=d):Value.tuple #[a,b]=Value.tuple #[c,d]:=by rw[h,k]
theorem lJ {a b c d e f:Value} (h:a=d) (k:b=e) (l:c=f):Value.tuple #[a,b,c]=Value.tuple #[d,e,f]:=by rw[h,k,l]
theorem b9 {α:Type} {g:GH} {T:TypeId} {d:Kd α} {v:Value} {xs ys:List α} (h:av g T d v xs) (e:xs=ys):av g T d v ys:=e▸h
theorem oI {n:Int} (h0: -9223372036854775808≤n) (h1:n≤9223372036854775807):Value.int .i64 (IntKind.wrap .i64 n)=Value.int .i64 n:=by
  rw[show IntKind.wrap .i64 n=n from by rw[IntKind.wrap_i64];omega]
theorem c_ {cs:Array Value} {o n:Nat} {vs:List Value} (h:cut cs o n=vs) (k:Nat) {v:Value} (hv:vs[k]?=some v):cs[o+k]?=some v:=by
  subst h
  unfold cut at hv
  rw[uv] at hv
  split at hv
  · simpa using hv
  · cases hv
theorem Op.cast {C:fP} {ds:List Deferred} {i:Nat} {r:ax} {M:Nat→Prop} {Ls:List (Nat×Bool)} {e e':Env} {h:ax} (he:e=e') (K:Op C ds i r M Ls e' h):Op C ds i r M Ls e h:=he▸K
theorem drop_at {α:Type} {xs:List α} {i:Nat} {x:α} (h:xs[i]?=some x):xs.drop i=x::xs.drop (i+1):=by
  have hlt:=(fT.1 h).1
  rw[zj hlt,(fT.1 h).2]
theorem fG {α:Type} {xs:List α} {i:Nat} {x:α} (h:xs[i]?=some x):xs.take (i+1)=xs.take i++[x]:=by
  rw[List.take_add_one,h];rfl
theorem toNat_succ {n:Int} (h:0≤n):(n+1).toNat=n.toNat+1:=by omega
end Go.Proofs.YtceekbnihfckeaaGreatDoor.Sw
