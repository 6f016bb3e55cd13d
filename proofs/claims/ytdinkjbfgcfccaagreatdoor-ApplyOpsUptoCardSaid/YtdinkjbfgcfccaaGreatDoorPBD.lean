/- Lemmas for laws of this seat. -/
import Derived.Test.YtdinkjbfgcfccaaGreatDoorPBC
import Derived.IntWalk
set_option maxHeartbeats 4000000
namespace Go.Proofs.YtdinkjbfgcfccaaGreatDoor.Sw
set_option linter.unusedVariables false
set_option linter.unusedSimpArgs false
set_option linter.deprecated false
open Go
theorem aG.ri {P:Program} {B:World} {fn:FuncId} {f:Func} {args:Array Value} {h:ay} {g:GH} {Lc:List az} {D:Value→GH→List az→Prop} {e:Env}
    (hf:P.funcs[fn]?=some f) (hb:f.body.isSome=true) (hn:args.size≤f.ntmps) (he:qu args.toList 0=e) (h0:norm 1000 [.code (qt f)]=pt (cL f) 0)
    (H:∀R:Value→ay→Prop,(∀v h' g' u,St h g (aS Lc) g' u h'→D v g' u→R v h')→At (bP P B fn f R) [] 0 e h):aG P B fn args h g Lc D:=
  yf.ri hf hb hn he h0 (H _ fun _ _ g' u s p=>⟨g',u,s,p⟩)
theorem dn {b:Bool} (h:(!b)=true):b=false:=by cases b<;>simp_all
theorem dr {b:Bool} (h:(!b)=false):b=true:=by cases b<;>simp_all
theorem pI {α:Type} [BEq α] [LawfulBEq α] {a b:α} (h:(a==b)=false):¬(a=b):=by intro e;subst e;simp at h
theorem fY {α:Type} [BEq α] [LawfulBEq α] {a b:α} (h:(a != b)=true):¬(a=b):=by simpa using h
theorem gB {α:Type} [BEq α] [LawfulBEq α] {a b:α} (h:(a != b)=false):a=b:=by simpa using h
theorem bg {k:IntKind} {a b:Int} (h:a=b):Value.int k a=Value.int k b:=by rw[h]
theorem bn {a b:Bool} (h:a=b):Value.bool a=Value.bool b:=by rw[h]
theorem iL {a b:aj} (h:a=b):Value.string (br a)=Value.string (br b):=by rw[h]
theorem bA {a b c d:Value} (h:a=c) (k:b=d):Value.tuple #[a,b]=Value.tuple #[c,d]:=by rw[h,k]
theorem gG {a b c d e f:Value} (h:a=d) (k:b=e) (l:c=f):Value.tuple #[a,b,c]=Value.tuple #[d,e,f]:=by rw[h,k,l]
theorem bl {α:Type} {g:GH} {T:TypeId} {d:Kd α} {v:Value} {xs ys:List α} (h:an g T d v xs) (e:xs=ys):an g T d v ys:=e▸h
theorem nS {n:Int} (h0: -9223372036854775808≤n) (h1:n≤9223372036854775807):Value.int .i64 (IntKind.wrap .i64 n)=Value.int .i64 n:=by
  rw[show IntKind.wrap .i64 n=n from by rw[IntKind.wrap_i64];omega]
theorem Bs {n:Int} (h0:0≤n) (h1:n≤255):Value.int .u8 (IntKind.wrap .u8 n)=Value.int .u8 n:=by
  rw[show IntKind.wrap .u8 n=n from by rw[IntKind.wrap_u8];omega]
theorem bN {cs:Array Value} {o n:Nat} {vs:List Value} (h:cut cs o n=vs) (k:Nat) {v:Value} (hv:vs[k]?=some v):cs[o+k]?=some v:=by
  subst h
  unfold cut at hv
  rw[sK] at hv
  split at hv
  · simpa using hv
  · cases hv
theorem Op.cast {C:ff} {ds:List Deferred} {i:Nat} {r:ay} {M:Nat→Prop} {Ls:List (Nat×Bool)} {e e':Env} {h:ay} (he:e=e') (K:Op C ds i r M Ls e' h):Op C ds i r M Ls e h:=he▸K
theorem drop_at {α:Type} {xs:List α} {i:Nat} {x:α} (h:xs[i]?=some x):xs.drop i=x::xs.drop (i+1):=by
  have hlt:=(fO.1 h).1
  rw[v7 hlt,(fO.1 h).2]
theorem fP {α:Type} {xs:List α} {i:Nat} {x:α} (h:xs[i]?=some x):xs.take (i+1)=xs.take i++[x]:=by
  rw[List.take_add_one,h];rfl
theorem toNat_succ {n:Int} (h:0≤n):(n+1).toNat=n.toNat+1:=by omega
end Go.Proofs.YtdinkjbfgcfccaaGreatDoor.Sw
