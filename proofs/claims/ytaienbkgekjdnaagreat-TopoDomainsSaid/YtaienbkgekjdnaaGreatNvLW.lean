/- What comes in has lengths within bounds. -/
import Derived.Test.YtaienbkgekjdnaaGreatNvT1
import Derived.Test.YtaienbkgekjdnaaGreatNvV1
namespace Nv
open Go
theorem LofW_TInterface {x : TInterface} (h : W_TInterface x) : L_TInterface x := ⟨(h.1), (h.2.2.2.2.2.2.2.2.2.1), (h.2.2.2.2.2.2.2.2.2.2.1)⟩
theorem LofW_TPrefixList {x : TPrefixList} (h : W_TPrefixList x) : L_TPrefixList x := ⟨(h.1), (h.2).1⟩
theorem LofW_TClause {x : TClause} (h : W_TClause x) : L_TClause x := (h.2.1)
theorem LofW_TRouteMap {x : TRouteMap} (h : W_TRouteMap x) : L_TRouteMap x := ⟨(h.1), ⟨(h.2).1, fun y hy => LofW_TClause ((h.2).2.2 y hy)⟩⟩
theorem LofW_TACL {x : TACL} (h : W_TACL x) : L_TACL x := ⟨(h.1), (h.2).1⟩
theorem LofW_TTranslation {x : TTranslation} (h : W_TTranslation x) : L_TTranslation x := (h.2.2.2.2.2.2.1)
theorem LofW_TStaticRoute {x : TStaticRoute} (h : W_TStaticRoute x) : L_TStaticRoute x := (h.2.2.1)
theorem LofW_TRedist {x : TRedist} (h : W_TRedist x) : L_TRedist x := (h.2.2.2.1)
theorem LofW_TLinkState {x : TLinkState} (h : W_TLinkState x) : L_TLinkState x := ⟨(h.2.2.1).1, ⟨(h.2.2.2).1, fun y hy => LofW_TRedist ((h.2.2.2).2.2 y hy)⟩⟩
theorem LofW_TDistanceVector {x : TDistanceVector} (h : W_TDistanceVector x) : L_TDistanceVector x := ⟨(h.2.2.1), (h.2.2.2.1), ⟨(h.2.2.2.2).1, fun y hy => LofW_TRedist ((h.2.2.2.2).2.2 y hy)⟩⟩
theorem LofW_TNeighbor {x : TNeighbor} (h : W_TNeighbor x) : L_TNeighbor x := ⟨(h.2.2.1), (h.2.2.2)⟩
theorem LofW_TPathVector {x : TPathVector} (h : W_TPathVector x) : L_TPathVector x := ⟨⟨(h.2.2.2.1).1, fun y hy => LofW_TNeighbor ((h.2.2.2.1).2.2 y hy)⟩, (h.2.2.2.2.1).1, (h.2.2.2.2.2.1).1, (h.2.2.2.2.2.2.1).1, ⟨(h.2.2.2.2.2.2.2).1, fun y hy => LofW_TRedist ((h.2.2.2.2.2.2.2).2.2 y hy)⟩⟩
theorem LofW_TRouter {x : TRouter} (h : W_TRouter x) : L_TRouter x := ⟨(h.1), ⟨(h.2.2.1).1, fun y hy => LofW_TInterface ((h.2.2.1).2.2 y hy)⟩, ⟨(h.2.2.2.1).1, fun y hy => LofW_TPrefixList ((h.2.2.2.1).2.2 y hy)⟩, ⟨(h.2.2.2.2.1).1, fun y hy => LofW_TRouteMap ((h.2.2.2.2.1).2.2 y hy)⟩, ⟨(h.2.2.2.2.2.1).1, fun y hy => LofW_TACL ((h.2.2.2.2.2.1).2.2 y hy)⟩, ⟨(h.2.2.2.2.2.2.1).1, fun y hy => LofW_TTranslation ((h.2.2.2.2.2.2.1).2.2 y hy)⟩, ⟨(h.2.2.2.2.2.2.2.1).1, fun y hy => LofW_TStaticRoute ((h.2.2.2.2.2.2.2.1).2.2 y hy)⟩, LofW_TLinkState (h.2.2.2.2.2.2.2.2.1), LofW_TDistanceVector (h.2.2.2.2.2.2.2.2.2.1), LofW_TPathVector (h.2.2.2.2.2.2.2.2.2.2)⟩
theorem LofW_TNetwork {x : TNetwork} (h : W_TNetwork x) : L_TNetwork x := ⟨(h).1, fun y hy => LofW_TRouter ((h).2.2 y hy)⟩
end Nv
