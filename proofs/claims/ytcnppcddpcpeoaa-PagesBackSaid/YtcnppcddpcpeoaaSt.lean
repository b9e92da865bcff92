/-
  A store as it lies in memory.
-/
import Derived.Test.YtcnppcddpcpeoaaRd
import Derived.Test.YtcnppcddpcpeoaaPgLaw
namespace Go.Proofs.Ytcnppcddpcpeoaa
open Go.RowKit

def Pg.cells (p : Pg) : List Value := [.int .i64 p.a, .int .i64 p.b, .int .i64 p.c, .int .i64 p.d]
abbrev Pg.val (p : Pg) : Value := .agg #[.int .i64 p.a, .int .i64 p.b, .int .i64 p.c, .int .i64 p.d]
abbrev RdPg : World → Sv Pg → Prop := Rd 4 Pg.cells okT
theorem RdPg.st : Stays RdPg := Rd.stays okT_stays
structure Ds where
  pages : Sv Pg
  uses : Sv Int
  roots : Sv (Sv Int)
abbrev Ds.val (x : Ds) : Value := .agg #[x.pages.val, x.uses.val, x.roots.val]
structure Ds.ok (W : World) (x : Ds) : Prop where
  pages : RdPg W x.pages
  uses : RdI W x.uses
  roots : RdR W x.roots
theorem Ds.ok.st : Stays Ds.ok := fun _ _ _ h hb => ⟨RdPg.st _ _ _ h.pages hb, RdI.st _ _ _ h.uses hb, RdR.st _ _ _ h.roots hb⟩
def Ds.c (x : Ds) : DsC := ⟨x.pages.l, x.uses.l, x.roots.l.map (·.l)⟩
end Go.Proofs.Ytcnppcddpcpeoaa
