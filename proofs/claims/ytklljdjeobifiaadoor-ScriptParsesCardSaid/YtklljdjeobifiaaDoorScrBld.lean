import Derived.Test.YtklljdjeobifiaaDoorScrShelf
namespace Go.Proofs
open Go.Shelf
open Go.RowKit

theorem Tryd.lays166 : Go.Proofs.Lays.n166 Tryd.prog Tryd.lays156_ren := {
  mixed := Tryd.lays156.mixed,
  f166 := Tryd.lays156.f166,
  f240 := Tryd.lays156.f240,
  f276 := Tryd.lays156.f276,
  t0 := Tryd.lays156.t0,
  a0 := Tryd.lays156.a0,
  z0 := Tryd.lays156.z0,
  v0 := Tryd.lays156.v0,
  t3 := Tryd.lays156.t3,
  a3 := Tryd.lays156.a3,
  z3 := Tryd.lays156.z3,
  v3 := Tryd.lays156.v3,
  t4 := Tryd.lays156.t4,
  a4 := Tryd.lays156.a4,
  z4 := Tryd.lays156.z4,
  v4 := Tryd.lays156.v4,
  t9 := Tryd.lays156.t9,
  a9 := Tryd.lays156.a9,
  z9 := Tryd.lays156.z9,
  v9 := Tryd.lays156.v9,
  t20 := Tryd.lays156.t20,
  a20 := Tryd.lays156.a20,
  z20 := Tryd.lays156.z20,
  v20 := Tryd.lays156.v20,
  t37 := Tryd.lays156.t37,
  a37 := Tryd.lays156.a37,
  z37 := Tryd.lays156.z37,
  v37 := Tryd.lays156.v37,
  t70 := Tryd.lays156.t70,
  a70 := Tryd.lays156.a70,
  z70 := Tryd.lays156.z70,
  v70 := Tryd.lays156.v70,
  t72 := Tryd.lays156.t72,
  a72 := Tryd.lays156.a72,
  z72 := Tryd.lays156.z72,
  v72 := Tryd.lays156.v72,
  t75 := Tryd.lays156.t75,
  a75 := Tryd.lays156.a75,
  z75 := Tryd.lays156.z75,
  v75 := Tryd.lays156.v75,
  t164 := Tryd.lays156.t164,
  a164 := Tryd.lays156.a164,
  z164 := Tryd.lays156.z164,
  v164 := Tryd.lays156.v164 }

theorem Tryd.Builder_WriteString (B b : Nat) (bs : List Value) (s : ByteArray) (w : World) (h : Lib.IsBuilder 49 5 B b bs w) (hlen : bs.length + s.size ≤ 140737488355328) (hBw : B ≤ w.heap.size) :
    Calls Tryd.prog 25 #[.pointer (some ⟨b, 0, none⟩), .string s] w fun e w' => e = .returned (.tuple #[.int .i64 s.size, .nilIface]) ∧ (Lib.BuilderAt 49 5 B b (.pointer (some ⟨b, 0, none⟩)) (bs ++ Lib.strCells s) w' ∧ Below B w w') := Any.Builder_WriteString Tryd.lays166 Tryd.Builder_Extra_156 B b bs s w h hlen hBw

end Go.Proofs
