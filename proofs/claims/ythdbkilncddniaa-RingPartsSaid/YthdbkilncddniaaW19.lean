/- One step of the proof of a statement of this seat: plain laws and walks of the ring package; no condition. -/
import Derived.Test.YthdbkilncddniaaW18
set_option linter.unusedVariables false
set_option linter.unusedSimpArgs false
open Go.RowKit
namespace Go.Proofs.Ythdbkilncddniaa.Ring
open RingM Go.Proofs.Mem
noncomputable def mid17 : Code := match dropS 4 (Try.f17.body.getD .skip) with | .seq a _ => a | c => c

set_option maxHeartbeats 4000000 in
set_option maxRecDepth 100000 in
theorem part12 (w0 wr : World) (n : Net) (v xl xi : Nat) (K : Act → World → Prop) (Q : Exit → Act → World → Prop) (z9 z10 z11 z12 z13 z14 z15 z16 z17 z18 z19 z20 z21 z22 z23 z24 z25 z26 z27 z28 z29 z30 z31 z32 z33 z34 z35 z36 z37 z38 z39 z40 z41 z42 z43 z44 z45 z46 z47 z48 z49 z50 z51 z52 z53 z54 z55 z56 z57 z58 z59 z60 z61 z62 z63 z64 z65 z66 z67 z68 z69 z70 z71 z72 z73 z74 z75 z76 z77 z78 z79 z80 z81 z82 z83 z84 z85 z86 z87 z88 z89 z90 z91 z92 z93 z94 z95 z96 z97 z98 z99 z100 z101 z102 z103 z104 z105 z106 z107 z108 z109 z110 z111 z112 z113 z114 : Value) (hv : v < n.length) (hl : n.length ≤ 24)
    (c3 : wr.cell? ⟨w0.heap.size + 3, 0, none⟩ = some (.slice (some ⟨w0.heap.size + 2, 0, none⟩) n.length n.length))
    (c5 : wr.cell? ⟨w0.heap.size + 5, 0, none⟩ = some (.slice (some ⟨w0.heap.size + 4, 0, none⟩) n.length n.length))
    (hI : wr.cell? ⟨w0.heap.size + 2, v, none⟩ = some (.int .i64 (xi : Int))) (hL : wr.cell? ⟨w0.heap.size + 4, v, none⟩ = some (.int .i64 (xl : Int)))
    (h1 : xl ≠ xi → ∀ (y9 y10 y11 y12 y13 y14 y15 y16 y17 y18 y19 y20 y21 y22 y23 y24 y25 y26 y27 y28 y29 y30 y31 y32 y33 y34 y35 y36 y37 y38 y39 y40 y41 y42 y43 y44 y45 y46 y47 y48 y49 y50 y51 y52 y53 y54 y55 y56 y57 y58 y59 y60 y61 y62 y63 y64 y65 y66 y67 y68 y69 y70 y71 y72 y73 y74 y75 y76 y77 y78 y79 y80 y81 y82 y83 y84 y85 y86 y87 y88 y89 y90 y91 y92 y93 y94 y95 y96 y97 y98 y99 y100 y101 y102 y103 y104 y105 y106 y107 y108 y109 y110 y111 y112 y113 y114 : Value) (q : Nat), Q .ret ⟨#[.int .i64 (v : Int), ptr (w0.heap.size + 9), ptr (w0.heap.size + 3), ptr (w0.heap.size + 5), ptr (w0.heap.size + 7), ptr (w0.heap.size + 8), ptr w0.heap.size, ptr (w0.heap.size + 10), ptr (w0.heap.size + 1), y9, y10, y11, y12, y13, y14, y15, y16, y17, y18, y19, y20, y21, y22, y23, y24, y25, y26, y27, y28, y29, y30, y31, y32, y33, y34, y35, y36, y37, y38, y39, y40, y41, y42, y43, y44, y45, y46, y47, y48, y49, y50, y51, y52, y53, y54, y55, y56, y57, y58, y59, y60, y61, y62, y63, y64, y65, y66, y67, y68, y69, y70, y71, y72, y73, y74, y75, y76, y77, y78, y79, y80, y81, y82, y83, y84, y85, y86, y87, y88, y89, y90, y91, y92, y93, y94, y95, y96, y97, y98, y99, y100, y101, y102, y103, y104, y105, y106, y107, y108, y109, y110, y111, y112, y113, y114], []⟩ (wr.drewN q)) (h2 : xl = xi → ∀ (y9 y10 y11 y12 y13 y14 y15 y16 y17 y18 y19 y20 y21 y22 y23 y24 y25 y26 y27 y28 y29 y30 y31 y32 y33 y34 y35 y36 y37 y38 y39 y40 y41 y42 y43 y44 y45 y46 y47 y48 y49 y50 y51 y52 y53 y54 y55 y56 y57 y58 y59 y60 y61 y62 y63 y64 y65 y66 y67 y68 y69 y70 y71 y72 y73 y74 y75 y76 y77 y78 y79 y80 y81 y82 y83 y84 y85 y86 y87 y88 y89 y90 y91 y92 y93 y94 y95 y96 y97 y98 y99 y100 y101 y102 y103 y104 y105 y106 y107 y108 y109 y110 y111 y112 y113 y114 : Value) (q : Nat), K ⟨#[.int .i64 (v : Int), ptr (w0.heap.size + 9), ptr (w0.heap.size + 3), ptr (w0.heap.size + 5), ptr (w0.heap.size + 7), ptr (w0.heap.size + 8), ptr w0.heap.size, ptr (w0.heap.size + 10), ptr (w0.heap.size + 1), y9, y10, y11, y12, y13, y14, y15, y16, y17, y18, y19, y20, y21, y22, y23, y24, y25, y26, y27, y28, y29, y30, y31, y32, y33, y34, y35, y36, y37, y38, y39, y40, y41, y42, y43, y44, y45, y46, y47, y48, y49, y50, y51, y52, y53, y54, y55, y56, y57, y58, y59, y60, y61, y62, y63, y64, y65, y66, y67, y68, y69, y70, y71, y72, y73, y74, y75, y76, y77, y78, y79, y80, y81, y82, y83, y84, y85, y86, y87, y88, y89, y90, y91, y92, y93, y94, y95, y96, y97, y98, y99, y100, y101, y102, y103, y104, y105, y106, y107, y108, y109, y110, y111, y112, y113, y114], []⟩ (wr.drewN q)) :
    Code.wp Try.prog mid17 (Exit.then K Q) ⟨#[.int .i64 (v : Int), ptr (w0.heap.size + 9), ptr (w0.heap.size + 3), ptr (w0.heap.size + 5), ptr (w0.heap.size + 7), ptr (w0.heap.size + 8), ptr w0.heap.size, ptr (w0.heap.size + 10), ptr (w0.heap.size + 1), z9, z10, z11, z12, z13, z14, z15, z16, z17, z18, z19, z20, z21, z22, z23, z24, z25, z26, z27, z28, z29, z30, z31, z32, z33, z34, z35, z36, z37, z38, z39, z40, z41, z42, z43, z44, z45, z46, z47, z48, z49, z50, z51, z52, z53, z54, z55, z56, z57, z58, z59, z60, z61, z62, z63, z64, z65, z66, z67, z68, z69, z70, z71, z72, z73, z74, z75, z76, z77, z78, z79, z80, z81, z82, z83, z84, z85, z86, z87, z88, z89, z90, z91, z92, z93, z94, z95, z96, z97, z98, z99, z100, z101, z102, z103, z104, z105, z106, z107, z108, z109, z110, z111, z112, z113, z114], []⟩ wr := by
  by_cases he : xl = xi
  · have h2' := h2 he
    subst he
    clear h1 h2
    conv => arg 2; whnf
    go_wp2_with fail
    go_quiet (fail)
    go_wp2_with fail
    apply h2'
  · have h1' := h1 he
    have hne : ((xl : Int) != (xi : Int)) = true := by simp; omega
    clear h1 h2 he
    conv => arg 2; whnf
    go_wp2_with fail
    go_quiet (fail)
    go_wp2_with fail
    apply h1'
end Go.Proofs.Ythdbkilncddniaa.Ring
