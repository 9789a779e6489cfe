/- Arrays of known sizes, written out. huff.Lengths: its walk. -/
import Derived.Test.YtdpocnkeokplpaaQa
import Derived.Test.YtdpocnkeokplpaaQd
import Derived.Outline
import Derived.WalkMore
namespace Go.Proofs.Ytdpocnkeokplpaa
open Go.RowKit Go.Hal

theorem lit_step {n : Nat} {l : List Value} (h : l.length = n + 1) : ∃ x r, l = x :: r ∧ r.length = n := by
  cases l with
  | nil => simp at h
  | cons x r => exact ⟨x, r, rfl, by simpa using h⟩
theorem lit143 {p : Array Value → Prop} (H : ∀ u0 u1 u2 u3 u4 u5 u6 u7 u8 u9 u10 u11 u12 u13 u14 u15 u16 u17 u18 u19 u20 u21 u22 u23 u24 u25 u26 u27 u28 u29 u30 u31 u32 u33 u34 u35 u36 u37 u38 u39 u40 u41 u42 u43 u44 u45 u46 u47 u48 u49 u50 u51 u52 u53 u54 u55 u56 u57 u58 u59 u60 u61 u62 u63 u64 u65 u66 u67 u68 u69 u70 u71 u72 u73 u74 u75 u76 u77 u78 u79 u80 u81 u82 u83 u84 u85 u86 u87 u88 u89 u90 u91 u92 u93 u94 u95 u96 u97 u98 u99 u100 u101 u102 u103 u104 u105 u106 u107 u108 u109 u110 u111 u112 u113 u114 u115 u116 u117 u118 u119 u120 u121 u122 u123 u124 u125 u126 u127 u128 u129 u130 u131 u132 u133 u134 u135 u136 u137 u138 u139 u140 u141 u142, p #[u0, u1, u2, u3, u4, u5, u6, u7, u8, u9, u10, u11, u12, u13, u14, u15, u16, u17, u18, u19, u20, u21, u22, u23, u24, u25, u26, u27, u28, u29, u30, u31, u32, u33, u34, u35, u36, u37, u38, u39, u40, u41, u42, u43, u44, u45, u46, u47, u48, u49, u50, u51, u52, u53, u54, u55, u56, u57, u58, u59, u60, u61, u62, u63, u64, u65, u66, u67, u68, u69, u70, u71, u72, u73, u74, u75, u76, u77, u78, u79, u80, u81, u82, u83, u84, u85, u86, u87, u88, u89, u90, u91, u92, u93, u94, u95, u96, u97, u98, u99, u100, u101, u102, u103, u104, u105, u106, u107, u108, u109, u110, u111, u112, u113, u114, u115, u116, u117, u118, u119, u120, u121, u122, u123, u124, u125, u126, u127, u128, u129, u130, u131, u132, u133, u134, u135, u136, u137, u138, u139, u140, u141, u142]) (t : Array Value) (h : t.size = 143) : p t := by
  obtain ⟨l⟩ := t
  have h0 : l.length = 143 := h
  clear h
  obtain ⟨u0, l0, rfl, h1⟩ := lit_step h0; clear h0
  obtain ⟨u1, l1, rfl, h2⟩ := lit_step h1; clear h1
  obtain ⟨u2, l2, rfl, h3⟩ := lit_step h2; clear h2
  obtain ⟨u3, l3, rfl, h4⟩ := lit_step h3; clear h3
  obtain ⟨u4, l4, rfl, h5⟩ := lit_step h4; clear h4
  obtain ⟨u5, l5, rfl, h6⟩ := lit_step h5; clear h5
  obtain ⟨u6, l6, rfl, h7⟩ := lit_step h6; clear h6
  obtain ⟨u7, l7, rfl, h8⟩ := lit_step h7; clear h7
  obtain ⟨u8, l8, rfl, h9⟩ := lit_step h8; clear h8
  obtain ⟨u9, l9, rfl, h10⟩ := lit_step h9; clear h9
  obtain ⟨u10, l10, rfl, h11⟩ := lit_step h10; clear h10
  obtain ⟨u11, l11, rfl, h12⟩ := lit_step h11; clear h11
  obtain ⟨u12, l12, rfl, h13⟩ := lit_step h12; clear h12
  obtain ⟨u13, l13, rfl, h14⟩ := lit_step h13; clear h13
  obtain ⟨u14, l14, rfl, h15⟩ := lit_step h14; clear h14
  obtain ⟨u15, l15, rfl, h16⟩ := lit_step h15; clear h15
  obtain ⟨u16, l16, rfl, h17⟩ := lit_step h16; clear h16
  obtain ⟨u17, l17, rfl, h18⟩ := lit_step h17; clear h17
  obtain ⟨u18, l18, rfl, h19⟩ := lit_step h18; clear h18
  obtain ⟨u19, l19, rfl, h20⟩ := lit_step h19; clear h19
  obtain ⟨u20, l20, rfl, h21⟩ := lit_step h20; clear h20
  obtain ⟨u21, l21, rfl, h22⟩ := lit_step h21; clear h21
  obtain ⟨u22, l22, rfl, h23⟩ := lit_step h22; clear h22
  obtain ⟨u23, l23, rfl, h24⟩ := lit_step h23; clear h23
  obtain ⟨u24, l24, rfl, h25⟩ := lit_step h24; clear h24
  obtain ⟨u25, l25, rfl, h26⟩ := lit_step h25; clear h25
  obtain ⟨u26, l26, rfl, h27⟩ := lit_step h26; clear h26
  obtain ⟨u27, l27, rfl, h28⟩ := lit_step h27; clear h27
  obtain ⟨u28, l28, rfl, h29⟩ := lit_step h28; clear h28
  obtain ⟨u29, l29, rfl, h30⟩ := lit_step h29; clear h29
  obtain ⟨u30, l30, rfl, h31⟩ := lit_step h30; clear h30
  obtain ⟨u31, l31, rfl, h32⟩ := lit_step h31; clear h31
  obtain ⟨u32, l32, rfl, h33⟩ := lit_step h32; clear h32
  obtain ⟨u33, l33, rfl, h34⟩ := lit_step h33; clear h33
  obtain ⟨u34, l34, rfl, h35⟩ := lit_step h34; clear h34
  obtain ⟨u35, l35, rfl, h36⟩ := lit_step h35; clear h35
  obtain ⟨u36, l36, rfl, h37⟩ := lit_step h36; clear h36
  obtain ⟨u37, l37, rfl, h38⟩ := lit_step h37; clear h37
  obtain ⟨u38, l38, rfl, h39⟩ := lit_step h38; clear h38
  obtain ⟨u39, l39, rfl, h40⟩ := lit_step h39; clear h39
  obtain ⟨u40, l40, rfl, h41⟩ := lit_step h40; clear h40
  obtain ⟨u41, l41, rfl, h42⟩ := lit_step h41; clear h41
  obtain ⟨u42, l42, rfl, h43⟩ := lit_step h42; clear h42
  obtain ⟨u43, l43, rfl, h44⟩ := lit_step h43; clear h43
  obtain ⟨u44, l44, rfl, h45⟩ := lit_step h44; clear h44
  obtain ⟨u45, l45, rfl, h46⟩ := lit_step h45; clear h45
  obtain ⟨u46, l46, rfl, h47⟩ := lit_step h46; clear h46
  obtain ⟨u47, l47, rfl, h48⟩ := lit_step h47; clear h47
  obtain ⟨u48, l48, rfl, h49⟩ := lit_step h48; clear h48
  obtain ⟨u49, l49, rfl, h50⟩ := lit_step h49; clear h49
  obtain ⟨u50, l50, rfl, h51⟩ := lit_step h50; clear h50
  obtain ⟨u51, l51, rfl, h52⟩ := lit_step h51; clear h51
  obtain ⟨u52, l52, rfl, h53⟩ := lit_step h52; clear h52
  obtain ⟨u53, l53, rfl, h54⟩ := lit_step h53; clear h53
  obtain ⟨u54, l54, rfl, h55⟩ := lit_step h54; clear h54
  obtain ⟨u55, l55, rfl, h56⟩ := lit_step h55; clear h55
  obtain ⟨u56, l56, rfl, h57⟩ := lit_step h56; clear h56
  obtain ⟨u57, l57, rfl, h58⟩ := lit_step h57; clear h57
  obtain ⟨u58, l58, rfl, h59⟩ := lit_step h58; clear h58
  obtain ⟨u59, l59, rfl, h60⟩ := lit_step h59; clear h59
  obtain ⟨u60, l60, rfl, h61⟩ := lit_step h60; clear h60
  obtain ⟨u61, l61, rfl, h62⟩ := lit_step h61; clear h61
  obtain ⟨u62, l62, rfl, h63⟩ := lit_step h62; clear h62
  obtain ⟨u63, l63, rfl, h64⟩ := lit_step h63; clear h63
  obtain ⟨u64, l64, rfl, h65⟩ := lit_step h64; clear h64
  obtain ⟨u65, l65, rfl, h66⟩ := lit_step h65; clear h65
  obtain ⟨u66, l66, rfl, h67⟩ := lit_step h66; clear h66
  obtain ⟨u67, l67, rfl, h68⟩ := lit_step h67; clear h67
  obtain ⟨u68, l68, rfl, h69⟩ := lit_step h68; clear h68
  obtain ⟨u69, l69, rfl, h70⟩ := lit_step h69; clear h69
  obtain ⟨u70, l70, rfl, h71⟩ := lit_step h70; clear h70
  obtain ⟨u71, l71, rfl, h72⟩ := lit_step h71; clear h71
  obtain ⟨u72, l72, rfl, h73⟩ := lit_step h72; clear h72
  obtain ⟨u73, l73, rfl, h74⟩ := lit_step h73; clear h73
  obtain ⟨u74, l74, rfl, h75⟩ := lit_step h74; clear h74
  obtain ⟨u75, l75, rfl, h76⟩ := lit_step h75; clear h75
  obtain ⟨u76, l76, rfl, h77⟩ := lit_step h76; clear h76
  obtain ⟨u77, l77, rfl, h78⟩ := lit_step h77; clear h77
  obtain ⟨u78, l78, rfl, h79⟩ := lit_step h78; clear h78
  obtain ⟨u79, l79, rfl, h80⟩ := lit_step h79; clear h79
  obtain ⟨u80, l80, rfl, h81⟩ := lit_step h80; clear h80
  obtain ⟨u81, l81, rfl, h82⟩ := lit_step h81; clear h81
  obtain ⟨u82, l82, rfl, h83⟩ := lit_step h82; clear h82
  obtain ⟨u83, l83, rfl, h84⟩ := lit_step h83; clear h83
  obtain ⟨u84, l84, rfl, h85⟩ := lit_step h84; clear h84
  obtain ⟨u85, l85, rfl, h86⟩ := lit_step h85; clear h85
  obtain ⟨u86, l86, rfl, h87⟩ := lit_step h86; clear h86
  obtain ⟨u87, l87, rfl, h88⟩ := lit_step h87; clear h87
  obtain ⟨u88, l88, rfl, h89⟩ := lit_step h88; clear h88
  obtain ⟨u89, l89, rfl, h90⟩ := lit_step h89; clear h89
  obtain ⟨u90, l90, rfl, h91⟩ := lit_step h90; clear h90
  obtain ⟨u91, l91, rfl, h92⟩ := lit_step h91; clear h91
  obtain ⟨u92, l92, rfl, h93⟩ := lit_step h92; clear h92
  obtain ⟨u93, l93, rfl, h94⟩ := lit_step h93; clear h93
  obtain ⟨u94, l94, rfl, h95⟩ := lit_step h94; clear h94
  obtain ⟨u95, l95, rfl, h96⟩ := lit_step h95; clear h95
  obtain ⟨u96, l96, rfl, h97⟩ := lit_step h96; clear h96
  obtain ⟨u97, l97, rfl, h98⟩ := lit_step h97; clear h97
  obtain ⟨u98, l98, rfl, h99⟩ := lit_step h98; clear h98
  obtain ⟨u99, l99, rfl, h100⟩ := lit_step h99; clear h99
  obtain ⟨u100, l100, rfl, h101⟩ := lit_step h100; clear h100
  obtain ⟨u101, l101, rfl, h102⟩ := lit_step h101; clear h101
  obtain ⟨u102, l102, rfl, h103⟩ := lit_step h102; clear h102
  obtain ⟨u103, l103, rfl, h104⟩ := lit_step h103; clear h103
  obtain ⟨u104, l104, rfl, h105⟩ := lit_step h104; clear h104
  obtain ⟨u105, l105, rfl, h106⟩ := lit_step h105; clear h105
  obtain ⟨u106, l106, rfl, h107⟩ := lit_step h106; clear h106
  obtain ⟨u107, l107, rfl, h108⟩ := lit_step h107; clear h107
  obtain ⟨u108, l108, rfl, h109⟩ := lit_step h108; clear h108
  obtain ⟨u109, l109, rfl, h110⟩ := lit_step h109; clear h109
  obtain ⟨u110, l110, rfl, h111⟩ := lit_step h110; clear h110
  obtain ⟨u111, l111, rfl, h112⟩ := lit_step h111; clear h111
  obtain ⟨u112, l112, rfl, h113⟩ := lit_step h112; clear h112
  obtain ⟨u113, l113, rfl, h114⟩ := lit_step h113; clear h113
  obtain ⟨u114, l114, rfl, h115⟩ := lit_step h114; clear h114
  obtain ⟨u115, l115, rfl, h116⟩ := lit_step h115; clear h115
  obtain ⟨u116, l116, rfl, h117⟩ := lit_step h116; clear h116
  obtain ⟨u117, l117, rfl, h118⟩ := lit_step h117; clear h117
  obtain ⟨u118, l118, rfl, h119⟩ := lit_step h118; clear h118
  obtain ⟨u119, l119, rfl, h120⟩ := lit_step h119; clear h119
  obtain ⟨u120, l120, rfl, h121⟩ := lit_step h120; clear h120
  obtain ⟨u121, l121, rfl, h122⟩ := lit_step h121; clear h121
  obtain ⟨u122, l122, rfl, h123⟩ := lit_step h122; clear h122
  obtain ⟨u123, l123, rfl, h124⟩ := lit_step h123; clear h123
  obtain ⟨u124, l124, rfl, h125⟩ := lit_step h124; clear h124
  obtain ⟨u125, l125, rfl, h126⟩ := lit_step h125; clear h125
  obtain ⟨u126, l126, rfl, h127⟩ := lit_step h126; clear h126
  obtain ⟨u127, l127, rfl, h128⟩ := lit_step h127; clear h127
  obtain ⟨u128, l128, rfl, h129⟩ := lit_step h128; clear h128
  obtain ⟨u129, l129, rfl, h130⟩ := lit_step h129; clear h129
  obtain ⟨u130, l130, rfl, h131⟩ := lit_step h130; clear h130
  obtain ⟨u131, l131, rfl, h132⟩ := lit_step h131; clear h131
  obtain ⟨u132, l132, rfl, h133⟩ := lit_step h132; clear h132
  obtain ⟨u133, l133, rfl, h134⟩ := lit_step h133; clear h133
  obtain ⟨u134, l134, rfl, h135⟩ := lit_step h134; clear h134
  obtain ⟨u135, l135, rfl, h136⟩ := lit_step h135; clear h135
  obtain ⟨u136, l136, rfl, h137⟩ := lit_step h136; clear h136
  obtain ⟨u137, l137, rfl, h138⟩ := lit_step h137; clear h137
  obtain ⟨u138, l138, rfl, h139⟩ := lit_step h138; clear h138
  obtain ⟨u139, l139, rfl, h140⟩ := lit_step h139; clear h139
  obtain ⟨u140, l140, rfl, h141⟩ := lit_step h140; clear h140
  obtain ⟨u141, l141, rfl, h142⟩ := lit_step h141; clear h141
  obtain ⟨u142, l142, rfl, h143⟩ := lit_step h142; clear h142
  obtain rfl : l142 = [] := List.length_eq_zero_iff.1 h143
  exact H _ _ _ _ _ _ _ _ _ _ _ _ _ _ _ _ _ _ _ _ _ _ _ _ _ _ _ _ _ _ _ _ _ _ _ _ _ _ _ _ _ _ _ _ _ _ _ _ _ _ _ _ _ _ _ _ _ _ _ _ _ _ _ _ _ _ _ _ _ _ _ _ _ _ _ _ _ _ _ _ _ _ _ _ _ _ _ _ _ _ _ _ _ _ _ _ _ _ _ _ _ _ _ _ _ _ _ _ _ _ _ _ _ _ _ _ _ _ _ _ _ _ _ _ _ _ _ _ _ _ _ _ _ _ _ _ _ _ _ _ _ _ _

end Go.Proofs.Ytdpocnkeokplpaa

namespace Go.Proofs.Ytdpocnkeokplpaa
open Go.RowKit Go.Hal
set_option linter.unusedVariables false
set_option linter.unusedSimpArgs false

theorem sortP_eq (l : List Par) : sortP l = sortG Par.cost l := rfl

/-- A parcel with its symbols. -/
abbrev PT := Par × List Int
def pk (x : PT) : Pc := (x.1.cost, x.2)
def ent (x : PT) : Ent := ⟨3, 1, x.2.length, x.1.v, x.2.map intV⟩
def SortOk (K c : Nat) : Prop := ∀ (w : World) (v : Value) (ps : List Par) (Rs : List Res), ps.length ≤ K → (∀ p ∈ ps, 0 ≤ p.cost ∧ p.cost ≤ 1152921504606846976) → Sat w (sl 137 2 ps.length v (parC ps) :: Rs) →
  Calls Try.prog 93 #[v, .func (.func c) #[] #[]] w fun e w' => e = .returned (.tuple #[]) ∧ Sat w' (sl 137 2 ps.length v (parC (sortP ps)) :: Rs)

theorem Try.infoIntL : (Try.prog.info? 3).map (fun i => (i.zero, i.size, i.bytes)) = some (some (.int .i64 0), 1, 8) := by kernel_rfl
theorem make_ints (n : Nat) (hn : n ≤ 1048576) (w : World) : (Instr.makeSlice 28 (.int .i64 n) (.int .i64 n)).run Try.prog w =
    .ok (.slice (some ⟨w.heap.size, 0, none⟩) n n) (w.alloc (.cells (madeCells #[.int .i64 0] n) 3)) := by
  obtain ⟨i0, hi, hz0, hz1, hz2⟩ := info_parts Try.infoIntL
  have h := run_make (P := Try.prog) w 28 3 i0 _ Try.underlying28 hi hz0 .i64 .i64 n n (by omega) (by omega) (by rw [hz2]; omega) (by omega)
  rw [h, hz1]
  simp [Value.cells]
theorem madeInts (n : Nat) : ∀ (j : Nat) (u : Value), ((List.replicate n (0 : Int)).map intV)[j]? = some u → (madeCells #[.int .i64 0] n)[j]? = some u := by
  intro j u hu
  have hj : j < n := by simpa using (List.getElem?_eq_some_iff.1 hu).1
  simp [hj] at hu
  subst hu
  simp [madeCells, hj, intV, Nat.mod_one]

def LensPost (cs : List Int) (most : Nat) (Rs : List Res) (e : Ending) (w' : World) : Prop :=
  (checkM cs most = 0 ∧ ∃ v, e = .returned (.tuple #[v, .int .i64 0]) ∧ Sat w' (sl 3 1 cs.length v ((lensM cs most).map intV) :: Rs)) ∨
  (checkM cs most ≠ 0 ∧ e = .returned (.tuple #[.slice none 0 0, .int .i64 (checkM cs most)]) ∧ Sat w' Rs)

/-- What lies there between two rounds of the inner loop. -/
def LJ (T2 R : List PT) (L : List Ent) (bx : Nat) (ds : List Nat) (lr : Res) (Rs : List Res) (pre : List Value) : Res :=
  ex fun x : Value × List PT × List Ent => bag (pur (x.2.1.map pk = T2.map pk ++ pairsM ((R.map pk).take (2 * pre.length)) ∧ (∀ y ∈ x.2.1, ent y ∈ x.2.2) ∧ (∀ e ∈ L, e ∈ x.2.2)) :: blk bx (.cells #[x.1] 135 (0, 0)) ::
    sl 137 2 x.2.1.length x.1 (parC (x.2.1.map (·.1))) :: pool x.2.2 :: bag (marks ds) :: lr :: Rs)
theorem LJ_open {T2 R : List PT} {L : List Ent} {bx : Nat} {ds : List Nat} {lr : Res} {Rs Rs' : List Res} {pre : List Value} {w : World} (h : Sat w (LJ T2 R L bx ds lr Rs pre :: Rs')) :
    ∃ (v : Value) (M : List PT) (L' : List Ent), M.map pk = T2.map pk ++ pairsM ((R.map pk).take (2 * pre.length)) ∧ (∀ y ∈ M, ent y ∈ L') ∧ (∀ e ∈ L, e ∈ L') ∧
      Sat w (blk bx (.cells #[v] 135 (0, 0)) :: sl 137 2 M.length v (parC (M.map (·.1))) :: pool L' :: bag (marks ds) :: lr :: (Rs ++ Rs')) := by
  obtain ⟨⟨v, M, L'⟩, h⟩ := h.ex_out
  obtain ⟨⟨h1, h2, h3⟩, h4⟩ := (Sat.bag_out h).pur_out
  exact ⟨v, M, L', h1, h2, h3, h4⟩
theorem LJ_shut {T2 R : List PT} {L : List Ent} {bx : Nat} {ds : List Nat} {lr : Res} {Rs Rs' : List Res} {pre : List Value} {w : World} {v : Value} {M : List PT} {L' : List Ent} (h1 : M.map pk = T2.map pk ++ pairsM ((R.map pk).take (2 * pre.length))) (h2 : ∀ y ∈ M, ent y ∈ L') (h3 : ∀ e ∈ L, e ∈ L')
    (h : Sat w (blk bx (.cells #[v] 135 (0, 0)) :: sl 137 2 M.length v (parC (M.map (·.1))) :: pool L' :: bag (marks ds) :: lr :: (Rs ++ Rs'))) : Sat w (LJ T2 R L bx ds lr Rs pre :: Rs') :=
  Sat.ex_in (v, M, L') (Sat.bag_in (As := pur _ :: blk _ _ :: sl _ _ _ _ _ :: pool _ :: bag _ :: lr :: Rs) (Sat.pur_in ⟨h1, h2, h3⟩ h))

theorem LJ_open1 {T2 R : List PT} {L : List Ent} {bx : Nat} {ds : List Nat} {lr A : Res} {Rs : List Res} {pre : List Value} {w : World} (h : Sat w [A, LJ T2 R L bx ds lr Rs pre]) :
    ∃ (v : Value) (M : List PT) (L' : List Ent), M.map pk = T2.map pk ++ pairsM ((R.map pk).take (2 * pre.length)) ∧ (∀ y ∈ M, ent y ∈ L') ∧ (∀ e ∈ L, e ∈ L') ∧
      Sat w (A :: blk bx (.cells #[v] 135 (0, 0)) :: sl 137 2 M.length v (parC (M.map (·.1))) :: pool L' :: bag (marks ds) :: lr :: Rs) := by
  obtain ⟨⟨v, M, L'⟩, h⟩ := h.swap.ex_out
  obtain ⟨⟨h1, h2, h3⟩, h4⟩ := (Sat.bag_head h.swap).swap.pur_out
  exact ⟨v, M, L', h1, h2, h3, h4⟩
theorem LJ_shut1 {T2 R : List PT} {L : List Ent} {bx : Nat} {ds : List Nat} {lr A : Res} {Rs : List Res} {pre : List Value} {w : World} {v : Value} {M : List PT} {L' : List Ent} (h1 : M.map pk = T2.map pk ++ pairsM ((R.map pk).take (2 * pre.length))) (h2 : ∀ y ∈ M, ent y ∈ L') (h3 : ∀ e ∈ L, e ∈ L')
    (h : Sat w (A :: blk bx (.cells #[v] 135 (0, 0)) :: sl 137 2 M.length v (parC (M.map (·.1))) :: pool L' :: bag (marks ds) :: lr :: Rs)) : Sat w [A, LJ T2 R L bx ds lr Rs pre] :=
  Sat.swap (Sat.ex_in (v, M, L') (Sat.swap (Sat.bag_tail (Sat.swap (Sat.pur_in ⟨h1, h2, h3⟩ h)))))

theorem lens_bad {fn : Func} {cs : List Int} {most : Nat} {Rs : List Res} {w : World} {tmps : Array Value} (hr : fn.results = #[.tmp 4, .tmp 5]) (hS : Sat w Rs) (k : Nat) (hk : checkM cs most = k) (h0 : k ≠ 0) (h4 : tmps.getD 4 undef = .slice none 0 0) (h5 : tmps.getD 5 undef = .int .i64 k) :
    bodyPostM Fence.wide 0 Try.prog fn (LensPost cs most Rs) .ret { tmps := tmps, defers := [] } w := by
  refine bodyPost_marks (Rs := Rs) [] hS (fun w' hS' => ⟨_, results_tmp2 hr _ _ _, .inr ⟨by omega, ?_, hS'⟩⟩)
  rw [h4, h5, hk]

theorem lens_good {fn : Func} {cs : List Int} {most : Nat} {Rs : List Res} {w : World} {tmps : Array Value} {ds : List Nat} {v : Value} (hr : fn.results = #[.tmp 4, .tmp 5]) (hS : Sat w (marks ds ++ (sl 3 1 cs.length v ((lensM cs most).map intV) :: Rs))) (hk : checkM cs most = 0) (h4 : tmps.getD 4 undef = v) (h5 : tmps.getD 5 undef = .int .i64 0) :
    bodyPostM Fence.wide 0 Try.prog fn (LensPost cs most Rs) .ret { tmps := tmps, defers := ds.map loopMark } w := by
  refine bodyPost_marks ds hS (fun w' hS' => ⟨_, results_tmp2 hr _ _ _, .inl ⟨hk, v, ?_, hS'⟩⟩)
  rw [h4, h5]

attribute [local go_sem] Oper.semAt_some

set_option maxRecDepth 100000 in
set_option maxHeartbeats 4000000 in
theorem lengths_any (K : Nat) (h1 : SortOk K 94) (h2 : SortOk K 98) {w : World} {Rs : List Res} (hS : Sat w Rs) (v : Value) (cs : List Int) (hv : ∀ w', Sat w' Rs → IntsR w' v cs) (most : Nat) (hK : checkM cs most = 0 → 2 * (firstM cs).length ≤ K) :
    Calls Try.prog 73 #[v, .int .i64 most] w (LensPost cs most Rs) := by
  obtain ⟨ao, cap, rfl, c1, c2, -⟩ := (hv w hS).cell
  have Hv := Lib.hid hv
  have H1 := Lib.hid h1
  have H2 := Lib.hid h2
  have HK := Lib.hid hK
  clear hv h1 h2 hK
  by_cases hbad : 288 < cs.length ∨ most < 1 ∨ 15 < most
  · have hck : checkM cs most = 1 := by unfold checkM; rw [if_pos hbad]
    have Hck := Lib.hid hck
    clear hck
    refine calls_of_wp_marks Try.func73 rfl ?_
    simp only [Try.ntmps73, List.size_toArray, List.length_cons, List.length_nil, Nat.reduceAdd, Nat.reduceSub, Array.replicate_succ, Array.replicate_zero, List.push_toArray, List.append_toArray, List.nil_append, List.cons_append]
    by_cases b1 : 288 < cs.length
    · have d1 : decide (288 < cs.length) = true := decide_eq_true b1
      go_wp2
      exact lens_bad rfl hS 1 Hck.out (by omega) rfl rfl
    · have d1 : decide (288 < cs.length) = false := decide_eq_false b1
      by_cases b2 : most < 1
      · have d2 : decide (most < 1) = true := decide_eq_true b2
        go_wp2
        exact lens_bad rfl hS 1 Hck.out (by omega) rfl rfl
      · have d2 : decide (most < 1) = false := decide_eq_false b2
        have d3 : decide (15 < most) = true := decide_eq_true (by omega)
        go_wp2
        exact lens_bad rfl hS 1 Hck.out (by omega) rfl rfl
  · have hcl : cs.length ≤ 288 := by omega
    have hm1 : 1 ≤ most := by omega
    have hm15 : most ≤ 15 := by omega
    have hck : checkM cs most = if ∃ c ∈ cs, c < 0 ∨ 2147483648 < c then 1 else if 2 ^ most < (firstM cs).length then 5 else 0 := by unfold checkM; rw [if_neg hbad]
    have Hck := Lib.hid hck
    clear hck hbad
    obtain ⟨i0, hi, hz0, hz1, hz2⟩ := info_parts Try.infoParcel
    refine calls_of_wp_marks Try.func73 rfl ?_
    simp only [Try.ntmps73, List.size_toArray, List.length_cons, List.length_nil, Nat.reduceAdd, Nat.reduceSub, Array.replicate_succ, Array.replicate_zero, List.push_toArray, List.append_toArray, List.nil_append, List.cons_append]
    have d1 : decide (288 < cs.length) = false := decide_eq_false (by omega)
    have d2 : decide (most < 1) = false := decide_eq_false (by omega)
    have d3 : decide (15 < most) = false := decide_eq_false (by omega)
    go_wp2
    clear d1 d2 d3
    go_loopw [6, 30] (fun v6 i wr => ∃ (k : Nat) (T : List PT) (L : List Ent), k ≤ cs.length ∧ i = .int .i64 k ∧ Hid (T.map pk = firstM (cs.take k)) ∧ T.length ≤ k ∧ Hid (∀ x ∈ T, ent x ∈ L) ∧ Hid (∀ c ∈ cs.take k, 0 ≤ c ∧ c ≤ 2147483648) ∧
      Sat wr (sl 137 2 T.length v6 (parC (T.map (·.1))) :: pool L :: Rs)) (fun _ i _ => cs.length - (intOf i).toNat)
    case atStart =>
      refine ⟨0, [], [], by omega, rfl, ?_, by simp, ?_, ?_, (hS.pool_nil).sl_nil _ _ _⟩
      · unfold Hid; simp [firstM]
      · unfold Hid; simp
      · unfold Hid; simp
    case round =>
      obtain ⟨k, T, L, hk, rfl, HT, hTk, HL, Hcs, hS1⟩ := hrel
      have hSr : Sat wr Rs := Sat.perm (As := [_, _]) (Bs := []) hS1 [] rfl (by simp)
      by_cases hlt : k < cs.length
      · obtain ⟨ao', cap', heq, -, -, hc⟩ := (Hv.out wr hSr).cell
        simp only [Value.slice.injEq, true_and] at heq
        obtain ⟨rfl, rfl⟩ := heq
        obtain ⟨ba, oa, rfl, -, hcell⟩ := hc k hlt
        obtain ⟨x, Hx⟩ : ∃ x, Hid (x = cs[k]) := ⟨cs[k], Lib.hid rfl⟩
        rw [← Hx.out] at hcell
        have hd0 : decide (k < cs.length) = true := decide_eq_true hlt
        clear hc
        by_cases hxb : x < 0 ∨ 2147483648 < x
        · have hck : checkM cs most = 1 := by
            rw [Hck.out, if_pos ⟨x, by rw [Hx.out]; exact List.getElem_mem _, hxb⟩]
          have Hck2 := Lib.hid hck
          clear hck
          by_cases hx0 : x < 0
          · have d1 : decide (x < 0) = true := decide_eq_true hx0
            go_wp2
            exact lens_bad rfl hSr 1 Hck2.out (by omega) rfl rfl
          · have d1 : decide (x < 0) = false := decide_eq_false hx0
            have d2 : decide (2147483648 < x) = true := decide_eq_true (by omega)
            go_wp2
            exact lens_bad rfl hSr 1 Hck2.out (by omega) rfl rfl
        · have hx0 : 0 ≤ x := by omega
          have hx1 : x ≤ 2147483648 := by omega
          have d1 : decide (x < 0) = false := decide_eq_false (by omega)
          have d2 : decide (2147483648 < x) = false := decide_eq_false (by omega)
          have Hcs2 : Hid (∀ c ∈ cs.take (k + 1), 0 ≤ c ∧ c ≤ 2147483648) := by
            unfold Hid
            intro c hc
            rw [List.take_succ_eq_append_getElem hlt, List.mem_append] at hc
            rcases hc with hc | hc
            · exact Hcs.out c hc
            · simp only [List.mem_singleton] at hc
              rw [← Hx.out] at hc; omega
          have HT2 : Hid (firstM (cs.take (k + 1)) = firstM (cs.take k) ++ (if 0 < x then [(x, [(k : Int)])] else [])) := by
            unfold Hid; rw [firstM_succ cs k hlt, ← Hx.out]
          clear hxb
          by_cases hx2 : 0 < x
          · have d3 : decide (0 < x) = true := decide_eq_true hx2
            have g1 := hS1.sl_made (e := 3) (size := 1) (n := 1) (cap := 1) (cur := #[.int .i64 (k : Nat)]) (xs := [.int .i64 (k : Nat)]) (by omega) (by decide) rfl (by simp) (fun j u hu => by simpa using hu)
            have g2 := g1.sl_made (e := 137) (size := 2) (n := 1) (cap := 1) (cur := #[.int .i64 x, .slice (some ⟨wr.heap.size, 0, none⟩) 1 1]) (xs := [.int .i64 x, .slice (some ⟨wr.heap.size, 0, none⟩) 1 1]) (by omega) (by decide) rfl (by simp) (fun j u hu => by simpa using hu)
            rw [World.size_alloc] at g2
            have hsrc := SlR.src (P := Try.prog) g2.sl_read Try.underlying135 (by simp [Value.oneCell'])
            have g3 := Sat.perm (As := [_, _, _, _]) g2 [2, 1, 3] [_, _, _] rfl (by simp)
            have Hsrc := Lib.hid hsrc
            clear hsrc g1 g2
            go_wp2_with (at_builtin; refine wpList_append_sat _ rfl _ _ 135 135 rfl 137 i0 (.agg #[.int .i64 0, .slice none 0 0]) 2 32 Try.underlying135 hi hz0 hz1 hz2 rfl (by decide) T.length _ _ _ rfl g3 1 _ _ rfl Hsrc.out ?_ ?_ ?_)
            · unfold maxLen; omega
            · omega
            · intro v' w' hS'
              go_wp2
              go_roundw
              case measure => simp [intOf]; omega
              case rel =>
                refine ⟨k + 1, T ++ [(⟨x, wr.heap.size, 0, 1, 1⟩, [(k : Int)])], ⟨3, 1, 1, .slice (some ⟨wr.heap.size, 0, none⟩) 1 1, [.int .i64 (k : Nat)]⟩ :: L, by omega, by go_num, ?_, by simp; omega, ?_, Hcs2, ?_⟩
                · unfold Hid
                  rw [HT2.out, if_pos hx2, List.map_append, HT.out]
                  rfl
                · unfold Hid
                  intro y hy
                  rcases List.mem_append.1 hy with hy | hy
                  · exact List.mem_cons_of_mem _ (HL.out y hy)
                  · simp only [List.mem_singleton] at hy
                    subst hy
                    exact List.mem_cons_self
                · rw [List.length_append, List.map_append, parC_append]
                  exact (Sat.pool_add (Sat.perm (As := [_, _, _]) hS' [1, 2, 0] [_, _, _] rfl (by simp))).swap
          · obtain rfl : x = 0 := by omega
            have d3 : decide ((0 : Int) < 0) = false := by simp
            go_wp2
            go_roundw
            case measure => simp [intOf]; omega
            case rel =>
              refine ⟨k + 1, T, L, by omega, by go_num, ?_, by omega, HL, Hcs2, hS1⟩
              unfold Hid
              rw [HT2.out, if_neg hx2, List.append_nil, HT.out]
      · obtain rfl : k = cs.length := by omega
        rw [List.take_length] at HT Hcs
        have hd0 : decide (cs.length < cs.length) = false := by simp
        obtain ⟨F6, ao6, cap6, rfl, k6, k7, -, -⟩ := hS1.first
        unfold maxLen at k7
        obtain ⟨M, HM⟩ : ∃ M : Nat, Hid (M = 2 ^ most) := ⟨_, Lib.hid rfl⟩
        have hM2 : M ≤ 32768 := by
          rw [HM.out]
          exact Nat.le_trans (Nat.pow_le_pow_right (by omega) hm15) (by decide)
        have hpow : wrap64 ((2 : Int) ^ most) = (M : Nat) := by
          have e : (2 : Int) ^ most = ((2 ^ most : Nat) : Int) := by simp
          rw [e, ← HM.out, wrap64_id _ (by omega) (by omega)]
        have hlenT : T.length = (firstM cs).length := by rw [← HT.out]; simp
        have Hlen := Lib.hid hlenT
        have hok : ¬ ∃ c ∈ cs, c < 0 ∨ 2147483648 < c := by
          rintro ⟨c, hc, hb⟩
          have := Hcs.out c hc
          omega
        have hck : checkM cs most = if M < T.length then 5 else 0 := by
          rw [Hck.out, if_neg hok, hlenT, HM.out]
        have Hck2 := Lib.hid hck
        clear hlenT hok hck
        by_cases hbig : M < T.length
        · have hck : checkM cs most = 5 := by rw [Hck2.out, if_pos hbig]
          have Hck3 := Lib.hid hck
          have d1 : decide (M < T.length) = true := decide_eq_true hbig
          clear hck
          go_wp2
          exact lens_bad rfl hSr 5 Hck3.out (by omega) rfl rfl
        · have d1 : decide (M < T.length) = false := decide_eq_false hbig
          have hck : checkM cs most = 0 := by rw [Hck2.out, if_neg hbig]
          have hKT : 2 * T.length ≤ K := by rw [Hlen.out]; exact HK.out hck
          have Hck3 := Lib.hid hck
          have hmk := make_ints cs.length (by omega) wr
          clear hck
          have hS2 : Sat (wr.alloc (.cells (madeCells #[.int .i64 0] cs.length) 3)) (sl 3 1 cs.length (.slice (some ⟨wr.heap.size, 0, none⟩) cs.length cs.length) ((countM cs.length []).map intV) :: sl 137 2 T.length (.slice ao6 T.length cap6) (parC (T.map (·.1))) :: pool L :: Rs) := by
            refine hS1.sl_made (Nat.le_refl _) (by unfold maxLen; omega) (by simp [countM]) (by rw [size_madeCells]; omega) (fun j u hu => ?_)
            rw [countM_nil] at hu
            exact madeInts _ j u hu
          generalize (wr.alloc (.cells (madeCells #[.int .i64 0] cs.length) 3)) = W2 at hmk hS2
          generalize wr.heap.size = bl at hmk hS2
          by_cases hone : T.length = 1
          · obtain ⟨x, rfl⟩ : ∃ x, T = [x] := List.length_eq_one_iff.1 hone
            obtain ⟨s, hs, hxs⟩ := firstM_one cs (pk x) (by rw [← HT.out]; simp)
            have hfl : (firstM cs).flatMap (·.2) = [] ++ [(s : Int)] := by rw [← HT.out]; simpa using hxs
            have Hfl := Lib.hid hfl
            have hr := (hS2.front 2 _ rfl).pool_read (HL.out x (by simp))
            have hx2 : x.2 = [(s : Int)] := hxs
            unfold ent at hr
            simp only [hx2, List.length_cons, List.length_nil, List.map_cons, List.map_nil] at hr
            obtain ⟨aox, capx, hvx, -, -, -, hcx⟩ := hr
            unfold Par.v at hvx
            simp only [Value.slice.injEq] at hvx
            obtain ⟨rfl, hnx, rfl⟩ := hvx
            obtain ⟨bx, ox, hex, -, hcx⟩ := hcx (by simp)
            simp only [Option.some.injEq, Addr.mk.injEq, and_true] at hex
            have hcx0 := hcx 0 _ rfl
            rw [← hex.1, ← hex.2] at hcx0
            simp only [intV, Nat.add_zero] at hcx0
            obtain ⟨b6, o6, cap6', heq, -, -, hb6, hc6, hf6⟩ := (hS2.front 1 _ rfl).sl_cells (by simp)
            simp only [List.length_cons, List.length_nil, Value.slice.injEq, true_and] at heq
            obtain ⟨rfl, rfl⟩ := heq
            have hc1 := hc6 1 _ rfl
            unfold Par.v at hc1
            rw [hnx] at hc1
            obtain ⟨bl', ol', capl', heq, -, -, hbl, hcl', hfl'⟩ := hS2.sl_cells (by omega)
            simp only [Value.slice.injEq, Option.some.injEq, Addr.mk.injEq, and_true, true_and] at heq
            obtain ⟨⟨rfl, rfl⟩, rfl⟩ := heq
            have hcs := hcl' s _ (by rw [List.getElem?_map, countM_get _ _ _ hs]; rfl)
            have hfs := hfl' s
            have hset := hS2.sl_set s (by simp [countM_length]; exact hs) (.int .i64 1)
            have Hset := Lib.hid hset
            have Hf := Lib.hid hfl'
            simp only [Nat.zero_add] at hcs hfs
            have hs0 : (s : Int) < cs.length := by omega
            clear hcx hex hnx hc6 hf6 hcl' hset hxs hfl hx2 hfl'
            go_wp2
            have lens_e : lensM cs most = (countM cs.length []).set s 1 := by
              unfold lensM
              have h1 : (firstM cs).length = 1 := by rw [← Hlen.out]; rfl
              rw [if_pos h1, Hfl.out, countM_snoc _ _ _ hs]
              simp
            refine lens_good (ds := []) rfl ?_ Hck3.out rfl rfl
            have hS' := Hset.out
            rw [Nat.zero_add] at hS'
            rw [lens_e, List.map_set]
            exact Sat.perm (As := [_, _, _]) hS' [0] [_] rfl (by simp)
          · have d2 : ((T.length : Int) == 1) = false := by simp; omega
            obtain ⟨T2, HT2⟩ : ∃ T2, Hid (T2 = sortG (fun x : PT => x.1.cost) T) := ⟨_, Lib.hid rfl⟩
            have hT2l : T2.length = T.length := by rw [HT2.out, sortG_length]
            have hT2p : T2.map pk = sortG Prod.fst (firstM cs) := by rw [HT2.out, sortG_map pk (fun x : PT => x.1.cost) Prod.fst (fun _ => rfl), HT.out]
            have hT2s : sortP (T.map (·.1)) = T2.map (·.1) := by rw [sortP_eq, HT2.out, sortG_map (fun x : PT => x.1) (fun x : PT => x.1.cost) Par.cost (fun _ => rfl)]
            have hT2L : ∀ x ∈ T2, ent x ∈ L := by
              intro x hx
              rw [HT2.out, mem_sortG] at hx
              exact HL.out x hx
            have hTc : ∀ p ∈ T.map (·.1), 0 ≤ p.cost ∧ p.cost ≤ 1152921504606846976 := by
              intro p hp
              obtain ⟨x, hx, rfl⟩ := List.mem_map.1 hp
              have := firstM_ok cs (fun c hc => (Hcs.out c hc).2) (pk x) (by rw [← HT.out]; exact List.mem_map.2 ⟨x, hx, rfl⟩)
              exact ⟨this.1, Int.le_trans this.2.1 (by decide)⟩
            have hsort := H1.out W2 (.slice ao6 T.length cap6) (T.map (·.1)) (sl 3 1 cs.length (.slice (some ⟨bl, 0, none⟩) cs.length cs.length) ((countM cs.length []).map intV) :: pool L :: Rs) (by simp; omega) hTc (by rw [List.length_map]; exact hS2.swap)
            rw [hT2s] at hsort
            simp only [List.length_map] at hsort
            have Hsort := Lib.hid hsort
            have HT2l := Lib.hid hT2l
            have HT2p := Lib.hid hT2p
            have HT2L := Lib.hid hT2L
            clear hT2l hT2p hT2s hT2L hTc hsort
            go_wp2_with (go_at_call 93; refine Hsort.out.mono ?_; rintro e W3 ⟨rfl, hS3⟩)
            refine wp_loop_ghost_k (fun g a w => ∃ (tmps : Array Value) (ds : List Nat) (k : Nat) (R : List PT) (L : List Ent) (v10 : Value), a = { tmps := tmps, defers := ds.map loopMark } ∧ tmps.size = 143 ∧
              tmps.getD 6 undef = .slice ao6 T.length cap6 ∧ tmps.getD 9 undef = .slice (some ⟨bl, 0, none⟩) cs.length cs.length ∧ tmps.getD 10 undef = v10 ∧ tmps.getD 76 undef = .int .i64 ((most : Int) - 1) ∧ tmps.getD 77 undef = .int .i64 (k : Nat) ∧ g + k = most - 1 ∧
              R.map pk = rowM (sortG Prod.fst (firstM cs)) k ∧ (∀ x ∈ R, ent x ∈ L) ∧ (⟨137, 2, R.length, v10, parC (R.map (·.1))⟩ : Ent) ∈ L ∧ (⟨137, 2, T.length, .slice ao6 T.length cap6, parC (T2.map (·.1))⟩ : Ent) ∈ L ∧ (∀ x ∈ T2, ent x ∈ L) ∧
              Sat w (bag (marks ds) :: sl 3 1 cs.length (.slice (some ⟨bl, 0, none⟩) cs.length cs.length) ((countM cs.length []).map intV) :: pool L :: Rs)) (most - 1) ?start ?round
            case start =>
              refine ⟨_, [], 0, T2, ⟨137, 2, T.length, .slice ao6 T.length cap6, parC (T2.map (·.1))⟩ :: L, .slice ao6 T.length cap6, rfl, rfl, rfl, rfl, rfl, rfl, rfl, by omega, HT2p.out, fun x hx => List.mem_cons_of_mem _ (HT2L.out x hx), by rw [HT2l.out]; exact List.mem_cons_self, List.mem_cons_self, fun x hx => List.mem_cons_of_mem _ (HT2L.out x hx), ?_⟩
              exact Sat.bag_in (As := []) (Sat.pool_add (Sat.perm (As := [_, _, _]) hS3 [0, 2, 1] [_, _, _] rfl (by simp))).swap
            case round =>
              rintro g a w ⟨tmps, ds, k, R, L, v10, rfl, hsz, h6, h9, h10, h76, h77, hgk, hR, hRL, hRr, hTr, hT2L, hS4⟩
              intro J K' hJ hK'
              revert h6 h9 h10 h76 h77
              revert tmps
              refine lit143 ?_
              intro u0 u1 u2 u3 u4 u5 u6 u7 u8 u9 u10 u11 u12 u13 u14 u15 u16 u17 u18 u19 u20 u21 u22 u23 u24 u25 u26 u27 u28 u29 u30 u31 u32 u33 u34 u35 u36 u37 u38 u39 u40 u41 u42 u43 u44 u45 u46 u47 u48 u49 u50 u51 u52 u53 u54 u55 u56 u57 u58 u59 u60 u61 u62 u63 u64 u65 u66 u67 u68 u69 u70 u71 u72 u73 u74 u75 u76 u77 u78 u79 u80 u81 u82 u83 u84 u85 u86 u87 u88 u89 u90 u91 u92 u93 u94 u95 u96 u97 u98 u99 u100 u101 u102 u103 u104 u105 u106 u107 u108 u109 u110 u111 u112 u113 u114 u115 u116 u117 u118 u119 u120 u121 u122 u123 u124 u125 u126 u127 u128 u129 u130 u131 u132 u133 u134 u135 u136 u137 u138 u139 u140 u141 u142 h6 h9 h10 h76 h77
              obtain rfl : u6 = .slice ao6 T.length cap6 := h6
              obtain rfl : u9 = .slice (some ⟨bl, 0, none⟩) cs.length cs.length := h9
              obtain rfl : u10 = v10 := h10
              obtain rfl : u76 = .int .i64 ((most : Int) - 1) := h76
              obtain rfl : u77 = .int .i64 (k : Nat) := h77
              have HR := Lib.hid hR
              have HRL := Lib.hid hRL
              have HRr := Lib.hid hRr
              have HTr := Lib.hid hTr
              have HT2L := Lib.hid hT2L
              clear hR hRL hRr hTr hT2L
              by_cases hkm : k < most - 1
              · have hd : decide ((k : Int) < (most : Int) - 1) = true := decide_eq_true (by omega)
                obtain ⟨ao10, cap10, hv10, k10, m10, -, hc10⟩ := (hS4.front 2 _ rfl).pool_read HRr.out
                simp only at hv10 k10 hc10
                subst hv10
                have hRlen : R.length ≤ 2 * T.length := by
                  have h1 := rowM_length (sortG Prod.fst (firstM cs)) k
                  rw [← HR.out, List.length_map, sortG_length, ← Hlen.out] at h1
                  exact h1
                have hcl := cloneP hS4 (fun w' h => (h.front 2 _ rfl).pool_read HTr.out) (parC_one _) (by show T.length ≤ 1048576; omega)
                simp only at hcl
                have Hcl := Lib.hid hcl
                have Hc10 := Lib.hid hc10
                clear hcl hc10
                go_wp2
                go_step3
                go_wp2_with (go_at_call 95; refine Hcl.out.mono ?_; rintro e w5 ⟨vm, rfl, hS5⟩; obtain ⟨Fm, aom, capm, rfl, -, -, -, -⟩ := hS5.first)
                go_step3
                go_wp2_with (go_at_call 96; refine (chunkP (hS5.alloc _) ao10 R.length cap10 2 (by omega)).mono ?_; rintro e w6 ⟨bs, bn, rfl, hS6⟩)
                obtain ⟨b10, o10, hao⟩ : ∃ b o, 0 < R.length → ao10 = some ⟨b, o, none⟩ := by
                  rcases Nat.eq_zero_or_pos R.length with h0 | h0
                  · exact ⟨0, 0, fun h => by omega⟩
                  · obtain ⟨b, o, h1, -⟩ := Hc10.out (by omega)
                    exact ⟨b, o, fun _ => h1⟩
                unfold maxLen at m10
                refine wp_rangeFunc_sat1 83 12 rfl (enters_of Try.func107 (by kernel_rfl) rfl) (chunk1_seq ao10 b10 o10 2 R.length cap10 bs bn hao (by omega) k10 m10 (by omega) (by omega))
                  (LJ T2 R L w5.heap.size ds (sl 3 1 cs.length (.slice (some ⟨bl, 0, none⟩) cs.length cs.length) ((countM cs.length []).map intV)) Rs) (fun _ _ => pur False) ?init ?assign ?body ?done ?stop
                case init =>
                  refine LJ_shut1 (v := .slice aom T.length capm) (M := T2) (L' := L) (by simp [pairsM]) HT2L.out (fun e he => he) ?_
                  rw [HT2l.out]
                  exact Sat.perm (As := [_, _, _, _, _, _]) hS6 [0, 1, 2, 5, 3, 4] [_, _, _, _, _, _] rfl (by simp)
                case assign =>
                  intro l x W K hK
                  gi_wp2
                  exact hK
                case body =>
                  intro l pre x hpre W Rs' hW
                  obtain ⟨hj, rfl⟩ := piece_at (by omega) hpre
                  have Hpre := Lib.hid hpre
                  clear hpre
                  obtain ⟨v, M, L', hM, hML, hLL, hW2⟩ := LJ_open hW
                  obtain ⟨Fv, aov, capv, rfl, -, -, -, -⟩ := hW2.at_ 1 _ rfl
                  have hRr := HRr.out
                  obtain ⟨aoR, capR, heq, -, -, -, hcR⟩ := (hW2.front 2 _ rfl).pool_read (hLL _ HRr.out)
                  simp only [Value.slice.injEq, true_and] at heq
                  obtain ⟨rfl, rfl⟩ := heq
                  obtain rfl := hao (by omega)
                  obtain ⟨bR, oR, heq, hbR, hcR⟩ := hcR (by show 0 < R.length * 2; omega)
                  simp only [Option.some.injEq, Addr.mk.injEq, and_true] at heq
                  obtain ⟨rfl, rfl⟩ := heq
                  simp only at hcR
                  have hbx := (hW2.at_ 0 _ rfl).choose_spec.2
                  have qb : W.cell? ⟨w5.heap.size, 0, none⟩ = some (.slice aov M.length capv) := by rw [cell_of_row W _ 0 _ _ _ hbx]; rfl
                  have fb := frozen_of_row W w5.heap.size 0 _ _ hbx
                  have HM1 := Lib.hid hM
                  have HML := Lib.hid hML
                  have HLL := Lib.hid hLL
                  simp only [List.setIfInBounds_toArray, List.set_cons_zero, List.set_cons_succ]
                  by_cases hfull : pre.length * 2 + 1 < R.length
                  · have hm : min 2 (R.length - pre.length * 2) = 2 := by omega
                    obtain ⟨x, hx⟩ : ∃ x, R[2 * pre.length]? = some x := ⟨_, List.getElem?_eq_getElem (by omega)⟩
                    obtain ⟨y, hy⟩ : ∃ y, R[2 * pre.length + 1]? = some y := ⟨_, List.getElem?_eq_getElem (by omega)⟩
                    obtain ⟨g1, g2⟩ := parC_get' (ps := R.map (·.1)) (s := 2 * pre.length) (p := x.1) (by rw [List.getElem?_map, hx]; rfl)
                    obtain ⟨g3, g4⟩ := parC_get' (ps := R.map (·.1)) (s := 2 * pre.length + 1) (p := y.1) (by rw [List.getElem?_map, hy]; rfl)
                    have c1 := hcR _ _ g1
                    have c2 := hcR _ _ g2
                    have c3 := hcR _ _ g3
                    have c4 := hcR _ _ g4
                    obtain ⟨q, hq⟩ : ∃ q, q = o10 + pre.length * 2 * 2 := ⟨_, rfl⟩
                    rw [show o10 + 2 * pre.length * 2 = q by omega] at c1
                    rw [show o10 + (2 * pre.length * 2 + 1) = q + 1 by omega] at c2
                    rw [show o10 + (2 * pre.length + 1) * 2 = q + 2 by omega] at c3
                    rw [show o10 + ((2 * pre.length + 1) * 2 + 1) = q + 2 + 1 by omega] at c4
                    rw [hm, ← hq]
                    have Hq := Lib.hid hq
                    have hokx := rowM_ok cs.length (sortG Prod.fst (firstM cs)) (fun p hp => firstM_ok cs (fun c hc => (Hcs.out c hc).2) p ((mem_sortG _ _ _).1 hp)) k (pk x) (by rw [← HR.out]; exact List.mem_map.2 ⟨x, List.mem_of_getElem? hx, rfl⟩)
                    have hoky := rowM_ok cs.length (sortG Prod.fst (firstM cs)) (fun p hp => firstM_ok cs (fun c hc => (Hcs.out c hc).2) p ((mem_sortG _ _ _).1 hp)) k (pk y) (by rw [← HR.out]; exact List.mem_map.2 ⟨y, List.mem_of_getElem? hy, rfl⟩)
                    have hp1 : 2 ^ k ≤ 2 ^ 15 := Nat.pow_le_pow_right (by omega) (by omega)
                    have hp2 : (2 : Int) ^ k ≤ 32768 := by exact_mod_cast hp1
                    obtain ⟨hx1, hx2, ⟨hx3, hx4⟩, -⟩ := hokx
                    obtain ⟨hy1, hy2, ⟨hy3, hy4⟩, -⟩ := hoky
                    unfold pk at hx1 hx2 hx3 hx4 hy1 hy2 hy3 hy4
                    simp only at hx1 hx2 hx3 hx4 hy1 hy2 hy3 hy4
                    have hx5 : x.1.cost ≤ 70368744177664 := by omega
                    have hy5 : y.1.cost ≤ 70368744177664 := by omega
                    have hxl : x.2.length ≤ 32768 := by omega
                    have hyl : y.2.length ≤ 32768 := by omega
                    have hMlen : M.length ≤ 2 * T.length := by
                      have h1 := congrArg List.length hM
                      rw [List.length_map, List.length_append, List.length_map, pairsM_length, List.length_take, List.length_map, HT2l.out] at h1
                      omega
                    have hentx : ent x ∈ L' := hLL _ (HRL.out x (List.mem_of_getElem? hx))
                    have henty : ent y ∈ L' := hLL _ (HRL.out y (List.mem_of_getElem? hy))
                    have Hx := Lib.hid hx
                    have Hy := Lib.hid hy
                    have Hentx := Lib.hid hentx
                    have Henty := Lib.hid henty
                    have hA1 := hW2.drew.sl_made (e := 28) (size := 1) (n := 2) (cap := 2) (cur := #[.slice (some ⟨x.1.b, x.1.off, none⟩) x.1.n x.1.cap, .slice (some ⟨y.1.b, y.1.off, none⟩) y.1.n y.1.cap]) (xs := [x.1.v, y.1.v]) (by omega) (by decide) rfl (by simp) (fun j u hu => by unfold Par.v at hu; simpa using hu)
                    have hcc := concatI hA1 (.slice (some ⟨W.drew.heap.size, 0, none⟩) 2 2) [(x.1.v, x.2), (y.1.v, y.2)] (fun w' h => (h.front 0 _ rfl).sl_read) (fun w' h p hp => by
                      rcases List.mem_cons.1 hp with rfl | hp
                      · exact (h.front 3 _ rfl).pool_read hentx
                      · simp only [List.mem_singleton] at hp
                        subst hp
                        exact (h.front 3 _ rfl).pool_read henty) (by simp [catI]; omega) (by simp)
                    have hxyl : (x.2 ++ y.2).length = x.2.length + y.2.length := List.length_append
                    have hbW : w5.heap.size < W.heap.size := (Array.getElem?_eq_some_iff.1 (hW2.at_ 0 _ rfl).choose_spec.2).1
                    have hcat : catI [(x.1.v, x.2), (y.1.v, y.2)] = x.2 ++ y.2 := by simp [catI]
                    rw [hcat, List.length_append] at hcc
                    have Hcc := Lib.hid hcc
                    clear hx hy hentx henty hcc hcat hA1 hp1 hp2 hx2 hy2 hx4 hy4
                    clear hm hq g1 g2 g3 g4 hcR hbx hM hML hLL hRr
                    gi_wp2
                    have hwr : IntKind.i64.wrap (x.1.cost + y.1.cost) = x.1.cost + y.1.cost := i64_id _ (by omega) (by omega)
                    have hSf : ∀ (w' : World), Sat w' [blk w5.heap.size (.cells #[.slice aov M.length capv] 135 (0, 0)), pool L'] → (fun w' => w'.cell? ⟨w5.heap.size, 0, none⟩ = some (.slice aov M.length capv) ∧ w'.cell? ⟨b10, q, none⟩ = some (.int .i64 x.1.cost) ∧ w'.cell? ⟨b10, q + 1, none⟩ = some (.slice (some ⟨x.1.b, x.1.off, none⟩) x.1.n x.1.cap) ∧ w'.cell? ⟨b10, q + 2, none⟩ = some (.int .i64 y.1.cost) ∧ w'.cell? ⟨b10, q + 2 + 1, none⟩ = some (.slice (some ⟨y.1.b, y.1.off, none⟩) y.1.n y.1.cap)) w' := by
                      intro w' h
                      have hbx' := (h.at_ 0 _ rfl).choose_spec.2
                      obtain ⟨aoR, capR, heq, -, -, -, hcR⟩ := (h.front 1 _ rfl).pool_read (HLL.out _ HRr.out)
                      simp only [Value.slice.injEq, true_and] at heq
                      obtain ⟨rfl, rfl⟩ := heq
                      obtain ⟨bR, oR, heq, -, hcR⟩ := hcR (by show 0 < R.length * 2; omega)
                      simp only [Option.some.injEq, Addr.mk.injEq, and_true] at heq
                      obtain ⟨rfl, rfl⟩ := heq
                      simp only at hcR
                      obtain ⟨g1, g2⟩ := parC_get' (ps := R.map (·.1)) (s := 2 * pre.length) (p := x.1) (by rw [List.getElem?_map, Hx.out]; rfl)
                      obtain ⟨g3, g4⟩ := parC_get' (ps := R.map (·.1)) (s := 2 * pre.length + 1) (p := y.1) (by rw [List.getElem?_map, Hy.out]; rfl)
                      have e1 := hcR _ _ g1
                      have e2 := hcR _ _ g2
                      have e3 := hcR _ _ g3
                      have e4 := hcR _ _ g4
                      have hq := Hq.out
                      rw [show o10 + 2 * pre.length * 2 = q by omega] at e1
                      rw [show o10 + (2 * pre.length * 2 + 1) = q + 1 by omega] at e2
                      rw [show o10 + (2 * pre.length + 1) * 2 = q + 2 by omega] at e3
                      rw [show o10 + ((2 * pre.length + 1) * 2 + 1) = q + 2 + 1 by omega] at e4
                      exact ⟨by rw [cell_of_row w' _ 0 _ _ _ hbx']; rfl, e1, e2, e3, e4⟩
                    have HSf := Lib.hid hSf
                    clear hSf
                    refine wpIn_region_hz (z := 23) (S := fun w' => w'.cell? ⟨w5.heap.size, 0, none⟩ = some (.slice aov M.length capv) ∧ w'.cell? ⟨b10, q, none⟩ = some (.int .i64 x.1.cost) ∧ w'.cell? ⟨b10, q + 1, none⟩ = some (.slice (some ⟨x.1.b, x.1.off, none⟩) x.1.n x.1.cap) ∧ w'.cell? ⟨b10, q + 2, none⟩ = some (.int .i64 y.1.cost) ∧ w'.cell? ⟨b10, q + 2 + 1, none⟩ = some (.slice (some ⟨y.1.b, y.1.off, none⟩) y.1.n y.1.cap)) (by kernel_rfl) (by kernel_rfl) (fun a w h => h) ⟨qb, c1, c2, c3, c4⟩ (fun hHeld => ?_)
                    refine wpHz_taken 0 87 ?v1 (by kernel_rfl) (by kernel_rfl) (by kernel_rfl) (by kernel_rfl) (by kernel_rfl) (fun _ _ _ h => h) (by rfl) ?hy1 (by assumption) ?rest1
                    case hy1 => intro w hSw; (try dsimp only at hSw); simp only [List.getElem?_toArray, List.getElem?_cons_zero, List.getElem?_cons_succ]; go_simp; (try with_reducible rfl)
                    try simp only [Act.put, List.setIfInBounds_toArray, List.set_cons_zero, List.set_cons_succ]
                    refine wpHz_taken 1 88 ?v2 (by kernel_rfl) (by kernel_rfl) (by kernel_rfl) (by kernel_rfl) (by kernel_rfl) (fun _ _ _ h => h) (by rfl) ?hy2 (by assumption) ?rest2
                    case hy2 => intro w hSw; (try dsimp only at hSw); simp only [List.getElem?_toArray, List.getElem?_cons_zero, List.getElem?_cons_succ]; go_simp; (try with_reducible rfl)
                    try simp only [Act.put, List.setIfInBounds_toArray, List.set_cons_zero, List.set_cons_succ]
                    refine wpHz_taken 2 89 ?v3 (by kernel_rfl) (by kernel_rfl) (by kernel_rfl) (by kernel_rfl) (by kernel_rfl) (fun _ _ _ h => h) (by rfl) ?hy3 (by assumption) ?rest3
                    case hy3 => intro w hSw; (try dsimp only at hSw); simp only [List.getElem?_toArray, List.getElem?_cons_zero, List.getElem?_cons_succ]; go_simp; (try with_reducible rfl)
                    try simp only [Act.put, List.setIfInBounds_toArray, List.set_cons_zero, List.set_cons_succ]
                    refine wpHz_taken 3 90 ?v4 (by kernel_rfl) (by kernel_rfl) (by kernel_rfl) (by kernel_rfl) (by kernel_rfl) (fun _ _ _ h => h) (by rfl) ?hy4 (by assumption) ?rest4
                    case hy4 => intro w hSw; (try dsimp only at hSw); simp only [List.getElem?_toArray, List.getElem?_cons_zero, List.getElem?_cons_succ]; go_simp; (try with_reducible rfl)
                    try simp only [Act.put, List.setIfInBounds_toArray, List.set_cons_zero, List.set_cons_succ]
                    refine wpHz_taken 4 91 ?v5 (by kernel_rfl) (by kernel_rfl) (by kernel_rfl) (by kernel_rfl) (by kernel_rfl) (fun _ _ _ h => h) (by rfl) ?hy5 (by assumption) ?rest5
                    case hy5 => intro w hSw; (try dsimp only at hSw); simp only [List.getElem?_toArray, List.getElem?_cons_zero, List.getElem?_cons_succ]; go_simp; (try with_reducible rfl)
                    try simp only [Act.put, List.setIfInBounds_toArray, List.set_cons_zero, List.set_cons_succ]
                    refine wpHz_taken 5 92 ?v6 (by kernel_rfl) (by kernel_rfl) (by kernel_rfl) (by kernel_rfl) (by kernel_rfl) (fun _ _ _ h => h) (by rfl) ?hy6 (by assumption) ?rest6
                    case hy6 => intro w hSw; (try dsimp only at hSw); simp only [List.getElem?_toArray, List.getElem?_cons_zero, List.getElem?_cons_succ]; go_simp; (try with_reducible rfl)
                    try simp only [Act.put, List.setIfInBounds_toArray, List.set_cons_zero, List.set_cons_succ]
                    refine wpHz_taken 6 93 ?v7 (by kernel_rfl) (by kernel_rfl) (by kernel_rfl) (by kernel_rfl) (by kernel_rfl) (fun _ _ _ h => h) (by rfl) ?hy7 (by assumption) ?rest7
                    case hy7 => intro w hSw; (try dsimp only at hSw); simp only [List.getElem?_toArray, List.getElem?_cons_zero, List.getElem?_cons_succ]; go_simp; (try with_reducible rfl)
                    try simp only [Act.put, List.setIfInBounds_toArray, List.set_cons_zero, List.set_cons_succ]
                    refine wpHz_taken 7 94 ?v8 (by kernel_rfl) (by kernel_rfl) (by kernel_rfl) (by kernel_rfl) (by kernel_rfl) (fun _ _ _ h => h) (by rfl) ?hy8 (by assumption) ?rest8
                    case hy8 => intro w hSw; (try dsimp only at hSw); simp only [List.getElem?_toArray, List.getElem?_cons_zero, List.getElem?_cons_succ]; go_simp; (try with_reducible rfl)
                    try simp only [Act.put, List.setIfInBounds_toArray, List.set_cons_zero, List.set_cons_succ]
                    refine wpHz_taken 8 95 ?v9 (by kernel_rfl) (by kernel_rfl) (by kernel_rfl) (by kernel_rfl) (by kernel_rfl) (fun _ _ _ h => h) (by rfl) ?hy9 (by assumption) ?rest9
                    case hy9 => intro w hSw; (try dsimp only at hSw); simp only [List.getElem?_toArray, List.getElem?_cons_zero, List.getElem?_cons_succ]; go_simp; (try with_reducible rfl)
                    try simp only [Act.put, List.setIfInBounds_toArray, List.set_cons_zero, List.set_cons_succ]
                    refine wpHz_taken 9 96 ?v10 (by kernel_rfl) (by kernel_rfl) (by kernel_rfl) (by kernel_rfl) (by kernel_rfl) (fun _ _ _ h => h) (by rfl) ?hy10 (by assumption) ?rest10
                    case hy10 => intro w hSw; (try dsimp only at hSw); simp only [List.getElem?_toArray, List.getElem?_cons_zero, List.getElem?_cons_succ]; go_simp; (try with_reducible rfl)
                    try simp only [Act.put, List.setIfInBounds_toArray, List.set_cons_zero, List.set_cons_succ]
                    refine wpHz_taken 10 97 ?v11 (by kernel_rfl) (by kernel_rfl) (by kernel_rfl) (by kernel_rfl) (by kernel_rfl) (fun _ _ _ h => h) (by rfl) ?hy11 (by assumption) ?rest11
                    case hy11 => intro w hSw; (try dsimp only at hSw); simp only [List.getElem?_toArray, List.getElem?_cons_zero, List.getElem?_cons_succ]; go_simp; (try with_reducible rfl)
                    try simp only [Act.put, List.setIfInBounds_toArray, List.set_cons_zero, List.set_cons_succ]
                    refine wpHz_taken 11 98 ?v12 (by kernel_rfl) (by kernel_rfl) (by kernel_rfl) (by kernel_rfl) (by kernel_rfl) (fun _ _ _ h => h) (by rfl) ?hy12 (by assumption) ?rest12
                    case hy12 => intro w hSw; (try dsimp only at hSw); simp only [List.getElem?_toArray, List.getElem?_cons_zero, List.getElem?_cons_succ]; go_simp; (try with_reducible rfl)
                    try simp only [Act.put, List.setIfInBounds_toArray, List.set_cons_zero, List.set_cons_succ]
                    refine wpHz_taken 12 99 ?v13 (by kernel_rfl) (by kernel_rfl) (by kernel_rfl) (by kernel_rfl) (by kernel_rfl) (fun _ _ _ h => h) (by rfl) ?hy13 (by assumption) ?rest13
                    case hy13 => intro w hSw; (try dsimp only at hSw); simp only [List.getElem?_toArray, List.getElem?_cons_zero, List.getElem?_cons_succ]; go_simp; (try with_reducible rfl)
                    try simp only [Act.put, List.setIfInBounds_toArray, List.set_cons_zero, List.set_cons_succ]
                    refine wpHz_taken 13 100 ?v14 (by kernel_rfl) (by kernel_rfl) (by kernel_rfl) (by kernel_rfl) (by kernel_rfl) (fun _ _ _ h => h) (by rfl) ?hy14 (by assumption) ?rest14
                    case hy14 => intro w hSw; (try dsimp only at hSw); simp only [List.getElem?_toArray, List.getElem?_cons_zero, List.getElem?_cons_succ]; go_simp; (try with_reducible rfl)
                    try simp only [Act.put, List.setIfInBounds_toArray, List.set_cons_zero, List.set_cons_succ]
                    refine wpHz_taken 14 101 ?v15 (by kernel_rfl) (by kernel_rfl) (by kernel_rfl) (by kernel_rfl) (by kernel_rfl) (fun _ _ _ h => h) (by rfl) ?hy15 (by assumption) ?rest15
                    case hy15 => intro w hSw; (try dsimp only at hSw); simp only [List.getElem?_toArray, List.getElem?_cons_zero, List.getElem?_cons_succ]; go_simp; (try with_reducible rfl)
                    try simp only [Act.put, List.setIfInBounds_toArray, List.set_cons_zero, List.set_cons_succ]
                    refine wpHz_taken 15 102 ?v16 (by kernel_rfl) (by kernel_rfl) (by kernel_rfl) (by kernel_rfl) (by kernel_rfl) (fun _ _ _ h => h) (by rfl) ?hy16 (by assumption) ?rest16
                    case hy16 => intro w hSw; (try dsimp only at hSw); simp only [List.getElem?_toArray, List.getElem?_cons_zero, List.getElem?_cons_succ]; go_simp; (try with_reducible rfl)
                    try simp only [Act.put, List.setIfInBounds_toArray, List.set_cons_zero, List.set_cons_succ]
                    refine wpHz_taken 16 103 ?v17 (by kernel_rfl) (by kernel_rfl) (by kernel_rfl) (by kernel_rfl) (by kernel_rfl) (fun _ _ _ h => h) (by rfl) ?hy17 (by assumption) ?rest17
                    case hy17 => intro w hSw; (try dsimp only at hSw); simp only [List.getElem?_toArray, List.getElem?_cons_zero, List.getElem?_cons_succ]; go_simp; (try with_reducible rfl)
                    try simp only [Act.put, List.setIfInBounds_toArray, List.set_cons_zero, List.set_cons_succ]
                    refine wpHz_taken 17 104 ?v18 (by kernel_rfl) (by kernel_rfl) (by kernel_rfl) (by kernel_rfl) (by kernel_rfl) (fun _ _ _ h => h) (by rfl) ?hy18 (by assumption) ?rest18
                    case hy18 => intro w hSw; (try dsimp only at hSw); simp only [List.getElem?_toArray, List.getElem?_cons_zero, List.getElem?_cons_succ]; go_simp; (try with_reducible rfl)
                    try simp only [Act.put, List.setIfInBounds_toArray, List.set_cons_zero, List.set_cons_succ]
                    have hA2 := hW2.drew.alloc (.cells #[.slice (some ⟨x.1.b, x.1.off, none⟩) x.1.n x.1.cap, .slice (some ⟨y.1.b, y.1.off, none⟩) y.1.n y.1.cap] 28)
                    refine wpHz_one 18 (by kernel_rfl) (by rfl) (fun K hK => ?_)
                    simp only [List.getElem?_toArray, List.getElem?_cons_zero, List.getElem?_cons_succ]
                    go_simp
                    clear hHeld
                    refine hK.out _ _ (fun _ => (HSf.out _ (Sat.pick hA2 [1, 3] [_, _] rfl (by simp)))) (fun hHeld => ?_)
                    replace hHeld := hHeld (by decide)
                    clear hK K
                    try simp only [Act.put, List.setIfInBounds_toArray, List.set_cons_zero, List.set_cons_succ]
                    clear hA2
                    refine wpHz_one 19 (by kernel_rfl) (by rfl) (fun K hK => ?_)
                    simp only [List.getElem?_toArray, List.getElem?_cons_zero, List.getElem?_cons_succ]
                    go_wp2_with (go_at_call 97; refine Hcc.out.mono ?_; rintro e w7 ⟨vc, rfl, hS7⟩)
                    obtain ⟨bc, oc, capc, rfl, -, -, -, -, -⟩ := hS7.sl_cells (by omega)
                    clear hHeld
                    refine hK.out _ _ (fun _ => (HSf.out _ (Sat.pick hS7 [2, 4] [_, _] rfl (by simp)))) (fun hHeld => ?_)
                    replace hHeld := hHeld (by decide)
                    clear hK K
                    try simp only [Act.put, List.setIfInBounds_toArray, List.set_cons_zero, List.set_cons_succ]
                    refine wpHz_taken 20 107 ?v21 (by kernel_rfl) (by kernel_rfl) (by kernel_rfl) (by kernel_rfl) (by kernel_rfl) (fun _ _ _ h => h) (by rfl) ?hy21 (by assumption) ?rest21
                    case hy21 => intro w hSw; (try dsimp only at hSw); simp only [List.getElem?_toArray, List.getElem?_cons_zero, List.getElem?_cons_succ]; go_simp; (try with_reducible rfl)
                    try simp only [Act.put, List.setIfInBounds_toArray, List.set_cons_zero, List.set_cons_succ]
                    have hB1 := hS7.sl_made (e := 137) (size := 2) (n := 1) (cap := 1) (cur := #[.int .i64 (x.1.cost + y.1.cost), .slice (some ⟨bc, oc, none⟩) (x.2.length + y.2.length) capc]) (xs := [.int .i64 (x.1.cost + y.1.cost), .slice (some ⟨bc, oc, none⟩) (x.2.length + y.2.length) capc]) (by omega) (by decide) rfl (by simp) (fun j u hu => by simpa using hu)
                    have hsrc := SlR.src (P := Try.prog) hB1.sl_read Try.underlying135 (by simp [Value.oneCell'])
                    have hB2 := Sat.perm (As := [_, _, _, _, _]) hB1 [4, 1, 3, 0, 2] [_, _, _, _, _] rfl (by simp)
                    have Hsrc := Lib.hid hsrc
                    clear hsrc
                    refine wpHz_one 21 (by kernel_rfl) (by rfl) (fun K hK => ?_)
                    simp only [List.getElem?_toArray, List.getElem?_cons_zero, List.getElem?_cons_succ]
                    go_simp
                    clear hHeld
                    refine hK.out _ _ (fun _ => (HSf.out _ (Sat.pick hB2 [2, 5] [_, _] rfl (by simp)))) (fun hHeld => ?_)
                    replace hHeld := hHeld (by decide)
                    clear hK K
                    try simp only [Act.put, List.setIfInBounds_toArray, List.set_cons_zero, List.set_cons_succ]
                    refine wpHz_one 22 (by kernel_rfl) (by rfl) (fun K hK => ?_)
                    simp only [List.getElem?_toArray, List.getElem?_cons_zero, List.getElem?_cons_succ]
                    refine wp_append_sat _ _ _ 135 135 rfl 137 i0 (.agg #[.int .i64 0, .slice none 0 0]) 2 32 Try.underlying135 hi hz0 hz1 hz2 rfl (by decide) M.length _ _ _ rfl hB2 1 _ _ rfl Hsrc.out (by unfold maxLen; omega) (by omega) ?_
                    intro v9 w9 hS9
                    obtain ⟨F9, ao9, cap9, rfl, -, -, -, -⟩ := hS9.first
                    clear hHeld
                    refine hK.out _ _ (fun _ => (HSf.out _ (Sat.pick hS9 [2, 5] [_, _] rfl (by simp)))) (fun hHeld => ?_)
                    replace hHeld := hHeld (by decide)
                    clear hK K
                    try simp only [Act.put, List.setIfInBounds_toArray, List.set_cons_zero, List.set_cons_succ]
                    have hbx9 := (hS9.at_ 2 _ rfl).choose_spec.2
                    have qb9 : w9.cell? ⟨w5.heap.size, 0, none⟩ = some (.slice aov M.length capv) := by rw [cell_of_row w9 _ 0 _ _ _ hbx9]; rfl
                    have fb9 := frozen_of_row w9 w5.heap.size 0 _ _ hbx9
                    refine wpHz_one 23 (by kernel_rfl) (by rfl) (fun K hK => ?_)
                    simp only [List.getElem?_toArray, List.getElem?_cons_zero, List.getElem?_cons_succ]
                    go_simp
                    refine hK.out _ _ (fun h => absurd rfl h) (fun _ => ?_)
                    clear hK K
                    try simp only [Act.put, List.setIfInBounds_toArray, List.set_cons_zero, List.set_cons_succ]
                    refine wpHz_done (by kernel_rfl) ?_ _
                    have hS10 := Sat.setCell (i := 0) (Sat.perm (As := [_, _, _, _, _, _]) hS9 [2, 0, 1, 5] [_, _, _, _] rfl (by simp)) (.slice ao9 (M.length + 1) cap9)
                    have hS11 := Sat.pool_add (Sat.perm (As := [_, _, _, _]) hS10 [2, 3, 0, 1] [_, _, _, _] rfl (by simp))
                    have hS12 := Sat.perm (As := [_, _, _]) hS11 [1, 2, 0] [_, _, _] rfl (by simp)
                    refine LJ_shut (v := .slice ao9 (M.length + 1) cap9) (M := M ++ [(⟨x.1.cost + y.1.cost, bc, oc, x.2.length + y.2.length, capc⟩, x.2 ++ y.2)]) (L' := ⟨3, 1, x.2.length + y.2.length, .slice (some ⟨bc, oc, none⟩) (x.2.length + y.2.length) capc, (x.2 ++ y.2).map intV⟩ :: L') ?_ ?_ ?_ ?_
                    · have h1 := pairsM_take_full (R.map pk) pre.length (by rw [List.length_map]; omega)
                      have hx' : (R.map pk)[2 * pre.length]? = some (pk x) := by rw [List.getElem?_map, Hx.out]; rfl
                      have hy' : (R.map pk)[2 * pre.length + 1]? = some (pk y) := by rw [List.getElem?_map, Hy.out]; rfl
                      rw [List.getElem?_eq_getElem (by rw [List.length_map]; omega), Option.some.injEq] at hx' hy'
                      rw [hx', hy'] at h1
                      rw [List.length_append, List.length_singleton, h1, ← List.append_assoc, ← HM1.out, List.map_append]
                      rfl
                    · intro z hz
                      rcases List.mem_append.1 hz with hz | hz
                      · exact List.mem_cons_of_mem _ (HML.out z hz)
                      · simp only [List.mem_singleton] at hz
                        subst hz
                        unfold ent
                        rw [hxyl]
                        exact List.mem_cons_self
                    · exact fun e he => List.mem_cons_of_mem _ (HLL.out e he)
                    · rw [List.length_append, List.map_append, parC_append]
                      exact hS12
                  · have hm : min 2 (R.length - pre.length * 2) = 1 := by omega
                    have hodd : R.length = 2 * pre.length + 1 := by omega
                    rw [hm]
                    gi_wp2
                    refine LJ_shut (v := .slice aov M.length capv) (M := M) (L' := L') ?_ hML hLL hW2
                    rw [List.length_append, List.length_singleton, pairsM_take_odd _ _ (by rw [List.length_map]; exact hodd)]
                    exact hM
                case done =>
                  intro D W hW
                  obtain ⟨v, M, L', hM, hML, hLL, hW2⟩ := LJ_open1 (Sat.pick hW [0, 2] [_, _] rfl (by simp))
                  obtain ⟨Fv, aov, capv, rfl, -, -, -, -⟩ := hW2.at_ 2 _ rfl
                  have hbx := (hW2.at_ 1 _ rfl).choose_spec.2
                  have qb : W.cell? ⟨w5.heap.size, 0, none⟩ = some (.slice aov M.length capv) := by rw [cell_of_row W _ 0 _ _ _ hbx]; rfl
                  rw [piecesV_length, List.take_of_length_le (by rw [List.length_map]; omega), HT2p.out, HR.out] at hM
                  obtain ⟨M2, HM2⟩ : ∃ M2, Hid (M2 = sortG (fun x : PT => x.1.cost) M) := ⟨_, Lib.hid rfl⟩
                  have hM2l : M2.length = M.length := by rw [HM2.out, sortG_length]
                  have hM2p : M2.map pk = rowM (sortG Prod.fst (firstM cs)) (k + 1) := by
                    rw [HM2.out, sortG_map pk (fun x : PT => x.1.cost) Prod.fst (fun _ => rfl), hM]
                    rfl
                  have hM2s : sortP (M.map (·.1)) = M2.map (·.1) := by rw [sortP_eq, HM2.out, sortG_map (fun x : PT => x.1) (fun x : PT => x.1.cost) Par.cost (fun _ => rfl)]
                  have hMlen : M.length ≤ 2 * T.length := by
                    have h1 := rowM_length (sortG Prod.fst (firstM cs)) (k + 1)
                    rw [← hM2p, List.length_map, sortG_length, ← Hlen.out] at h1
                    omega
                  have hMc : ∀ p ∈ M.map (·.1), 0 ≤ p.cost ∧ p.cost ≤ 1152921504606846976 := by
                    intro p hp
                    obtain ⟨x, hx, rfl⟩ := List.mem_map.1 hp
                    have := rowM_ok cs.length (sortG Prod.fst (firstM cs)) (fun p hp => firstM_ok cs (fun c hc => (Hcs.out c hc).2) p ((mem_sortG _ _ _).1 hp)) (k + 1) (pk x) (by
                      rw [← hM2p, HM2.out]
                      exact List.mem_map.2 ⟨x, (mem_sortG _ _ _).2 hx, rfl⟩)
                    refine ⟨this.1, Int.le_trans this.2.1 ?_⟩
                    have h2 : (2 : Int) ^ (k + 1) ≤ 2 ^ 16 := by exact_mod_cast Nat.pow_le_pow_right (show 0 < 2 by omega) (show k + 1 ≤ 16 by omega)
                    omega
                  have hsort2 := H2.out W (.slice aov M.length capv) (M.map (·.1)) (blk D (.deferred (some [])) :: blk w5.heap.size (.cells #[.slice aov M.length capv] 135 (0, 0)) :: pool L' :: bag (marks ds) :: sl 3 1 cs.length (.slice (some ⟨bl, 0, none⟩) cs.length cs.length) ((countM cs.length []).map intV) :: Rs) (by simp; omega) hMc
                    (by rw [List.length_map]; exact Sat.perm (As := [_, _, _]) hW2 [2, 0, 1] [_, _, _] rfl (by simp))
                  rw [hM2s] at hsort2
                  simp only [List.length_map] at hsort2
                  have Hsort2 := Lib.hid hsort2
                  have HM2l := Lib.hid hM2l
                  have HM2p := Lib.hid hM2p
                  have HML := Lib.hid hML
                  have HLL := Lib.hid hLL
                  clear hsort2 hM2l hM2p hM2s hMc hML hLL hM hbx
                  go_wp2_with (go_at_call 93; refine Hsort2.out.mono ?_; rintro e w8 ⟨rfl, hS8⟩; have hbx8 := (hS8.at_ 2 _ rfl).choose_spec.2; have qb8 : w8.cell? ⟨w5.heap.size, 0, none⟩ = some (.slice aov M.length capv) := (by rw [cell_of_row w8 _ 0 _ _ _ hbx8]; rfl); clear hbx8)
                  rw [Exit.noGoto_normal]
                  go_wp2
                  have hS9 := Sat.pool_add (Sat.perm (As := [_, _, _, _, _, _]) hS8 [0, 3, 1, 4, 5] [_, _, _, _, _] rfl (by simp))
                  have hS10 := Sat.bag_cons (Sat.perm (As := [_, _, _, _]) hS9 [1, 2, 3, 0] [_, _, _, _] rfl (by simp))
                  refine (Handed.intro (g - 1) (by omega) (hJ _ _ _ ⟨_, D :: ds, k + 1, M2, ⟨137, 2, M.length, .slice aov M.length capv, parC (M2.map (fun x : PT => x.1))⟩ :: L', .slice aov M.length capv, rfl, rfl, rfl, rfl, rfl, rfl, by go_num, by omega, HM2p.out, ?_, ?_, ?_, ?_, ?_⟩))
                  · intro x hx
                    rw [HM2.out, mem_sortG] at hx
                    exact List.mem_cons_of_mem _ (HML.out x hx)
                  · rw [HM2l.out]; exact List.mem_cons_self
                  · exact List.mem_cons_of_mem _ (HLL.out _ HTr.out)
                  · exact fun x hx => List.mem_cons_of_mem _ (HLL.out _ (HT2L.out x hx))
                  · exact hS10
                case stop =>
                  intro D c pre W hpre hW
                  exact ((hW.at_ 2 _ rfl).choose_spec).elim
              · have hd : decide ((k : Int) < (most : Int) - 1) = false := decide_eq_false (by omega)
                obtain rfl : k = most - 1 := by omega
                obtain ⟨ao10, cap10, hv10, k10, m10, -, hc10⟩ := (hS4.front 2 _ rfl).pool_read HRr.out
                simp only at hv10 k10 hc10
                subst hv10
                have hRlen : R.length ≤ 2 * T.length := by
                  have h1 := rowM_length (sortG Prod.fst (firstM cs)) (most - 1)
                  rw [← HR.out, List.length_map, sortG_length, ← Hlen.out] at h1
                  exact h1
                have hRok := rowM_ok cs.length (sortG Prod.fst (firstM cs)) (fun p hp => firstM_ok cs (fun c hc => (Hcs.out c hc).2) p ((mem_sortG _ _ _).1 hp)) (most - 1)
                rw [← HR.out] at hRok
                have hp15 : 2 ^ (most - 1) ≤ 2 ^ 14 := Nat.pow_le_pow_right (by omega) (by omega)
                have HRok := Lib.hid hRok
                unfold maxLen at m10
                have hlens : lensM cs most = countM cs.length (flatM ((R.map pk).take (2 * T.length - 2))) := by
                  unfold lensM
                  rw [if_neg (by rw [← Hlen.out]; exact hone), HR.out, ← Hlen.out]
                  rfl
                have Hlens := Lib.hid hlens
                clear hRok hc10 hlens
                go_wp2
                go_loopw [116] (fun i wr => ∃ j : Nat, j ≤ R.length ∧ j ≤ 2 * T.length - 2 ∧ i = .int .i64 j ∧ Sat wr (bag (marks ds) :: sl 3 1 cs.length (.slice (some ⟨bl, 0, none⟩) cs.length cs.length) ((countM cs.length (flatM ((R.map pk).take j))).map intV) :: pool L :: Rs)) (fun i _ => R.length - (intOf i).toNat)
                case atStart => exact ⟨0, by omega, by omega, rfl, by simpa [flatM] using hS4⟩
                case round =>
                  obtain ⟨j, hj1, hj2, rfl, hS5⟩ := hrel
                  have hgood : ∀ (n : Nat) (tmps : Array Value) (wr : World), (n = R.length ∨ n = 2 * T.length - 2) → n ≤ 2 * T.length - 2 → Sat wr (bag (marks ds) :: sl 3 1 cs.length (.slice (some ⟨bl, 0, none⟩) cs.length cs.length) ((countM cs.length (flatM ((R.map pk).take n))).map intV) :: pool L :: Rs) → tmps.getD 4 undef = .slice (some ⟨bl, 0, none⟩) cs.length cs.length → tmps.getD 5 undef = .int .i64 0 →
                      bodyPostM Fence.wide 0 Try.prog Try.f73 (LensPost cs most Rs) .ret { tmps := tmps, defers := ds.map loopMark } wr := by
                    intro n tmps wr hn hn2 hSn h4 h5
                    refine lens_good rfl (Sat.bag_out ?_) Hck3.out h4 h5
                    rw [Hlens.out]
                    have e : (R.map pk).take (2 * T.length - 2) = (R.map pk).take n := by
                      rcases hn with hn | hn
                      · rw [List.take_of_length_le (by rw [List.length_map]; omega), List.take_of_length_le (by rw [List.length_map]; omega)]
                      · rw [hn]
                    rw [e]
                    exact Sat.perm (As := [_, _, _]) hSn [0, 1] [_, _] rfl (by simp)
                  have Hgood := Lib.hid hgood
                  clear hgood
                  by_cases hlt : j < R.length
                  · have hd1 : decide (j < R.length) = true := decide_eq_true hlt
                    have hT2' : 2 ≤ T.length := by omega
                    have hdB : ((j : Int) == 2 * (T.length : Int) - 2) = decide (j = 2 * T.length - 2) := by
                      rw [Bool.eq_iff_iff]; simp only [beq_iff_eq, decide_eq_true_eq]; omega
                    have HdB := Lib.hid hdB
                    clear hdB
                    obtain ⟨x, hx⟩ : ∃ x, R[j]? = some x := ⟨_, List.getElem?_eq_getElem hlt⟩
                    obtain ⟨aoR, capR, heq, -, -, -, hcR⟩ := (hS5.front 2 _ rfl).pool_read HRr.out
                    simp only [Value.slice.injEq, true_and] at heq
                    obtain ⟨rfl, rfl⟩ := heq
                    obtain ⟨bR, oR, rfl, hbR, hcR⟩ := hcR (by show 0 < R.length * 2; omega)
                    simp only at hcR
                    obtain ⟨g1, g2⟩ := parC_get' (ps := R.map (·.1)) (s := j) (p := x.1) (by rw [List.getElem?_map, hx]; rfl)
                    have c1 := hcR _ _ g1
                    have c2 := hcR _ _ g2
                    rw [← Nat.add_assoc] at c2
                    have Hx := Lib.hid hx
                    clear g1 g2 hcR hx
                    by_cases hB : j = 2 * T.length - 2
                    · have hd2 : ((j : Int) == 2 * (T.length : Int) - 2) = true := by rw [HdB.out]; exact decide_eq_true hB
                      have HB := Lib.hid hB
                      clear hB
                      go_wp2
                      refine Hgood.out j _ _ (.inr HB.out) hj2 (Sat.alloc_drop hS5 _) rfl rfl
                    · have hd2 : ((j : Int) == 2 * (T.length : Int) - 2) = false := by rw [HdB.out]; exact decide_eq_false hB
                      have hxn : x.1.n = x.2.length := by
                        obtain ⟨ao', cap', heq, -⟩ := (hS5.front 2 _ rfl).pool_read (HRL.out x (List.mem_of_getElem? Hx.out))
                        unfold ent Par.v at heq
                        simp only [Value.slice.injEq] at heq
                        exact heq.2.1
                      have hflat : flatM ((R.map pk).take (j + 1)) = flatM ((R.map pk).take j) ++ x.2 := by
                        rw [flatM_succ _ _ (by rw [List.length_map]; exact hlt)]
                        have hx' : (R.map pk)[j]? = some (pk x) := by rw [List.getElem?_map, Hx.out]; rfl
                        rw [List.getElem?_eq_getElem (by rw [List.length_map]; exact hlt), Option.some.injEq] at hx'
                        rw [hx']
                        rfl
                      have hxok := HRok.out (pk x) (List.mem_map.2 ⟨x, List.mem_of_getElem? Hx.out, rfl⟩)
                      have hfl : (flatM ((R.map pk).take j)).length ≤ 1152921504606846976 := by
                        have h1 := flatM_len ((R.map pk).take j) (2 ^ (most - 1)) (fun p hp => (HRok.out p (List.mem_of_mem_take hp)).2.2.1.2)
                        have h2 : ((R.map pk).take j).length * 2 ^ (most - 1) ≤ 1024 * 2 ^ 14 := Nat.mul_le_mul (by rw [List.length_take]; omega) hp15
                        omega
                      have hxl : x.2.length ≤ 16384 := by have := hxok.2.2.1.2; unfold pk at this; simp only at this; omega
                      have Hflat := Lib.hid hflat
                      have Hxs := Lib.hid hxok.2.2.2
                      have hS6 := hS5.alloc (.cells #[.int .i64 x.1.cost, .slice (some ⟨x.1.b, x.1.off, none⟩) x.1.n x.1.cap] 137)
                      rw [hxn] at hS6 c2
                      clear hflat hxok hp15
                      go_wp2
                      generalize (wr.alloc (.cells #[.int .i64 x.1.cost, .slice (some ⟨x.1.b, x.1.off, none⟩) x.2.length x.1.cap] 137)) = W6 at hS6 ⊢
                      have hS7 := hS6.tail
                      go_loopw [130] (fun i wq => ∃ q : Nat, q ≤ x.2.length ∧ i = .int .i64 q ∧ Sat wq (bag (marks ds) :: sl 3 1 cs.length (.slice (some ⟨bl, 0, none⟩) cs.length cs.length) ((countM cs.length (flatM ((R.map pk).take j) ++ x.2.take q)).map intV) :: pool L :: Rs)) (fun i _ => x.2.length - (intOf i).toNat)
                      case atStart => exact ⟨0, by omega, rfl, by simpa using hS7⟩
                      case round =>
                        obtain ⟨q, hq, rfl, hS8⟩ := hrel
                        by_cases hlt2 : q < x.2.length
                        · have hd3 : decide (q < x.2.length) = true := decide_eq_true hlt2
                          obtain ⟨aos, caps, heq, -, -, -, hcs⟩ := (hS8.front 2 _ rfl).pool_read (HRL.out x (List.mem_of_getElem? Hx.out))
                          unfold ent Par.v at heq hcs
                          simp only [Value.slice.injEq] at heq
                          obtain ⟨rfl, -, rfl⟩ := heq
                          obtain ⟨bs', os', heq, -, hcs⟩ := hcs (by simp only; omega)
                          simp only [Option.some.injEq, Addr.mk.injEq, and_true] at heq
                          have hcq := hcs q (.int .i64 x.2[q]) (by simp [intV, hlt2])
                          rw [← heq.1, ← heq.2] at hcq
                          obtain ⟨h0, h1⟩ := Hxs.out x.2[q] (List.getElem_mem _)
                          obtain ⟨t, ht⟩ : ∃ t : Nat, x.2[q] = (t : Int) := ⟨x.2[q].toNat, by omega⟩
                          rw [ht] at hcq h1
                          have htN : t < cs.length := by omega
                          obtain ⟨bl', ol', capl', heql, -, -, hbl, hcl', hfl'⟩ := (hS8.front 1 _ rfl).sl_cells (by omega)
                          simp only [Value.slice.injEq, Option.some.injEq, Addr.mk.injEq, and_true, true_and] at heql
                          obtain ⟨⟨rfl, rfl⟩, rfl⟩ := heql
                          obtain ⟨ct, Hct⟩ : ∃ ct : Nat, Hid (ct = (flatM ((R.map pk).take j) ++ x.2.take q).count (t : Int)) := ⟨_, Lib.hid rfl⟩
                          have hct : ct ≤ 2305843009213693952 := by
                            have h2 := List.count_le_length (a := (t : Int)) (l := flatM ((R.map pk).take j) ++ x.2.take q)
                            rw [← Hct.out, List.length_append, List.length_take] at h2
                            omega
                          have hct2 := hcl' t (.int .i64 (ct : Nat)) (by rw [List.getElem?_map, countM_get _ _ _ htN, ← Hct.out]; rfl)
                          have hft := hfl' t
                          simp only [Nat.zero_add] at hct2 hft
                          have hset := (hS8.front 1 _ rfl).sl_set t (by simp [countM_length]; exact htN) (.int .i64 ((ct : Int) + 1))
                          have hcount : (countM cs.length (flatM ((R.map pk).take j) ++ x.2.take (q + 1))).map intV = ((countM cs.length (flatM ((R.map pk).take j) ++ x.2.take q)).map intV).set t (.int .i64 ((ct : Int) + 1)) := by
                            rw [List.take_succ_eq_append_getElem hlt2, ← List.append_assoc, ht, countM_snoc _ _ _ htN, ← Hct.out, List.map_set]
                            rfl
                          rw [← hcount] at hset
                          simp only [Nat.zero_add] at hset
                          have Hset := Lib.hid hset
                          have ht0 : (t : Int) < (cs.length : Int) := by omega
                          clear hset hcount hcs heq hcl' hfl' ht h0 h1
                          go_wp2
                          go_roundw
                          case rel => exact ⟨q + 1, by omega, by go_num, Hset.out.swap⟩
                          case measure => simp [intOf]; omega
                        · obtain rfl : q = x.2.length := by omega
                          have hd3 : decide (x.2.length < x.2.length) = false := by simp
                          rw [List.take_length, ← Hflat.out] at hS8
                          go_wp2
                          go_roundw
                          case rel => exact ⟨j + 1, by omega, by omega, by go_num, hS8⟩
                          case measure => simp [intOf]; omega
                  · obtain rfl : j = R.length := by omega
                    have hd1 : decide (R.length < R.length) = false := by simp
                    go_wp2
                    exact Hgood.out _ _ _ (.inl rfl) hj2 hS5 rfl rfl

end Go.Proofs.Ytdpocnkeokplpaa
