/- A part of the proof of 'Rows.QueryReadUptoSaid': for every text and every seeds (of bulk at most 1048576 together) fathomlaw19.QueryRead returns true and its arguments read afterwards as before. -/
import Derived.Test.YtaikjbfkbijlnaaGreatF14
import Derived.Test.YtaikjbfkbijlnaaGreatProg
set_option maxRecDepth 100000
namespace Go.Proofs.Fathom
open Go Go.Proofs
abbrev oQ (d : Nat) (o : AOp) : AOper := ⟨some d, none, .q o⟩
abbrev oE (d : Nat) (o : EOp) : AOper := ⟨some d, none, .e o⟩
abbrev oN (o : EOp) : AOper := ⟨none, none, .e o⟩
abbrev oTQ (d g : Nat) (o : AOp) : AOper := ⟨some d, some (g, true), .q o⟩
abbrev oFQ (d g : Nat) (o : AOp) : AOper := ⟨some d, some (g, false), .q o⟩
abbrev oTE (d g : Nat) (o : EOp) : AOper := ⟨some d, some (g, true), .e o⟩
abbrev oFE (d g : Nat) (o : EOp) : AOper := ⟨some d, some (g, false), .e o⟩
abbrev F_fathomlaw19_QueryRead : FuncId := 5
abbrev F_fathomlaw19_awake : FuncId := 7
abbrev F_fathomlaw19_read : FuncId := 8
abbrev F_fathomlaw17_Tables : FuncId := 9
abbrev F_query_Places : FuncId := 10
abbrev F_query_Strict : FuncId := 13
abbrev F_fathomref15_Top : FuncId := 14
abbrev F_query_Needs : FuncId := 15
abbrev F_fathomlaw17_Rising : FuncId := 17
abbrev F_query_Demand : FuncId := 18
abbrev F_fathomref15_Is : FuncId := 19
abbrev F_fathomref16_At : FuncId := 20
abbrev F_fathomref18_Analyse : FuncId := 23
abbrev F_fathomref04_Parse : FuncId := 24
abbrev F_fathomref04_Wide : FuncId := 25
abbrev F_fathomref17_Types : FuncId := 26
abbrev F_fathomref16_Count : FuncId := 27
abbrev F_fathomref16_Of : FuncId := 28
abbrev F_query_fit : FuncId := 29
abbrev F_query_at : FuncId := 30
abbrev F_abseval_Expr : FuncId := 35
abbrev F_fathomref16_Points : FuncId := 37
abbrev F_fathomref16_Tuple : FuncId := 38
abbrev F_fathomref16_Number : FuncId := 39
abbrev F_points_Top : FuncId := 40
abbrev F_fathomref18_Fits : FuncId := 43
abbrev F_fathomref17_Sight_Round : FuncId := 44
abbrev F_fathomref18_same : FuncId := 45
abbrev F_fathomref03_Marks : FuncId := 46
abbrev F_fathomref04_reader_program : FuncId := 47
abbrev F_fathomref16_copied : FuncId := 48
abbrev F_fathomref02_Pack : FuncId := 49
abbrev F_types_Check : FuncId := 50
abbrev F_tuples_Check : FuncId := 51
abbrev F_tuples_At : FuncId := 52
abbrev F_fathomref07_Check : FuncId := 53
abbrev F_abseval_see : FuncId := 55
abbrev F_points_Check : FuncId := 56
abbrev F_types_Of : FuncId := 57
abbrev F_abseval_shallow : FuncId := 58
abbrev F_abseval_sight_point : FuncId := 59
abbrev F_fathomref06_Nest : FuncId := 62
abbrev F_fathomref17_Sight_Expr : FuncId := 63
abbrev F_fathomref02_Cells : FuncId := 64
abbrev F_fathomref17_Sight_body : FuncId := 67
abbrev F_fathomref03_Blank : FuncId := 68
abbrev F_fathomref03_one : FuncId := 69
abbrev F_fathomref04_reader_next : FuncId := 70
abbrev F_fathomref04_reader_def : FuncId := 71
abbrev F_scope_Check : FuncId := 72
abbrev F_types_open : FuncId := 73
abbrev F_types_Check_1 : FuncId := 74
abbrev F_types_checker_want : FuncId := 75
abbrev F_tuples_Count : FuncId := 76
abbrev F_tuples_size : FuncId := 77
abbrev F_rows_Check : FuncId := 78
abbrev F_rows_Count : FuncId := 79
abbrev F_tuples_place : FuncId := 80
abbrev F_rows_Get : FuncId := 81
abbrev F_fathomref06_Check : FuncId := 82
abbrev F_fathomref07_wrong : FuncId := 83
abbrev F_types_Of_1 : FuncId := 84
abbrev F_scope_Nest : FuncId := 85
abbrev F_abseval_names_find : FuncId := 86
abbrev F_abseval_sight_cases : FuncId := 87
abbrev F_abseval_sight_join : FuncId := 88
abbrev F_fathomref17_Sight_cases : FuncId := 89
abbrev F_fathomref17_with : FuncId := 90
abbrev F_fathomref17_Sight_parts : FuncId := 91
abbrev F_fathomref03_run : FuncId := 92
abbrev F_fathomref03_digit : FuncId := 93
abbrev F_fathomref01_Parse : FuncId := 94
abbrev F_fathomref01_Num_Z : FuncId := 95
abbrev F_fathomref03_Reserved : FuncId := 96
abbrev F_fathomref03_sign : FuncId := 97
abbrev F_fathomref04_reader_fail : FuncId := 98
abbrev F_fathomref04_reader_name : FuncId := 99
abbrev F_fathomref04_reader_want : FuncId := 100
abbrev F_fathomref04_reader_is : FuncId := 101
abbrev F_fathomref04_reader_typ : FuncId := 102
abbrev F_fathomref04_reader_expr : FuncId := 103
abbrev F_scope_Check_1 : FuncId := 104
abbrev F_scope_walk : FuncId := 105
abbrev F_scope_Check_2 : FuncId := 106
abbrev F_types_checker_all : FuncId := 107
abbrev F_types_checker_in : FuncId := 108
abbrev F_types_checker_want_1 : FuncId := 109
abbrev F_types_checker_want_2 : FuncId := 110
abbrev F_types_checker_want_3 : FuncId := 111
abbrev F_types_checker_own : FuncId := 112
abbrev F_rows_words : FuncId := 113
abbrev F_bits_OnesCount64 : FuncId := 114
abbrev F_tuples_Number : FuncId := 115
abbrev F_fathomref06_faults : FuncId := 116
abbrev F_fathomref07_own : FuncId := 117
abbrev F_fathomref07_Within : FuncId := 118
abbrev F_fathomref07_Wanted : FuncId := 119
abbrev F_points_Cases : FuncId := 120
abbrev F_points_Cons : FuncId := 121
abbrev F_fathomref15_Cases : FuncId := 122
abbrev F_fathomref15_Cons : FuncId := 123
abbrev F_fathomref17_number : FuncId := 124
abbrev F_fathomref03_letter : FuncId := 125
abbrev F_fathomref01_whole : FuncId := 126
abbrev F_fathomref01_in : FuncId := 127
abbrev F_fathomref01_Text : FuncId := 128
abbrev F_fathomref03_Words : FuncId := 129
abbrev F_fathomref04_reader_take : FuncId := 130
abbrev F_fathomref04_reader_cons : FuncId := 131
abbrev F_fathomref04_reader_parts : FuncId := 132
abbrev F_fathomref04_reader_branches : FuncId := 133
abbrev F_scope_bound : FuncId := 134
abbrev F_types_checker_call : FuncId := 135
abbrev F_fathomref06_heads : FuncId := 136
abbrev F_fathomref06_Has : FuncId := 137
abbrev F_fathomref06_seen : FuncId := 138
abbrev F_fathomref07_Head : FuncId := 139
abbrev F_fathomref07_with : FuncId := 140
abbrev F_fathomref01_digits : FuncId := 141
abbrev F_fathomref04_reader_comp : FuncId := 142
abbrev F_fathomref04_two : FuncId := 143
abbrev F_fathomref06_with : FuncId := 144
abbrev F_fathomref06_Bound : FuncId := 145
abbrev F_fathomref04_reader_sum : FuncId := 146
abbrev F_fathomref04_reader_term : FuncId := 147
abbrev F_fathomref04_reader_unit : FuncId := 148
abbrev F_fathomref04_reader_named : FuncId := 149
abbrev F_fathomref04_word : FuncId := 150
def c_fathomlaw19_QueryRead : ACode := (.seq 
 (.seqg (.reg [oQ 4 (.mv (.c (.bool false)))])
  (.keep [0, 1])) (.seq (.seq 
 (.seqg (.reg [oQ 21 (.call F_fathomlaw19_awake []), oQ 22 (.not (.t 21))])
  (.keep [0, 1, 22])) 
 (.cond (.t 22) (.seq 
 (.seqg (.reg [oQ 4 (.mv (.c (.bool false)))])
  (.keep [4])) .ret) .skip)) (.seq 
 (.seqg (.reg [oQ 24 (.mv (.t 0)), oQ 25 (.call F_fathomlaw19_read [(.t 24)]), oQ 23 (.mv (.t 25)), oQ 26 (.ext (.t 23) 0), oQ 27 (.ext (.t 23) 1), oE 5 (.alloc [.sl .full 11 []]), oN (.st 1 (.t 5) (.t 26)), oQ 6 (.mv (.t 27))])
  (.keep [1, 5, 6])) (.seq (.seq 
 (.seqg (.reg [oQ 28 (.mv (.t 6)), oQ 29 (.not (.t 28))])
  (.keep [1, 5, 29])) 
 (.cond (.t 29) (.seq 
 (.seqg (.reg [oQ 4 (.mv (.c (.bool true)))])
  (.keep [4])) .ret) .skip)) (.seq 
 (.seqg (.reg [oQ 30 (.ld 1 true (.t 5)), oQ 31 (.mv (.t 1)), oQ 32 (.call F_fathomlaw17_Rising [(.t 30), (.t 31)]), oQ 7 (.mv (.t 32))])
  (.keep [5, 7])) (.seq (.seq 
 (.seqg (.reg [oQ 8 (.mv (.c (.int .i64 0)))])
  (.keep [5, 7, 8])) 
 (.block 0 
 (.gseq (.keep [5, 7, 8]) (.loop (.seq (.seq 
 (.seqg (.reg [oQ 33 (.mv (.t 8)), oQ 34 (.fa 0 (.t 5)), oQ 35 (.ld 1 false (.t 34)), oQ 36 (.len (.t 35)), oQ 37 (.bin .lss .num (.t 33) (.t 36))])
  (.keep [5, 7, 8, 37])) 
 (.cond (.t 37) .skip (.exit 0))) (.seq 
 (.block 1 (.seq 
 (.seqg (.reg [oQ 41 (.ld 1 true (.t 5)), oQ 42 (.mv (.t 7)), oQ 43 (.mv (.t 8)), oQ 44 (.call F_query_Places [(.t 41), (.t 42), (.t 43)]), oQ 40 (.mv (.t 44)), oQ 45 (.ext (.t 40) 0), oQ 46 (.ext (.t 40) 1), oQ 9 (.mv (.t 45)), oQ 10 (.mv (.t 46))])
  (.keep [5, 7, 8, 9, 10])) (.seq (.seq 
 (.seqg (.reg [oQ 47 (.mv (.t 10)), oQ 48 (.bin .neq .num (.t 47) (.c (.int .i64 0)))])
  (.keep [5, 7, 8, 9, 10, 48])) 
 (.cond (.t 48) (.seq 
 (.seqg (.reg [oQ 49 (.mv (.t 10)), oQ 50 (.bin .eql .num (.t 49) (.c (.int .i64 3))), oQ 51 (.mv (.t 50)), oTQ 52 51 (.mv (.t 9)), oTQ 53 51 (.len (.t 52)), oTQ 54 51 (.bin .eql .num (.t 53) (.c (.int .i64 0))), oQ 55 (.pick (.t 51) (.t 54) (.c (.bool false))), oQ 4 (.mv (.t 55))])
  (.keep [4])) .ret) .skip)) (.seq (.seq 
 (.seqg (.reg [oQ 56 (.mv (.t 9)), oQ 57 (.len (.t 56)), oQ 58 (.fa 0 (.t 5)), oQ 59 (.ld 1 false (.t 58)), oQ 60 (.mv (.t 8)), oQ 61 (.ix 11 (.t 59) (.t 60)), oQ 62 (.fa 1 (.t 61)), oQ 63 (.ld 1 false (.t 62)), oQ 64 (.len (.t 63)), oQ 65 (.bin .neq .num (.t 57) (.t 64))])
  (.keep [5, 7, 8, 9, 65])) 
 (.cond (.t 65) (.seq 
 (.seqg (.reg [oQ 4 (.mv (.c (.bool false)))])
  (.keep [4])) .ret) .skip)) (.seq 
 (.seqg (.reg [oQ 11 (.mv (.c (.int .i64 0)))])
  (.keep [5, 7, 8, 9, 11])) 
 (.block 2 
 (.gseq (.keep [5, 7, 8, 9, 11]) (.loop (.seq (.seq 
 (.seqg (.reg [oQ 66 (.mv (.t 11)), oQ 67 (.mv (.t 9)), oQ 68 (.len (.t 67)), oQ 69 (.bin .lss .num (.t 66) (.t 68))])
  (.keep [5, 7, 8, 9, 11, 69])) 
 (.cond (.t 69) .skip (.exit 2))) (.seq 
 (.block 3 (.seq 
 (.seqg (.reg [oQ 73 (.ld 1 true (.t 5)), oQ 74 (.mv (.t 7)), oQ 75 (.mv (.t 8)), oQ 76 (.mv (.t 11)), oQ 77 (.call F_query_Demand [(.t 73), (.t 74), (.t 75), (.t 76)]), oQ 72 (.mv (.t 77)), oQ 78 (.ext (.t 72) 0), oQ 79 (.ext (.t 72) 1), oQ 12 (.mv (.t 78)), oQ 13 (.mv (.t 79))])
  (.keep [5, 7, 8, 9, 11, 12, 13])) (.seq 
 (.seqg (.reg [oQ 81 (.ld 1 true (.t 5)), oQ 82 (.mv (.t 7)), oQ 83 (.mv (.t 8)), oQ 84 (.mv (.t 11)), oQ 85 (.call F_query_Strict [(.t 81), (.t 82), (.t 83), (.t 84)]), oQ 80 (.mv (.t 85)), oQ 86 (.ext (.t 80) 0), oQ 87 (.ext (.t 80) 1), oQ 14 (.mv (.t 86)), oQ 15 (.mv (.t 87))])
  (.keep [5, 7, 8, 9, 11, 12, 13, 14, 15])) (.seq (.seq 
 (.seqg (.reg [oQ 88 (.mv (.t 13)), oQ 89 (.bin .neq .num (.t 88) (.c (.int .i64 0))), oQ 90 (.mv (.t 89)), oFQ 91 90 (.mv (.t 15)), oFQ 92 90 (.bin .neq .num (.t 91) (.c (.int .i64 0))), oQ 93 (.pick (.t 90) (.c (.bool true)) (.t 92)), oQ 94 (.mv (.t 93)), oFQ 95 94 (.mv (.t 14)), oFQ 96 94 (.mv (.t 9)), oFQ 97 94 (.mv (.t 11)), oFQ 98 94 (.ix 1 (.t 96) (.t 97)), oFQ 99 94 (.ld 1 false (.t 98)), oFQ 100 94 (.bin .neq .bool (.t 95) (.t 99)), oQ 101 (.pick (.t 94) (.c (.bool true)) (.t 100)), oQ 102 (.mv (.t 101)), oFQ 103 102 (.mv (.t 14)), oFQ 104 102 (.mv (.t 12)), oFQ 105 102 (.bin .geq .num (.t 104) (.c (.int .i64 0))), oFQ 106 102 (.bin .neq .bool (.t 103) (.t 105)), oQ 107 (.pick (.t 102) (.c (.bool true)) (.t 106))])
  (.keep [5, 7, 8, 9, 11, 12, 107])) 
 (.cond (.t 107) (.seq 
 (.seqg (.reg [oQ 4 (.mv (.c (.bool false)))])
  (.keep [4])) .ret) .skip)) (.seq 
 (.seqg (.seqg (.reg [oQ 16 (.mv (.c (.sl .full 1 [])))])
  (.keep [5, 7, 8, 9, 11, 12, 16]))
  (.mintr 16 1)) (.seq (.seq 
 (.seqg (.reg [oQ 17 (.mv (.c (.int .i64 0)))])
  (.keep [5, 7, 8, 9, 11, 12, 16, 17])) 
 (.block 4 
 (.gseq (.keep [5, 7, 8, 9, 11, 12, 16, 17]) (.loop (.seq (.seq 
 (.seqg (.reg [oQ 108 (.mv (.t 17)), oQ 109 (.mv (.t 9)), oQ 110 (.len (.t 109)), oQ 111 (.bin .lss .num (.t 108) (.t 110))])
  (.keep [5, 7, 8, 9, 11, 12, 16, 17, 111])) 
 (.cond (.t 111) .skip (.exit 4))) (.seq 
 (.block 5 
 (.seqg (.reg [oQ 114 (.mv (.t 16)), oQ 115 (.fa 0 (.t 5)), oQ 116 (.ld 1 false (.t 115)), oQ 117 (.mv (.t 8)), oQ 118 (.ix 11 (.t 116) (.t 117)), oQ 119 (.fa 1 (.t 118)), oQ 120 (.ld 1 false (.t 119)), oQ 121 (.mv (.t 17)), oQ 122 (.ix 3 (.t 120) (.t 121)), oQ 123 (.fa 1 (.t 122)), oQ 124 (.ld 1 false (.t 123)), oQ 125 (.call F_fathomref15_Top [(.t 124)]), oQ 126 (.bsl 1 [(.t 125)]), oE 127 (.appr 1 8 (.t 114) (.t 126)), oQ 16 (.mv (.t 127))])
  (.keep [5, 7, 8, 9, 11, 12, 16, 17]))) 
 (.seqg (.reg [oQ 112 (.mv (.t 17)), oQ 113 (.bin .add .num (.t 112) (.c (.int .i64 1))), oQ 17 (.mv (.t 113))])
  (.keep [5, 7, 8, 9, 11, 12, 16, 17])))))))) (.seq 
 (.seqg (.reg [oQ 18 (.mv (.c (.int .i64 0)))])
  (.keep [5, 7, 8, 9, 11, 12, 16, 18])) 
 (.block 6 
 (.gseq (.keep [5, 7, 8, 9, 11, 12, 16, 18]) (.loop (.seq (.seq 
 (.seqg (.reg [oQ 128 (.fa 0 (.t 5)), oQ 129 (.ld 1 false (.t 128)), oQ 130 (.mv (.t 8)), oQ 131 (.ix 11 (.t 129) (.t 130)), oQ 132 (.fa 1 (.t 131)), oQ 133 (.ld 1 false (.t 132)), oQ 134 (.mv (.t 11)), oQ 135 (.ix 3 (.t 133) (.t 134)), oQ 136 (.fa 1 (.t 135)), oQ 137 (.ld 1 false (.t 136)), oQ 138 (.mv (.t 18)), oQ 139 (.call F_fathomref15_Is [(.t 137), (.t 138)])])
  (.keep [5, 7, 8, 9, 11, 12, 16, 18, 139])) 
 (.cond (.t 139) .skip (.exit 6))) (.seq 
 (.block 7 (.seq 
 (.seqg (.reg [oQ 142 (.mv (.t 16)), oQ 143 (.mv (.t 11)), oQ 144 (.mv (.t 18)), oQ 145 (.ix 1 (.t 142) (.t 143)), oN (.st 1 (.t 145) (.t 144))])
  (.keep [5, 7, 8, 9, 11, 12, 16, 18])) (.seq 
 (.seqg (.reg [oQ 147 (.mv (.t 7)), oQ 148 (.mv (.t 8)), oQ 149 (.ix 4 (.t 147) (.t 148)), oQ 150 (.ld 4 true (.t 149)), oQ 151 (.mv (.t 16)), oQ 152 (.lnd F_fathomref16_At [(.t 150), (.t 151)]), oQ 146 (.mv (.t 152)), oQ 153 (.ext (.t 146) 0), oQ 154 (.ext (.t 146) 1), oQ 19 (.mv (.t 153)), oQ 20 (.mv (.t 154))])
  (.keep [5, 7, 8, 9, 11, 12, 16, 18, 19, 20])) (.seq 
 (.seqg (.reg [oQ 155 (.mv (.t 20)), oQ 156 (.bin .neq .num (.t 155) (.c (.int .i64 0))), oQ 157 (.mv (.t 156)), oFQ 158 157 (.mv (.t 19)), oFQ 159 157 (.bin .eql .num (.t 158) (.c (.int .i64 0))), oFQ 160 157 (.mv (.t 18)), oFQ 161 157 (.mv (.t 12)), oFQ 162 157 (.bin .leq .num (.t 160) (.t 161)), oFQ 163 157 (.bin .neq .bool (.t 159) (.t 162)), oQ 164 (.pick (.t 157) (.c (.bool true)) (.t 163))])
  (.keep [5, 7, 8, 9, 11, 12, 16, 18, 164])) 
 (.cond (.t 164) (.seq 
 (.seqg (.reg [oQ 4 (.mv (.c (.bool false)))])
  (.keep [4])) .ret) .skip))))) 
 (.seqg (.reg [oQ 140 (.mv (.t 18)), oQ 141 (.bin .add .num (.t 140) (.c (.int .i64 1))), oQ 18 (.mv (.t 141))])
  (.keep [5, 7, 8, 9, 11, 12, 16, 18])))))))))))))) 
 (.seqg (.reg [oQ 70 (.mv (.t 11)), oQ 71 (.bin .add .num (.t 70) (.c (.int .i64 1))), oQ 11 (.mv (.t 71))])
  (.keep [5, 7, 8, 9, 11])))))))))))) 
 (.seqg (.reg [oQ 38 (.mv (.t 8)), oQ 39 (.bin .add .num (.t 38) (.c (.int .i64 1))), oQ 8 (.mv (.t 39))])
  (.keep [5, 7, 8])))))))) (.seq 
 (.seqg (.reg [oQ 4 (.mv (.c (.bool true)))])
  (.keep [4])) .ret)))))))
def r_fathomlaw19_QueryRead : List ARes := [.t 4]
theorem w_fathomlaw19_QueryRead : FnW Tryz.prog F_fathomlaw19_QueryRead c_fathomlaw19_QueryRead r_fathomlaw19_QueryRead 165 := ⟨Tryz.f5, (Tryz.f5).body.get rfl, by kernel_rfl, Tryz.func5, by kernel_rfl, by kernel_rfl, by kernel_rfl, by kernel_rfl⟩
def c_fathomlaw19_awake : ACode := (.seq 
 (.seqg (.reg [oQ 0 (.mv (.c (.bool false)))])
  (.keep [])) (.seq 
 (.seqg (.rgm 16 17 [107, 40, 120, 32, 78, 44, 121, 32, 78, 41, 58, 78, 61, 120, 59, 115, 117, 109, 40, 108, 32, 76, 41, 58, 78, 61, 99, 97, 115, 101, 32, 108, 32, 111, 102, 32, 110, 105, 108, 45, 62, 48, 124, 104, 58, 116, 45, 62, 104, 43, 115, 117, 109, 40, 116, 41, 59] [oQ 18 (.call F_fathomlaw19_read [(.t 17)]), oQ 15 (.mv (.t 18)), oQ 19 (.ext (.t 15) 0), oQ 20 (.ext (.t 15) 1), oE 1 (.alloc [.sl .full 11 []]), oN (.st 1 (.t 1) (.t 19)), oQ 2 (.mv (.t 20))])
  (.keep [1])) (.seq 
 (.seqg (.reg [oQ 22 (.ld 1 true (.t 1)), oQ 23 (.call F_fathomref18_Analyse [(.t 22)]), oQ 21 (.mv (.t 23)), oQ 24 (.ext (.t 21) 0), oQ 25 (.ext (.t 21) 1), oQ 3 (.mv (.t 24)), oQ 4 (.mv (.t 25))])
  (.keep [1, 3, 4])) (.seq 
 (.seqg (.reg [oQ 27 (.ld 1 true (.t 1)), oQ 28 (.mv (.t 3)), oQ 29 (.call F_query_Strict [(.t 27), (.t 28), (.c (.int .i64 0)), (.c (.int .i64 0))]), oQ 26 (.mv (.t 29)), oQ 30 (.ext (.t 26) 0), oQ 31 (.ext (.t 26) 1), oQ 5 (.mv (.t 30)), oQ 6 (.mv (.t 31))])
  (.keep [1, 3, 4, 5, 6])) (.seq 
 (.seqg (.reg [oQ 33 (.ld 1 true (.t 1)), oQ 34 (.mv (.t 3)), oQ 35 (.call F_query_Strict [(.t 33), (.t 34), (.c (.int .i64 0)), (.c (.int .i64 1))]), oQ 32 (.mv (.t 35)), oQ 36 (.ext (.t 32) 0), oQ 37 (.ext (.t 32) 1), oQ 7 (.mv (.t 36)), oQ 8 (.mv (.t 37))])
  (.keep [1, 3, 4, 5, 6, 7, 8])) (.seq 
 (.seqg (.reg [oQ 39 (.ld 1 true (.t 1)), oQ 40 (.mv (.t 3)), oQ 41 (.call F_query_Demand [(.t 39), (.t 40), (.c (.int .i64 1)), (.c (.int .i64 0))]), oQ 38 (.mv (.t 41)), oQ 42 (.ext (.t 38) 0), oQ 43 (.ext (.t 38) 1), oQ 9 (.mv (.t 42)), oQ 10 (.mv (.t 43))])
  (.keep [1, 3, 4, 5, 6, 7, 8, 9, 10])) (.seq 
 (.seqg (.reg [oQ 45 (.ld 1 true (.t 1)), oQ 46 (.mv (.t 3)), oQ 47 (.call F_query_Places [(.t 45), (.t 46), (.c (.int .i64 0))]), oQ 44 (.mv (.t 47)), oQ 48 (.ext (.t 44) 0), oQ 49 (.ext (.t 44) 1), oQ 11 (.mv (.t 48)), oQ 12 (.mv (.t 49))])
  (.keep [1, 3, 4, 5, 6, 7, 8, 9, 10, 11, 12])) (.seq 
 (.seqg (.drw [oQ 51 (.ld 1 true (.t 1)), oQ 52 (.mv (.t 3)), oQ 53 (.bld [.str ⟨#[]⟩, .int .i64 0, .int .i64 0] [(0, 1, (.c (.str ⟨#[108]⟩))), (1, 1, (.c (.int .i64 3)))]), oQ 54 (.fa 0 (.t 1)), oQ 55 (.ld 1 false (.t 54)), oQ 56 (.ix 11 (.t 55) (.c (.int .i64 1))), oQ 57 (.fa 3 (.t 56)), oQ 58 (.ld 7 true (.t 57)), oQ 59 (.call F_query_Needs [(.t 51), (.t 52), (.c (.sl .full 3 [])), (.t 53), (.t 58)]), oQ 50 (.mv (.t 59)), oQ 60 (.ext (.t 50) 0), oQ 61 (.ext (.t 50) 1), oQ 13 (.mv (.t 60)), oQ 14 (.mv (.t 61))])
  (.keep [4, 5, 6, 7, 8, 9, 10, 11, 12, 13, 14])) (.seq 
 (.seqg (.reg [oQ 62 (.mv (.t 4)), oQ 63 (.bin .eql .num (.t 62) (.c (.int .i64 0))), oQ 64 (.mv (.t 63)), oTQ 65 64 (.mv (.t 5)), oQ 66 (.pick (.t 64) (.t 65) (.c (.bool false))), oQ 67 (.mv (.t 66)), oTQ 68 67 (.mv (.t 6)), oTQ 69 67 (.bin .eql .num (.t 68) (.c (.int .i64 0))), oQ 70 (.pick (.t 67) (.t 69) (.c (.bool false))), oQ 71 (.mv (.t 70)), oTQ 72 71 (.mv (.t 7)), oTQ 73 71 (.not (.t 72)), oQ 74 (.pick (.t 71) (.t 73) (.c (.bool false))), oQ 75 (.mv (.t 74)), oTQ 76 75 (.mv (.t 8)), oTQ 77 75 (.bin .eql .num (.t 76) (.c (.int .i64 0))), oQ 78 (.pick (.t 75) (.t 77) (.c (.bool false))), oQ 79 (.mv (.t 78)), oTQ 80 79 (.mv (.t 9)), oTQ 81 79 (.bin .eql .num (.t 80) (.c (.int .i64 2))), oQ 82 (.pick (.t 79) (.t 81) (.c (.bool false))), oQ 83 (.mv (.t 82)), oTQ 84 83 (.mv (.t 10)), oTQ 85 83 (.bin .eql .num (.t 84) (.c (.int .i64 0))), oQ 86 (.pick (.t 83) (.t 85) (.c (.bool false))), oQ 87 (.mv (.t 86)), oTQ 88 87 (.mv (.t 11)), oTQ 89 87 (.len (.t 88)), oTQ 90 87 (.bin .eql .num (.t 89) (.c (.int .i64 2))), oQ 91 (.pick (.t 87) (.t 90) (.c (.bool false))), oQ 92 (.mv (.t 91)), oTQ 93 92 (.mv (.t 11)), oTQ 94 92 (.ix 1 (.t 93) (.c (.int .i64 0))), oTQ 95 92 (.ld 1 false (.t 94)), oQ 96 (.pick (.t 92) (.t 95) (.c (.bool false))), oQ 97 (.mv (.t 96)), oTQ 98 97 (.mv (.t 11)), oTQ 99 97 (.ix 1 (.t 98) (.c (.int .i64 1))), oTQ 100 97 (.ld 1 false (.t 99)), oTQ 101 97 (.not (.t 100)), oQ 102 (.pick (.t 97) (.t 101) (.c (.bool false))), oQ 103 (.mv (.t 102)), oTQ 104 103 (.mv (.t 12)), oTQ 105 103 (.bin .eql .num (.t 104) (.c (.int .i64 0))), oQ 106 (.pick (.t 103) (.t 105) (.c (.bool false))), oQ 107 (.mv (.t 106)), oTQ 108 107 (.mv (.t 13)), oQ 109 (.pick (.t 107) (.t 108) (.c (.bool false))), oQ 110 (.mv (.t 109)), oTQ 111 110 (.mv (.t 14)), oTQ 112 110 (.bin .eql .num (.t 111) (.c (.int .i64 0))), oQ 113 (.pick (.t 110) (.t 112) (.c (.bool false))), oQ 0 (.mv (.t 113))])
  (.keep [0])) .ret)))))))))
def r_fathomlaw19_awake : List ARes := [.t 0]
theorem w_fathomlaw19_awake : FnW Tryz.prog F_fathomlaw19_awake c_fathomlaw19_awake r_fathomlaw19_awake 114 := ⟨Tryz.f7, (Tryz.f7).body.get rfl, by kernel_rfl, Tryz.func7, by kernel_rfl, by kernel_rfl, by kernel_rfl, by kernel_rfl⟩
def c_fathomlaw19_read : ACode := (.seq 
 (.seqg (.reg [oE 2 (.alloc [.sl .full 11 []]), oQ 3 (.mv (.c (.bool false)))])
  (.keep [0, 2])) (.seq 
 (.seqg (.reg [oQ 8 (.mv (.t 0)), oQ 9 (.call F_fathomref04_Wide []), oQ 10 (.call F_fathomref04_Parse [(.t 8), (.t 9)]), oQ 7 (.mv (.t 10)), oQ 11 (.ext (.t 7) 0), oQ 12 (.ext (.t 7) 1), oE 4 (.alloc [.sl .full 11 []]), oE 5 (.alloc [.int .i64 0, .int .i64 0]), oN (.st 1 (.t 4) (.t 11)), oN (.st 2 (.t 5) (.t 12))])
  (.keep [0, 2, 4, 5])) (.seq (.seq 
 (.seqg (.reg [oQ 13 (.fa 0 (.t 5)), oQ 14 (.ld 1 false (.t 13)), oQ 15 (.bin .neq .num (.t 14) (.c (.int .i64 0))), oQ 16 (.mv (.t 15)), oFQ 17 16 (.fa 0 (.t 4)), oFQ 18 16 (.ld 1 false (.t 17)), oFQ 19 16 (.len (.t 18)), oFQ 20 16 (.bin .gtr .num (.t 19) (.c (.int .i64 40))), oQ 21 (.pick (.t 16) (.c (.bool true)) (.t 20)), oQ 22 (.mv (.t 21)), oFQ 23 22 (.mv (.t 0)), oFQ 24 22 (.len (.t 23)), oFQ 25 22 (.bin .gtr .num (.t 24) (.c (.int .i64 8192))), oQ 26 (.pick (.t 22) (.c (.bool true)) (.t 25))])
  (.keep [2, 4, 26])) 
 (.cond (.t 26) (.seq 
 (.seqg (.reg [oQ 27 (.ld 1 true (.t 4)), oN (.st 1 (.t 2) (.t 27)), oQ 3 (.mv (.c (.bool false)))])
  (.keep [2, 3])) .ret) .skip)) (.seq (.seq 
 (.seqg (.reg [oQ 6 (.mv (.c (.int .i64 0)))])
  (.keep [2, 4, 6])) 
 (.block 0 
 (.gseq (.keep [2, 4, 6]) (.loop (.seq (.seq 
 (.seqg (.reg [oQ 28 (.mv (.t 6)), oQ 29 (.fa 0 (.t 4)), oQ 30 (.ld 1 false (.t 29)), oQ 31 (.len (.t 30)), oQ 32 (.bin .lss .num (.t 28) (.t 31))])
  (.keep [2, 4, 6, 32])) 
 (.cond (.t 32) .skip (.exit 0))) (.seq 
 (.block 1 (.seq 
 (.seqg (.reg [oQ 35 (.fa 0 (.t 4)), oQ 36 (.ld 1 false (.t 35)), oQ 37 (.mv (.t 6)), oQ 38 (.ix 11 (.t 36) (.t 37)), oQ 39 (.fa 1 (.t 38)), oQ 40 (.ld 1 false (.t 39)), oQ 41 (.len (.t 40)), oQ 42 (.bin .gtr .num (.t 41) (.c (.int .i64 4)))])
  (.keep [2, 4, 6, 42])) 
 (.cond (.t 42) (.seq 
 (.seqg (.reg [oQ 43 (.ld 1 true (.t 4)), oN (.st 1 (.t 2) (.t 43)), oQ 3 (.mv (.c (.bool false)))])
  (.keep [2, 3])) .ret) .skip))) 
 (.seqg (.reg [oQ 33 (.mv (.t 6)), oQ 34 (.bin .add .num (.t 33) (.c (.int .i64 1))), oQ 6 (.mv (.t 34))])
  (.keep [2, 4, 6])))))))) (.seq 
 (.seqg (.reg [oQ 44 (.ld 1 true (.t 4)), oN (.st 1 (.t 2) (.t 44)), oQ 3 (.mv (.c (.bool true)))])
  (.keep [2, 3])) .ret)))))
def r_fathomlaw19_read : List ARes := [.c 2 1 true, .t 3]
theorem w_fathomlaw19_read : FnW Tryz.prog F_fathomlaw19_read c_fathomlaw19_read r_fathomlaw19_read 45 := ⟨Tryz.f8, (Tryz.f8).body.get rfl, by kernel_rfl, Tryz.func8, by kernel_rfl, by kernel_rfl, by kernel_rfl, by kernel_rfl⟩
def c_fathomlaw17_Tables : ACode := (.seq 
 (.seqg (.reg [oQ 2 (.box (.t 0)), oQ 4 (.mv (.c (.sl .full 4 [])))])
  (.keep [1, 2])) (.seq 
 (.seqg (.seqg (.reg [oQ 5 (.mv (.c (.sl .full 4 [])))])
  (.keep [1, 2, 5]))
  (.mint 5)) (.seq 
 (.seqg (.reg [oQ 6 (.mv (.c (.int .i64 0)))])
  (.keep [1, 2, 5, 6])) (.seq (.seq 
 (.seqg (.reg [oQ 7 (.mv (.c (.int .i64 0)))])
  (.keep [1, 2, 5, 6, 7])) 
 (.block 0 
 (.gseq (.keep [1, 2, 5, 6, 7]) (.loop (.seq (.seq 
 (.seqg (.reg [oQ 13 (.mv (.t 7)), oQ 14 (.fa 0 (.t 2)), oQ 15 (.ld 1 false (.t 14)), oQ 16 (.len (.t 15)), oQ 17 (.bin .lss .num (.t 13) (.t 16))])
  (.keep [1, 2, 5, 6, 7, 17])) 
 (.cond (.t 17) .skip (.exit 0))) (.seq 
 (.block 1 (.seq 
 (.seqg (.reg [oQ 20 (.fa 0 (.t 2)), oQ 21 (.ld 1 false (.t 20)), oQ 22 (.mv (.t 7)), oQ 23 (.ix 11 (.t 21) (.t 22)), oQ 24 (.ld 11 true (.t 23)), oQ 25 (.call F_fathomref17_Types [(.t 24)]), oQ 8 (.mv (.t 25))])
  (.keep [1, 2, 5, 6, 7, 8])) (.seq 
 (.seqg (.reg [oQ 27 (.mv (.t 8)), oQ 28 (.call F_fathomref16_Count [(.t 27)]), oQ 26 (.mv (.t 28)), oQ 29 (.ext (.t 26) 0), oQ 30 (.ext (.t 26) 1), oQ 9 (.mv (.t 29)), oQ 10 (.mv (.t 30))])
  (.keep [1, 2, 5, 6, 7, 8, 9])) (.seq 
 (.seqg (.reg [oQ 31 (.mv (.t 9)), oE 32 (.mks 1 8 [.int .i64 0] (.t 31)), oQ 11 (.mv (.t 32))])
  (.keep [1, 2, 5, 6, 7, 8, 9, 11])) (.seq (.seq 
 (.seqg (.reg [oQ 12 (.mv (.c (.int .i64 0)))])
  (.keep [1, 2, 5, 6, 7, 8, 9, 11, 12])) 
 (.block 2 
 (.gseq (.keep [1, 2, 5, 6, 7, 8, 9, 11, 12]) (.loop (.seq (.seq 
 (.seqg (.reg [oQ 33 (.mv (.t 12)), oQ 34 (.mv (.t 9)), oQ 35 (.bin .lss .num (.t 33) (.t 34)), oQ 36 (.mv (.t 35)), oTQ 37 36 (.mv (.t 1)), oTQ 38 36 (.len (.t 37)), oTQ 39 36 (.bin .gtr .num (.t 38) (.c (.int .i64 0))), oQ 40 (.pick (.t 36) (.t 39) (.c (.bool false)))])
  (.keep [1, 2, 5, 6, 7, 8, 9, 11, 12, 40])) 
 (.cond (.t 40) .skip (.exit 2))) (.seq 
 (.block 3 (.seq 
 (.seqg (.drw [oQ 43 (.mv (.t 11)), oQ 44 (.mv (.t 12)), oQ 45 (.mv (.t 1)), oQ 46 (.mv (.t 6)), oQ 47 (.mv (.t 1)), oQ 48 (.len (.t 47)), oQ 49 (.bin .rem .num (.t 46) (.t 48)), oQ 50 (.ix 1 (.t 45) (.t 49)), oQ 51 (.ld 1 false (.t 50)), oQ 52 (.cvi .i64 (.t 51)), oQ 53 (.fa 0 (.t 2)), oQ 54 (.ld 1 false (.t 53)), oQ 55 (.mv (.t 7)), oQ 56 (.ix 11 (.t 54) (.t 55)), oQ 57 (.fa 2 (.t 56)), oQ 58 (.ld 1 false (.t 57)), oQ 59 (.call F_fathomref15_Top [(.t 58)]), oQ 60 (.bin .add .num (.t 59) (.c (.int .i64 1))), oQ 61 (.bin .rem .num (.t 52) (.t 60)), oQ 62 (.ix 1 (.t 43) (.t 44)), oN (.st 1 (.t 62) (.t 61))])
  (.keep [1, 2, 5, 6, 7, 8, 9, 11, 12])) 
 (.seqg (.reg [oQ 63 (.mv (.t 6)), oQ 64 (.bin .add .num (.t 63) (.c (.int .i64 1))), oQ 6 (.mv (.t 64))])
  (.keep [1, 2, 5, 6, 7, 8, 9, 11, 12])))) 
 (.seqg (.reg [oQ 41 (.mv (.t 12)), oQ 42 (.bin .add .num (.t 41) (.c (.int .i64 1))), oQ 12 (.mv (.t 42))])
  (.keep [1, 2, 5, 6, 7, 8, 9, 11, 12])))))))) 
 (.gseq (.freezer 11) (.seqg (.reg [oQ 65 (.mv (.t 5)), oQ 66 (.mv (.t 8)), oQ 67 (.fa 0 (.t 2)), oQ 68 (.ld 1 false (.t 67)), oQ 69 (.mv (.t 7)), oQ 70 (.ix 11 (.t 68) (.t 69)), oQ 71 (.fa 2 (.t 70)), oQ 72 (.ld 1 false (.t 71)), oQ 73 (.mv (.t 11)), oQ 74 (.call F_fathomref16_Of [(.t 66), (.t 72), (.t 73)]), oQ 75 (.bsl 4 [(.t 74)]), oE 76 (.app 4 64 (.t 65) (.t 75)), oQ 5 (.mv (.t 76))])
  (.keep [1, 2, 5, 6, 7])))))))) 
 (.seqg (.reg [oQ 18 (.mv (.t 7)), oQ 19 (.bin .add .num (.t 18) (.c (.int .i64 1))), oQ 7 (.mv (.t 19))])
  (.keep [1, 2, 5, 6, 7])))))))) (.seq 
 (.seqg (.reg [oQ 77 (.mv (.t 5)), oQ 4 (.mv (.t 77))])
  (.keep [4])) .ret)))))
def r_fathomlaw17_Tables : List ARes := [.t 4]
theorem w_fathomlaw17_Tables : FnW Tryz.prog F_fathomlaw17_Tables c_fathomlaw17_Tables r_fathomlaw17_Tables 78 := ⟨Tryz.f9, (Tryz.f9).body.get rfl, by kernel_rfl, Tryz.func9, by kernel_rfl, by kernel_rfl, by kernel_rfl, by kernel_rfl⟩
def c_query_Places : ACode := (.seq 
 (.seqg (.reg [oQ 3 (.box (.t 0)), oQ 6 (.mv (.c (.sl .full 1 []))), oQ 7 (.mv (.c (.int .i64 0)))])
  (.keep [1, 2, 3])) (.seq (.seq 
 (.seqg (.reg [oQ 11 (.ld 1 true (.t 3)), oQ 12 (.mv (.t 1)), oQ 13 (.call F_query_fit [(.t 11), (.t 12)]), oQ 8 (.mv (.t 13))])
  (.keep [1, 2, 3, 8])) (.seq 
 (.seqg (.reg [oQ 14 (.mv (.t 8)), oQ 15 (.bin .neq .num (.t 14) (.c (.int .i64 0)))])
  (.keep [1, 2, 3, 8, 15])) 
 (.cond (.t 15) (.seq 
 (.seqg (.reg [oQ 16 (.mv (.t 8)), oQ 6 (.mv (.c (.sl .full 1 []))), oQ 7 (.mv (.t 16))])
  (.keep [6, 7])) .ret) .skip))) (.seq (.seq 
 (.seqg (.reg [oQ 17 (.mv (.t 2)), oQ 18 (.bin .lss .num (.t 17) (.c (.int .i64 0))), oQ 19 (.mv (.t 18)), oFQ 20 19 (.mv (.t 2)), oFQ 21 19 (.fa 0 (.t 3)), oFQ 22 19 (.ld 1 false (.t 21)), oFQ 23 19 (.len (.t 22)), oFQ 24 19 (.bin .geq .num (.t 20) (.t 23)), oQ 25 (.pick (.t 19) (.c (.bool true)) (.t 24))])
  (.keep [1, 2, 3, 25])) 
 (.cond (.t 25) (.seq 
 (.seqg (.reg [oQ 6 (.mv (.c (.sl .full 1 []))), oQ 7 (.mv (.c (.int .i64 2)))])
  (.keep [6, 7])) .ret) .skip)) (.seq 
 (.seqg (.seqg (.reg [oQ 9 (.mv (.c (.sl .full 1 [])))])
  (.keep [1, 2, 3, 9]))
  (.mint 9)) (.seq (.seq 
 (.seqg (.reg [oQ 26 (.fa 0 (.t 3)), oQ 27 (.ld 1 false (.t 26)), oQ 28 (.mv (.t 2)), oQ 29 (.ix 11 (.t 27) (.t 28)), oQ 30 (.fa 1 (.t 29)), oQ 31 (.ld 1 false (.t 30)), oQ 32 (.len (.t 31)), oQ 33 (.mv (.c (.int .i64 0)))])
  (.keep [1, 2, 9, 32, 33])) 
 (.block 0 
 (.gseq (.keep [1, 2, 9, 32, 33]) (.loop (.seq 
 (.seqg (.reg [oQ 34 (.bin .lss .num (.t 33) (.t 32))])
  (.keep [1, 2, 9, 32, 33, 34])) (.seq 
 (.cond (.t 34) .skip (.exit 0)) (.seq 
 (.block 1 (.seq 
 (.seqg (.reg [oQ 35 (.mv (.t 33)), oQ 10 (.mv (.t 35))])
  (.keep [1, 2, 9, 10, 32, 33])) 
 (.seqg (.reg [oQ 36 (.mv (.t 9)), oQ 37 (.mv (.t 1)), oQ 38 (.mv (.t 2)), oQ 39 (.ix 4 (.t 37) (.t 38)), oQ 40 (.ld 4 true (.t 39)), oQ 41 (.mv (.t 10)), oQ 42 (.call F_query_at [(.t 40), (.t 41), (.c (.int .i64 0))]), oQ 43 (.bin .eql .num (.t 42) (.c (.int .i64 0))), oQ 44 (.bsl 1 [(.t 43)]), oE 45 (.app 1 1 (.t 36) (.t 44)), oQ 9 (.mv (.t 45))])
  (.keep [1, 2, 9, 32, 33])))) 
 (.seqg (.reg [oQ 46 (.bin .add .num (.t 33) (.c (.int .i64 1))), oQ 33 (.mv (.t 46))])
  (.keep [1, 2, 9, 32, 33]))))))))) (.seq 
 (.seqg (.reg [oQ 47 (.mv (.t 9)), oQ 6 (.mv (.t 47)), oQ 7 (.mv (.c (.int .i64 0)))])
  (.keep [6, 7])) .ret))))))
def r_query_Places : List ARes := [.t 6, .t 7]
theorem w_query_Places : FnW Tryz.prog F_query_Places c_query_Places r_query_Places 48 := ⟨Tryz.f10, (Tryz.f10).body.get rfl, by kernel_rfl, Tryz.func10, by kernel_rfl, by kernel_rfl, by kernel_rfl, by kernel_rfl⟩
def c_query_Strict : ACode := (.seq 
 (.seqg (.reg [oQ 4 (.box (.t 0)), oQ 8 (.mv (.c (.bool false))), oQ 9 (.mv (.c (.int .i64 0)))])
  (.keep [1, 2, 3, 4])) (.seq (.seq 
 (.seqg (.reg [oQ 13 (.ld 1 true (.t 4)), oQ 14 (.mv (.t 1)), oQ 15 (.mv (.t 2)), oQ 16 (.mv (.t 3)), oQ 17 (.call F_query_Demand [(.t 13), (.t 14), (.t 15), (.t 16)]), oQ 12 (.mv (.t 17)), oQ 18 (.ext (.t 12) 0), oQ 19 (.ext (.t 12) 1), oQ 10 (.mv (.t 18)), oQ 11 (.mv (.t 19))])
  (.keep [1, 2, 3, 11])) (.seq 
 (.seqg (.reg [oQ 20 (.mv (.t 11)), oQ 21 (.bin .neq .num (.t 20) (.c (.int .i64 0)))])
  (.keep [1, 2, 3, 11, 21])) 
 (.cond (.t 21) (.seq 
 (.seqg (.reg [oQ 22 (.mv (.t 11)), oQ 8 (.mv (.c (.bool false))), oQ 9 (.mv (.t 22))])
  (.keep [8, 9])) .ret) .skip))) (.seq 
 (.seqg (.reg [oQ 23 (.mv (.t 1)), oQ 24 (.mv (.t 2)), oQ 25 (.ix 4 (.t 23) (.t 24)), oQ 26 (.ld 4 true (.t 25)), oQ 27 (.mv (.t 3)), oQ 28 (.call F_query_at [(.t 26), (.t 27), (.c (.int .i64 0))]), oQ 29 (.bin .eql .num (.t 28) (.c (.int .i64 0))), oQ 8 (.mv (.t 29)), oQ 9 (.mv (.c (.int .i64 0)))])
  (.keep [8, 9])) .ret)))
def r_query_Strict : List ARes := [.t 8, .t 9]
theorem w_query_Strict : FnW Tryz.prog F_query_Strict c_query_Strict r_query_Strict 30 := ⟨Tryz.f13, (Tryz.f13).body.get rfl, by kernel_rfl, Tryz.func13, by kernel_rfl, by kernel_rfl, by kernel_rfl, by kernel_rfl⟩
def c_fathomref15_Top : ACode := (.seq 
 (.seqg (.reg [oQ 2 (.mv (.c (.int .i64 0)))])
  (.keep [0])) (.seq (.seq 
 (.seqg (.reg [oQ 3 (.mv (.t 0))])
  (.keep [3])) 
 (.block 0 (.seq (.seq 
 (.seqg (.reg [oQ 5 (.bin .eql .num (.t 3) (.c (.int .i64 1))), oQ 4 (.mv (.t 5))])
  (.keep [3, 4])) 
 (.cond (.t 4) .skip 
 (.seqg (.reg [oQ 6 (.bin .eql .num (.t 3) (.c (.int .i64 2))), oQ 4 (.mv (.t 6))])
  (.keep [3, 4])))) 
 (.cond (.t 4) (.seq 
 (.seqg (.reg [oQ 2 (.mv (.c (.int .i64 1)))])
  (.keep [2])) .ret) (.seq 
 (.seqg (.reg [oQ 8 (.bin .eql .num (.t 3) (.c (.int .i64 3))), oQ 7 (.mv (.t 8))])
  (.keep [7])) 
 (.cond (.t 7) (.seq 
 (.seqg (.reg [oQ 2 (.mv (.c (.int .i64 3)))])
  (.keep [2])) .ret) .skip)))))) (.seq 
 (.seqg (.reg [oQ 2 (.mv (.c (.int .i64 (-1))))])
  (.keep [2])) .ret)))
def r_fathomref15_Top : List ARes := [.t 2]
theorem w_fathomref15_Top : FnW Tryz.prog F_fathomref15_Top c_fathomref15_Top r_fathomref15_Top 9 := ⟨Tryz.f14, (Tryz.f14).body.get rfl, by kernel_rfl, Tryz.func14, by kernel_rfl, by kernel_rfl, by kernel_rfl, by kernel_rfl⟩
def c_query_Needs : ACode := (.seq 
 (.seqg (.reg [oQ 5 (.box (.t 0)), oQ 8 (.box (.t 3)), oQ 9 (.box (.t 4)), oQ 10 (.mv (.c (.bool false))), oQ 11 (.mv (.c (.int .i64 0)))])
  (.keep [1, 2, 5, 8, 9])) (.seq 
 (.seqg (.reg [oQ 15 (.mv (.t 2)), oQ 16 (.len (.t 15)), oQ 12 (.mv (.t 16))])
  (.keep [1, 2, 5, 8, 9, 12])) (.seq 
 (.seqg (.drb [oQ 18 (.ld 1 true (.t 5)), oQ 19 (.mv (.t 1)), oQ 20 (.mv (.t 2)), oQ 21 (.mv (.t 12)), oQ 22 (.mv (.t 12)), oQ 23 (.slc 3 (.t 20) none (some (.t 21)) (some (.t 22))), oQ 24 (.fa 0 (.t 8)), oQ 25 (.ld 1 false (.t 24)), oQ 26 (.fa 1 (.t 8)), oQ 27 (.ld 1 false (.t 26)), oQ 28 (.bld [.str ⟨#[]⟩, .int .i64 0, .int .i64 0] [(0, 1, (.t 25)), (1, 1, (.t 27))]), oQ 29 (.bsl 3 [(.t 28)]), oE 30 (.app 3 32 (.t 23) (.t 29)), oQ 31 (.ld 7 true (.t 9)), oQ 32 (.call F_abseval_Expr [(.t 18), (.t 19), (.t 30), (.t 31)]), oQ 17 (.mv (.t 32)), oQ 33 (.ext (.t 17) 0), oQ 34 (.ext (.t 17) 1), oQ 13 (.mv (.t 33)), oQ 14 (.mv (.t 34))] [0, 1, 2, 3, 4, 5, 6, 7, 8, 9, 10, 11, 13, 12, 14, 15, 16, 17, 18, 19])
  (.keep [13, 14])) (.seq 
 (.seqg (.reg [oQ 35 (.mv (.t 14)), oQ 36 (.bin .eql .num (.t 35) (.c (.int .i64 0))), oQ 37 (.mv (.t 36)), oTQ 38 37 (.mv (.t 13)), oTQ 39 37 (.bin .eql .num (.t 38) (.c (.int .i64 0))), oQ 40 (.pick (.t 37) (.t 39) (.c (.bool false))), oQ 41 (.mv (.t 14)), oQ 10 (.mv (.t 40)), oQ 11 (.mv (.t 41))])
  (.keep [10, 11])) .ret))))
def r_query_Needs : List ARes := [.t 10, .t 11]
theorem w_query_Needs : FnW Tryz.prog F_query_Needs c_query_Needs r_query_Needs 42 := ⟨Tryz.f15, (Tryz.f15).body.get rfl, by kernel_rfl, Tryz.func15, by kernel_rfl, by kernel_rfl, by kernel_rfl, by kernel_rfl⟩
def c_fathomlaw17_Rising : ACode := (.seq 
 (.seqg (.reg [oQ 2 (.box (.t 0)), oQ 4 (.mv (.c (.sl .full 4 [])))])
  (.keep [1, 2])) (.seq 
 (.seqg (.seqg (.reg [oQ 5 (.mv (.c (.sl .full 4 [])))])
  (.keep [1, 2, 5]))
  (.mint 5)) (.seq 
 (.seqg (.reg [oQ 16 (.ld 1 true (.t 2)), oQ 17 (.mv (.t 1)), oQ 18 (.call F_fathomlaw17_Tables [(.t 16), (.t 17)]), oQ 6 (.mv (.t 18))])
  (.keep [5, 6])) (.seq (.seq 
 (.seqg (.reg [oQ 7 (.mv (.c (.int .i64 0)))])
  (.keep [5, 6, 7])) 
 (.block 0 
 (.gseq (.keep [5, 6, 7]) (.loop (.seq (.seq 
 (.seqg (.reg [oQ 19 (.mv (.t 7)), oQ 20 (.mv (.t 6)), oQ 21 (.len (.t 20)), oQ 22 (.bin .lss .num (.t 19) (.t 21))])
  (.keep [5, 6, 7, 22])) 
 (.cond (.t 22) .skip (.exit 0))) (.seq 
 (.block 1 (.seq 
 (.seqg (.reg [oQ 26 (.mv (.t 6)), oQ 27 (.mv (.t 7)), oQ 28 (.ix 4 (.t 26) (.t 27)), oQ 29 (.ld 4 true (.t 28)), oE 30 (.call (.c (.fn F_fathomref16_Points [])) [(.t 29)]), oQ 25 (.mv (.t 30)), oQ 31 (.ext (.t 25) 0), oQ 32 (.ext (.t 25) 1), oQ 8 (.mv (.t 31)), oQ 9 (.mv (.t 32))])
  (.keep [5, 6, 7, 8])) (.seq (.seq 
 (.seqg (.reg [oQ 10 (.mv (.c (.int .i64 0)))])
  (.keep [5, 6, 7, 8, 10])) 
 (.block 2 
 (.gseq (.keep [5, 6, 7, 8, 10]) (.loop (.seq (.seq 
 (.seqg (.reg [oQ 33 (.mv (.t 10)), oQ 34 (.mv (.t 8)), oQ 35 (.len (.t 34)), oQ 36 (.bin .lss .num (.t 33) (.t 35))])
  (.keep [5, 6, 7, 8, 10, 36])) 
 (.cond (.t 36) .skip (.exit 2))) (.seq 
 (.block 3 (.seq 
 (.seqg (.reg [oQ 40 (.mv (.t 6)), oQ 41 (.mv (.t 7)), oQ 42 (.ix 4 (.t 40) (.t 41)), oQ 43 (.fa 0 (.t 42)), oQ 44 (.ld 1 false (.t 43)), oQ 45 (.mv (.t 10)), oE 46 (.call (.c (.fn F_fathomref16_Tuple [])) [(.t 44), (.t 45)]), oQ 39 (.mv (.t 46)), oQ 47 (.ext (.t 39) 0), oQ 48 (.ext (.t 39) 1), oQ 11 (.mv (.t 47)), oQ 12 (.mv (.t 48))])
  (.keep [5, 6, 7, 8, 10, 11])) (.seq 
 (.seqg (.reg [oQ 13 (.mv (.c (.int .i64 0)))])
  (.keep [5, 6, 7, 8, 10, 11, 13])) 
 (.block 4 
 (.gseq (.keep [5, 6, 7, 8, 10, 11, 13]) (.loop (.seq (.seq 
 (.seqg (.reg [oQ 49 (.mv (.t 13)), oQ 50 (.mv (.t 11)), oQ 51 (.len (.t 50)), oQ 52 (.bin .lss .num (.t 49) (.t 51))])
  (.keep [5, 6, 7, 8, 10, 11, 13, 52])) 
 (.cond (.t 52) .skip (.exit 4))) (.seq 
 (.block 5 (.seq (.seq 
 (.seqg (.reg [oQ 55 (.mv (.t 11)), oQ 56 (.mv (.t 13)), oQ 57 (.ix 1 (.t 55) (.t 56)), oQ 58 (.ld 1 false (.t 57)), oQ 59 (.bin .eql .num (.t 58) (.c (.int .i64 0)))])
  (.keep [5, 6, 7, 8, 10, 11, 13, 59])) 
 (.cond (.t 59) (.exit 5) .skip)) (.seq 
 (.seqg (.reg [oQ 60 (.mv (.t 11)), oQ 61 (.mv (.t 13)), oQ 62 (.ix 1 (.t 60) (.t 61)), oQ 63 (.ld 1 false (.t 62)), oQ 64 (.bin .sub .num (.t 63) (.c (.int .i64 1))), oQ 65 (.ix 1 (.t 60) (.t 61)), oN (.st 1 (.t 65) (.t 64))])
  (.keep [5, 6, 7, 8, 10, 11, 13])) (.seq 
 (.seqg (.reg [oQ 67 (.mv (.t 6)), oQ 68 (.mv (.t 7)), oQ 69 (.ix 4 (.t 67) (.t 68)), oQ 70 (.fa 0 (.t 69)), oQ 71 (.ld 1 false (.t 70)), oQ 72 (.mv (.t 11)), oQ 73 (.lnd F_fathomref16_Number [(.t 71), (.t 72)]), oQ 66 (.mv (.t 73)), oQ 74 (.ext (.t 66) 0), oQ 75 (.ext (.t 66) 1), oQ 14 (.mv (.t 74)), oQ 15 (.mv (.t 75))])
  (.keep [5, 6, 7, 8, 10, 11, 13, 14])) (.seq 
 (.seqg (.reg [oQ 76 (.mv (.t 11)), oQ 77 (.mv (.t 13)), oQ 78 (.ix 1 (.t 76) (.t 77)), oQ 79 (.ld 1 false (.t 78)), oQ 80 (.bin .add .num (.t 79) (.c (.int .i64 1))), oQ 81 (.ix 1 (.t 76) (.t 77)), oN (.st 1 (.t 81) (.t 80))])
  (.keep [5, 6, 7, 8, 10, 11, 13, 14])) 
 (.seqg (.drw [oQ 82 (.mv (.t 8)), oQ 83 (.mv (.t 10)), oQ 84 (.mv (.t 8)), oQ 85 (.mv (.t 10)), oQ 86 (.ix 1 (.t 84) (.t 85)), oQ 87 (.ld 1 false (.t 86)), oQ 88 (.mv (.t 8)), oQ 89 (.mv (.t 14)), oQ 90 (.ix 1 (.t 88) (.t 89)), oQ 91 (.ld 1 false (.t 90)), oQ 92 (.mm true (.t 87) [(.t 91)]), oQ 93 (.ix 1 (.t 82) (.t 83)), oN (.st 1 (.t 93) (.t 92))])
  (.keep [5, 6, 7, 8, 10, 11, 13]))))))) 
 (.seqg (.reg [oQ 53 (.mv (.t 13)), oQ 54 (.bin .add .num (.t 53) (.c (.int .i64 1))), oQ 13 (.mv (.t 54))])
  (.keep [5, 6, 7, 8, 10, 11, 13])))))))))) 
 (.seqg (.reg [oQ 37 (.mv (.t 10)), oQ 38 (.bin .add .num (.t 37) (.c (.int .i64 1))), oQ 10 (.mv (.t 38))])
  (.keep [5, 6, 7, 8, 10])))))))) 
 (.gseq (.freezer 8) (.seqg (.drw [oQ 94 (.mv (.t 5)), oQ 95 (.mv (.t 6)), oQ 96 (.mv (.t 7)), oQ 97 (.ix 4 (.t 95) (.t 96)), oQ 98 (.fa 0 (.t 97)), oQ 99 (.ld 1 false (.t 98)), oQ 100 (.mv (.t 6)), oQ 101 (.mv (.t 7)), oQ 102 (.ix 4 (.t 100) (.t 101)), oQ 103 (.fa 1 (.t 102)), oQ 104 (.ld 1 false (.t 103)), oQ 105 (.mv (.t 8)), oQ 106 (.call F_fathomref16_Of [(.t 99), (.t 104), (.t 105)]), oQ 107 (.bsl 4 [(.t 106)]), oE 108 (.app 4 64 (.t 94) (.t 107)), oQ 5 (.mv (.t 108))])
  (.keep [5, 6, 7])))))) 
 (.seqg (.reg [oQ 23 (.mv (.t 7)), oQ 24 (.bin .add .num (.t 23) (.c (.int .i64 1))), oQ 7 (.mv (.t 24))])
  (.keep [5, 6, 7])))))))) (.seq 
 (.seqg (.reg [oQ 109 (.mv (.t 5)), oQ 4 (.mv (.t 109))])
  (.keep [4])) .ret)))))
def r_fathomlaw17_Rising : List ARes := [.t 4]
theorem w_fathomlaw17_Rising : FnW Tryz.prog F_fathomlaw17_Rising c_fathomlaw17_Rising r_fathomlaw17_Rising 110 := ⟨Tryz.f17, (Tryz.f17).body.get rfl, by kernel_rfl, Tryz.func17, by kernel_rfl, by kernel_rfl, by kernel_rfl, by kernel_rfl⟩
def c_query_Demand : ACode := (.seq 
 (.seqg (.reg [oQ 4 (.box (.t 0)), oQ 8 (.mv (.c (.int .i64 0))), oQ 9 (.mv (.c (.int .i64 0)))])
  (.keep [1, 2, 3, 4])) (.seq (.seq 
 (.seqg (.reg [oQ 13 (.ld 1 true (.t 4)), oQ 14 (.mv (.t 1)), oQ 15 (.call F_query_fit [(.t 13), (.t 14)]), oQ 10 (.mv (.t 15))])
  (.keep [1, 2, 3, 4, 10])) (.seq 
 (.seqg (.reg [oQ 16 (.mv (.t 10)), oQ 17 (.bin .neq .num (.t 16) (.c (.int .i64 0)))])
  (.keep [1, 2, 3, 4, 10, 17])) 
 (.cond (.t 17) (.seq 
 (.seqg (.reg [oQ 18 (.mv (.t 10)), oQ 8 (.mv (.c (.int .i64 0))), oQ 9 (.mv (.t 18))])
  (.keep [8, 9])) .ret) .skip))) (.seq (.seq 
 (.seqg (.reg [oQ 19 (.mv (.t 2)), oQ 20 (.bin .lss .num (.t 19) (.c (.int .i64 0))), oQ 21 (.mv (.t 20)), oFQ 22 21 (.mv (.t 2)), oFQ 23 21 (.fa 0 (.t 4)), oFQ 24 21 (.ld 1 false (.t 23)), oFQ 25 21 (.len (.t 24)), oFQ 26 21 (.bin .geq .num (.t 22) (.t 25)), oQ 27 (.pick (.t 21) (.c (.bool true)) (.t 26)), oQ 28 (.mv (.t 27)), oFQ 29 28 (.mv (.t 3)), oFQ 30 28 (.bin .lss .num (.t 29) (.c (.int .i64 0))), oQ 31 (.pick (.t 28) (.c (.bool true)) (.t 30)), oQ 32 (.mv (.t 31)), oFQ 33 32 (.mv (.t 3)), oFQ 34 32 (.fa 0 (.t 4)), oFQ 35 32 (.ld 1 false (.t 34)), oFQ 36 32 (.mv (.t 2)), oFQ 37 32 (.ix 11 (.t 35) (.t 36)), oFQ 38 32 (.fa 1 (.t 37)), oFQ 39 32 (.ld 1 false (.t 38)), oFQ 40 32 (.len (.t 39)), oFQ 41 32 (.bin .geq .num (.t 33) (.t 40)), oQ 42 (.pick (.t 32) (.c (.bool true)) (.t 41))])
  (.keep [1, 2, 3, 42])) 
 (.cond (.t 42) (.seq 
 (.seqg (.reg [oQ 8 (.mv (.c (.int .i64 0))), oQ 9 (.mv (.c (.int .i64 2)))])
  (.keep [8, 9])) .ret) .skip)) (.seq 
 (.seqg (.reg [oQ 44 (.mv (.t 1)), oQ 45 (.mv (.t 2)), oQ 46 (.ix 4 (.t 44) (.t 45)), oQ 47 (.fa 0 (.t 46)), oQ 48 (.ld 1 false (.t 47)), oQ 49 (.mv (.t 3)), oQ 50 (.ix 1 (.t 48) (.t 49)), oQ 51 (.ld 1 false (.t 50)), oQ 52 (.call F_points_Top [(.t 51)]), oQ 43 (.mv (.t 52)), oQ 53 (.ext (.t 43) 0), oQ 54 (.ext (.t 43) 1), oQ 11 (.mv (.t 53)), oQ 12 (.mv (.t 54))])
  (.keep [1, 2, 3, 11])) (.seq 
 (.block 0 
 (.gseq (.keep [1, 2, 3, 11]) (.loop (.seq (.seq 
 (.seqg (.reg [oQ 55 (.mv (.t 11)), oQ 56 (.bin .geq .num (.t 55) (.c (.int .i64 0))), oQ 57 (.mv (.t 56)), oTQ 58 57 (.mv (.t 1)), oTQ 59 57 (.mv (.t 2)), oTQ 60 57 (.ix 4 (.t 58) (.t 59)), oTQ 61 57 (.ld 4 true (.t 60)), oTQ 62 57 (.mv (.t 3)), oTQ 63 57 (.mv (.t 11)), oTQ 64 57 (.call F_query_at [(.t 61), (.t 62), (.t 63)]), oTQ 65 57 (.bin .gtr .num (.t 64) (.c (.int .i64 0))), oQ 66 (.pick (.t 57) (.t 65) (.c (.bool false)))])
  (.keep [1, 2, 3, 11, 66])) 
 (.cond (.t 66) .skip (.exit 0))) 
 (.block 1 
 (.seqg (.reg [oQ 67 (.mv (.t 11)), oQ 68 (.bin .sub .num (.t 67) (.c (.int .i64 1))), oQ 11 (.mv (.t 68))])
  (.keep [1, 2, 3, 11]))))))) (.seq 
 (.seqg (.reg [oQ 69 (.mv (.t 11)), oQ 8 (.mv (.t 69)), oQ 9 (.mv (.c (.int .i64 0)))])
  (.keep [8, 9])) .ret))))))
def r_query_Demand : List ARes := [.t 8, .t 9]
theorem w_query_Demand : FnW Tryz.prog F_query_Demand c_query_Demand r_query_Demand 70 := ⟨Tryz.f18, (Tryz.f18).body.get rfl, by kernel_rfl, Tryz.func18, by kernel_rfl, by kernel_rfl, by kernel_rfl, by kernel_rfl⟩
def c_fathomref15_Is : ACode := (.seq 
 (.seqg (.reg [oQ 4 (.mv (.c (.bool false)))])
  (.keep [0, 1])) (.seq 
 (.seqg (.reg [oQ 5 (.mv (.t 1)), oQ 6 (.bin .geq .num (.t 5) (.c (.int .i64 0))), oQ 7 (.mv (.t 6)), oTQ 8 7 (.mv (.t 1)), oTQ 9 7 (.mv (.t 0)), oTQ 10 7 (.call F_fathomref15_Top [(.t 9)]), oTQ 11 7 (.bin .leq .num (.t 8) (.t 10)), oQ 12 (.pick (.t 7) (.t 11) (.c (.bool false))), oQ 4 (.mv (.t 12))])
  (.keep [4])) .ret))
def r_fathomref15_Is : List ARes := [.t 4]
theorem w_fathomref15_Is : FnW Tryz.prog F_fathomref15_Is c_fathomref15_Is r_fathomref15_Is 13 := ⟨Tryz.f19, (Tryz.f19).body.get rfl, by kernel_rfl, Tryz.func19, by kernel_rfl, by kernel_rfl, by kernel_rfl, by kernel_rfl⟩
def c_fathomref16_At : ACode := (.seq 
 (.seqg (.reg [oQ 2 (.box (.t 0)), oQ 4 (.mv (.c (.int .i64 0))), oQ 5 (.mv (.c (.int .i64 0)))])
  (.keep [1, 2])) (.seq 
 (.seqg (.reg [oQ 11 (.ld 4 true (.t 2)), oE 12 (.call (.c (.fn F_fathomref16_Points [])) [(.t 11)]), oQ 10 (.mv (.t 12)), oQ 13 (.ext (.t 10) 0), oQ 14 (.ext (.t 10) 1), oQ 6 (.mv (.t 13)), oQ 7 (.mv (.t 14))])
  (.keep [1, 2, 6, 7])) (.seq (.seq 
 (.seqg (.reg [oQ 15 (.mv (.t 7)), oQ 16 (.not (.t 15))])
  (.keep [1, 2, 6, 16])) 
 (.cond (.t 16) (.seq 
 (.seqg (.reg [oQ 4 (.mv (.c (.int .i64 0))), oQ 5 (.mv (.c (.int .i64 3)))])
  (.keep [4, 5])) .ret) .skip)) (.seq 
 (.seqg (.reg [oQ 18 (.fa 0 (.t 2)), oQ 19 (.ld 1 false (.t 18)), oQ 20 (.mv (.t 1)), oQ 21 (.call F_fathomref16_Number [(.t 19), (.t 20)]), oQ 17 (.mv (.t 21)), oQ 22 (.ext (.t 17) 0), oQ 23 (.ext (.t 17) 1), oQ 8 (.mv (.t 22)), oQ 9 (.mv (.t 23))])
  (.keep [6, 8, 9])) (.seq (.seq 
 (.seqg (.reg [oQ 24 (.mv (.t 9)), oQ 25 (.bin .neq .num (.t 24) (.c (.int .i64 0)))])
  (.keep [6, 8, 9, 25])) 
 (.cond (.t 25) (.seq 
 (.seqg (.reg [oQ 26 (.mv (.t 9)), oQ 4 (.mv (.c (.int .i64 0))), oQ 5 (.mv (.t 26))])
  (.keep [4, 5])) .ret) .skip)) (.seq 
 (.seqg (.reg [oQ 27 (.mv (.t 6)), oQ 28 (.mv (.t 8)), oQ 29 (.ix 1 (.t 27) (.t 28)), oQ 30 (.ld 1 false (.t 29)), oQ 4 (.mv (.t 30)), oQ 5 (.mv (.c (.int .i64 0)))])
  (.keep [4, 5])) .ret))))))
def r_fathomref16_At : List ARes := [.t 4, .t 5]
theorem w_fathomref16_At : FnW Tryz.prog F_fathomref16_At c_fathomref16_At r_fathomref16_At 31 := ⟨Tryz.f20, (Tryz.f20).body.get rfl, by kernel_rfl, Tryz.func20, by kernel_rfl, by kernel_rfl, by kernel_rfl, by kernel_rfl⟩
def c_fathomref18_Analyse : ACode := (.seq 
 (.seqg (.reg [oQ 1 (.box (.t 0)), oQ 2 (.mv (.c (.sl .full 4 []))), oQ 3 (.mv (.c (.int .i64 0)))])
  (.keep [1])) (.seq 
 (.seqg (.reg [oQ 16 (.ld 1 true (.t 1)), oQ 17 (.call F_fathomref18_Fits [(.t 16)]), oQ 4 (.mv (.t 17))])
  (.keep [1, 4])) (.seq (.seq 
 (.seqg (.reg [oQ 18 (.mv (.t 4)), oQ 19 (.bin .neq .num (.t 18) (.c (.int .i64 0)))])
  (.keep [1, 4, 19])) 
 (.cond (.t 19) (.seq 
 (.seqg (.reg [oQ 20 (.mv (.t 4)), oQ 2 (.mv (.c (.sl .full 4 []))), oQ 3 (.mv (.t 20))])
  (.keep [2, 3])) .ret) .skip)) (.seq 
 (.seqg (.reg [oQ 21 (.ld 1 true (.t 1)), oQ 22 (.bld [.sl .full 11 [], .sl .full 1 []] [(0, 1, (.t 21))]), oE 23 (.boxO (.t 22)), oQ 5 (.mv (.t 23))])
  (.keep [1, 5])) (.seq (.seq 
 (.seqg (.reg [oQ 6 (.mv (.c (.int .i64 0)))])
  (.keep [1, 5, 6])) 
 (.block 0 
 (.gseq (.keep [1, 5, 6]) (.loop (.seq (.seq 
 (.seqg (.reg [oQ 24 (.mv (.t 6)), oQ 25 (.fa 0 (.t 1)), oQ 26 (.ld 1 false (.t 25)), oQ 27 (.len (.t 26)), oQ 28 (.bin .lss .num (.t 24) (.t 27))])
  (.keep [1, 5, 6, 28])) 
 (.cond (.t 28) .skip (.exit 0))) (.seq 
 (.block 1 (.seq 
 (.seqg (.reg [oQ 32 (.fa 0 (.t 1)), oQ 33 (.ld 1 false (.t 32)), oQ 34 (.mv (.t 6)), oQ 35 (.ix 11 (.t 33) (.t 34)), oQ 36 (.ld 11 true (.t 35)), oQ 37 (.call F_fathomref17_Types [(.t 36)]), oQ 38 (.call F_fathomref16_Count [(.t 37)]), oQ 31 (.mv (.t 38)), oQ 39 (.ext (.t 31) 0), oQ 40 (.ext (.t 31) 1), oQ 7 (.mv (.t 39)), oQ 8 (.mv (.t 40))])
  (.keep [1, 5, 6, 7])) 
 (.seqg (.drm [oQ 41 (.mv (.t 5)), oQ 42 (.mv (.t 5)), oQ 43 (.chk (.t 42)), oQ 44 (.fa 1 (.t 43)), oQ 45 (.ld 1 false (.t 44)), oQ 46 (.mv (.t 7)), oQ 47 (.mkz 1 8 [.int .i64 0] (.t 46)), oQ 48 (.bsl 1 [(.t 47)]), oE 49 (.app 1 24 (.t 45) (.t 48)), oQ 50 (.chk (.t 41)), oQ 51 (.fa 1 (.t 50)), oN (.st 1 (.t 51) (.t 49))] [(0, false), (1, false), (2, false), (3, false), (4, true), (5, false), (6, false), (7, false), (8, true), (9, true), (10, true), (11, true)])
  (.keep [1, 5, 6])))) 
 (.seqg (.reg [oQ 29 (.mv (.t 6)), oQ 30 (.bin .add .num (.t 29) (.c (.int .i64 1))), oQ 6 (.mv (.t 30))])
  (.keep [1, 5, 6])))))))) (.seq (.seq 
 (.seqg (.reg [oQ 9 (.mv (.c (.bool true)))])
  (.keep [1, 5, 9])) 
 (.block 2 
 (.gseq (.keep [1, 5, 9]) (.loop (.seq (.seq 
 (.seqg (.reg [oQ 52 (.mv (.t 9))])
  (.keep [1, 5, 52])) 
 (.cond (.t 52) .skip (.exit 2))) 
 (.block 3 (.seq 
 (.seqg (.reg [oQ 9 (.mv (.c (.bool false)))])
  (.keep [1, 5, 9])) (.seq 
 (.seqg (.seqg (.reg [oQ 10 (.mv (.c (.sl .full 1 [])))])
  (.keep [1, 5, 9, 10]))
  (.mint 10)) (.seq (.seq 
 (.seqg (.reg [oQ 11 (.mv (.c (.int .i64 0)))])
  (.keep [1, 5, 9, 10, 11])) 
 (.block 4 
 (.gseq (.keep [1, 5, 9, 10, 11]) (.loop (.seq (.seq 
 (.seqg (.reg [oQ 53 (.mv (.t 11)), oQ 54 (.fa 0 (.t 1)), oQ 55 (.ld 1 false (.t 54)), oQ 56 (.len (.t 55)), oQ 57 (.bin .lss .num (.t 53) (.t 56))])
  (.keep [1, 5, 9, 10, 11, 57])) 
 (.cond (.t 57) .skip (.exit 4))) (.seq 
 (.block 5 (.seq 
 (.seqg (.reg [oQ 60 (.mv (.t 5)), oQ 61 (.mv (.t 11)), oE 62 (.call (.c (.fn F_fathomref17_Sight_Round [])) [(.t 60), (.t 61)]), oQ 12 (.mv (.t 62))])
  (.keep [1, 5, 9, 10, 11, 12])) (.seq 
 (.seqg (.reg [oQ 63 (.mv (.t 9)), oQ 64 (.mv (.t 63)), oFQ 65 64 (.mv (.t 12)), oFQ 66 64 (.mv (.t 5)), oFQ 67 64 (.chk (.t 66)), oFQ 68 64 (.fa 1 (.t 67)), oFQ 69 64 (.ld 1 false (.t 68)), oFQ 70 64 (.mv (.t 11)), oFQ 71 64 (.ix 1 (.t 69) (.t 70)), oFQ 72 64 (.ld 1 false (.t 71)), oFQ 73 64 (.call F_fathomref18_same [(.t 65), (.t 72)]), oFQ 74 64 (.not (.t 73)), oQ 75 (.pick (.t 64) (.c (.bool true)) (.t 74)), oQ 9 (.mv (.t 75))])
  (.keep [1, 5, 9, 10, 11, 12])) 
 (.seqg (.reg [oQ 76 (.mv (.t 10)), oQ 77 (.mv (.t 12)), oQ 78 (.bsl 1 [(.t 77)]), oE 79 (.app 1 24 (.t 76) (.t 78)), oQ 10 (.mv (.t 79))])
  (.keep [1, 5, 9, 10, 11]))))) 
 (.seqg (.reg [oQ 58 (.mv (.t 11)), oQ 59 (.bin .add .num (.t 58) (.c (.int .i64 1))), oQ 11 (.mv (.t 59))])
  (.keep [1, 5, 9, 10, 11])))))))) 
 (.seqg (.reg [oQ 80 (.mv (.t 5)), oQ 81 (.mv (.t 10)), oQ 82 (.chk (.t 80)), oQ 83 (.fa 1 (.t 82)), oN (.st 1 (.t 83) (.t 81))])
  (.keep [1, 5, 9]))))))))))) (.seq 
 (.seqg (.seqg (.reg [oQ 13 (.mv (.c (.sl .full 4 [])))])
  (.keep [1, 5, 13]))
  (.mint 13)) (.seq (.seq 
 (.seqg (.reg [oQ 14 (.mv (.c (.int .i64 0)))])
  (.keep [1, 5, 13, 14])) 
 (.block 6 
 (.gseq (.keep [1, 5, 13, 14]) (.gseq (.freezep 5) (.loop (.seq (.seq 
 (.seqg (.reg [oQ 84 (.mv (.t 14)), oQ 85 (.fa 0 (.t 1)), oQ 86 (.ld 1 false (.t 85)), oQ 87 (.len (.t 86)), oQ 88 (.bin .lss .num (.t 84) (.t 87))])
  (.keep [1, 5, 13, 14, 88])) 
 (.cond (.t 88) .skip (.exit 6))) (.seq 
 (.block 7 (.seq 
 (.seqg (.drb [oQ 91 (.fa 0 (.t 1)), oQ 92 (.ld 1 false (.t 91)), oQ 93 (.mv (.t 14)), oQ 94 (.ix 11 (.t 92) (.t 93)), oQ 95 (.ld 11 true (.t 94)), oQ 96 (.call F_fathomref17_Types [(.t 95)]), oQ 97 (.fa 0 (.t 1)), oQ 98 (.ld 1 false (.t 97)), oQ 99 (.mv (.t 14)), oQ 100 (.ix 11 (.t 98) (.t 99)), oQ 101 (.fa 2 (.t 100)), oQ 102 (.ld 1 false (.t 101)), oQ 103 (.mv (.t 5)), oQ 104 (.chk (.t 103)), oQ 105 (.fa 1 (.t 104)), oQ 106 (.ld 1 false (.t 105)), oQ 107 (.mv (.t 14)), oQ 108 (.ix 1 (.t 106) (.t 107)), oQ 109 (.ld 1 false (.t 108)), oQ 110 (.call F_fathomref16_Of [(.t 96), (.t 102), (.t 109)]), oE 15 (.alloc [.sl .full 1 [], .int .i64 0, .int .i64 0, .sl .full 1 []]), oN (.st 4 (.t 15) (.t 110))] [0, 1, 2, 3, 4, 5, 6, 7, 8, 9, 10, 11, 12, 13, 14, 15, 16, 17, 18, 19, 20, 21])
  (.keep [1, 5, 13, 14, 15])) 
 (.seqg (.reg [oQ 111 (.mv (.t 13)), oQ 112 (.ld 4 true (.t 15)), oQ 113 (.bsl 4 [(.t 112)]), oE 114 (.app 4 64 (.t 111) (.t 113)), oQ 13 (.mv (.t 114))])
  (.keep [1, 5, 13, 14])))) 
 (.seqg (.reg [oQ 89 (.mv (.t 14)), oQ 90 (.bin .add .num (.t 89) (.c (.int .i64 1))), oQ 14 (.mv (.t 90))])
  (.keep [1, 5, 13, 14]))))))))) (.seq 
 (.seqg (.reg [oQ 115 (.mv (.t 13)), oQ 2 (.mv (.t 115)), oQ 3 (.mv (.c (.int .i64 0)))])
  (.keep [2, 3])) .ret)))))))))
def r_fathomref18_Analyse : List ARes := [.t 2, .t 3]
theorem w_fathomref18_Analyse : FnW Tryz.prog F_fathomref18_Analyse c_fathomref18_Analyse r_fathomref18_Analyse 116 := ⟨Tryz.f23, (Tryz.f23).body.get rfl, by kernel_rfl, Tryz.func23, by kernel_rfl, by kernel_rfl, by kernel_rfl, by kernel_rfl⟩
def c_fathomref04_Parse : ACode := (.seq 
 (.seqg (.reg [oE 3 (.boxO (.t 1)), oE 4 (.alloc [.sl .full 11 []]), oE 5 (.alloc [.int .i64 0, .int .i64 0])])
  (.keep [0, 3, 4, 5])) (.seq 
 (.seqg (.reg [oQ 10 (.fa 0 (.t 3)), oQ 11 (.ld 1 false (.t 10)), oQ 12 (.mm true (.t 11) [(.c (.int .i64 0))]), oQ 13 (.mm false (.t 12) [(.c (.int .i64 32768))]), oQ 14 (.fa 0 (.t 3)), oN (.st 1 (.t 14) (.t 13))])
  (.keep [0, 3, 4, 5])) (.seq (.seq 
 (.seqg (.reg [oQ 15 (.mv (.t 0)), oQ 16 (.len (.t 15)), oQ 17 (.fa 0 (.t 3)), oQ 18 (.ld 1 false (.t 17)), oQ 19 (.bin .gtr .num (.t 16) (.t 18))])
  (.keep [0, 3, 4, 5, 19])) 
 (.cond (.t 19) (.seq 
 (.gseq (.freezep 3) (.seqg (.drb [oQ 20 (.bld [.sl .full 11 []] []), oQ 21 (.fa 0 (.t 3)), oQ 22 (.ld 1 false (.t 21)), oQ 23 (.bld [.int .i64 0, .int .i64 0] [(0, 1, (.c (.int .i64 22))), (1, 1, (.t 22))]), oN (.st 1 (.t 4) (.t 20)), oN (.st 2 (.t 5) (.t 23))] [0, 1, 2, 3, 4, 5])
  (.keep [4, 5]))) .ret) .skip)) (.seq 
 (.seqg (.reg [oQ 25 (.mv (.t 0)), oQ 26 (.call F_fathomref03_Marks [(.t 25)]), oQ 24 (.mv (.t 26)), oQ 27 (.ext (.t 24) 0), oQ 28 (.ext (.t 24) 1), oQ 6 (.mv (.t 27)), oQ 7 (.mv (.t 28))])
  (.keep [3, 4, 5, 6, 7])) (.seq (.seq 
 (.seqg (.reg [oQ 29 (.mv (.t 7)), oQ 30 (.bin .geq .num (.t 29) (.c (.int .i64 0)))])
  (.keep [3, 4, 5, 6, 7, 30])) 
 (.cond (.t 30) (.seq 
 (.seqg (.reg [oQ 31 (.bld [.sl .full 11 []] []), oQ 32 (.mv (.t 7)), oQ 33 (.bld [.int .i64 0, .int .i64 0] [(0, 1, (.c (.int .i64 20))), (1, 1, (.t 32))]), oN (.st 1 (.t 4) (.t 31)), oN (.st 2 (.t 5) (.t 33))])
  (.keep [4, 5])) .ret) .skip)) (.seq 
 (.seqg (.reg [oQ 34 (.mv (.t 6)), oQ 35 (.ld 4 true (.t 3)), oQ 36 (.bld [.sl .full 4 [], .int .i64 0, .int .i64 0, .int .i64 0, .int .i64 0, .int .i64 0, .int .i64 0, .int .i64 0, .int .i64 0] [(0, 1, (.t 34)), (4, 4, (.t 35))]), oE 37 (.boxO (.t 36)), oQ 8 (.mv (.t 37))])
  (.keep [4, 5, 8])) (.seq 
 (.seqg (.reg [oQ 38 (.mv (.t 8)), oE 39 (.call (.c (.fn F_fathomref04_reader_program [])) [(.t 38)]), oE 9 (.alloc [.sl .full 11 []]), oN (.st 1 (.t 9) (.t 39))])
  (.keep [4, 5, 8, 9])) (.seq (.seq 
 (.seqg (.reg [oQ 40 (.mv (.t 8)), oQ 41 (.chk (.t 40)), oQ 42 (.fa 2 (.t 41)), oQ 43 (.ld 1 false (.t 42)), oQ 44 (.bin .neq .num (.t 43) (.c (.int .i64 0)))])
  (.keep [4, 5, 8, 9, 44])) 
 (.cond (.t 44) (.seq 
 (.gseq (.freezep 8) (.seqg (.drb [oQ 45 (.bld [.sl .full 11 []] []), oQ 46 (.mv (.t 8)), oQ 47 (.chk (.t 46)), oQ 48 (.fa 2 (.t 47)), oQ 49 (.ld 1 false (.t 48)), oQ 50 (.mv (.t 8)), oQ 51 (.chk (.t 50)), oQ 52 (.fa 3 (.t 51)), oQ 53 (.ld 1 false (.t 52)), oQ 54 (.bld [.int .i64 0, .int .i64 0] [(0, 1, (.t 49)), (1, 1, (.t 53))]), oN (.st 1 (.t 4) (.t 45)), oN (.st 2 (.t 5) (.t 54))] [0, 1, 2, 3, 4, 5, 6, 7, 8, 9, 10, 11])
  (.keep [4, 5]))) .ret) .skip)) (.seq 
 (.seqg (.reg [oQ 55 (.ld 1 true (.t 9)), oQ 56 (.bld [.int .i64 0, .int .i64 0] []), oN (.st 1 (.t 4) (.t 55)), oN (.st 2 (.t 5) (.t 56))])
  (.keep [4, 5])) .ret)))))))))
def r_fathomref04_Parse : List ARes := [.c 4 1 true, .c 5 2 true]
theorem w_fathomref04_Parse : FnW Tryz.prog F_fathomref04_Parse c_fathomref04_Parse r_fathomref04_Parse 57 := ⟨Tryz.f24, (Tryz.f24).body.get rfl, by kernel_rfl, Tryz.func24, by kernel_rfl, by kernel_rfl, by kernel_rfl, by kernel_rfl⟩
def c_fathomref04_Wide : ACode := (.seq 
 (.seqg (.reg [oE 0 (.alloc [.int .i64 0, .int .i64 0, .int .i64 0, .int .i64 0])])
  (.keep [0])) (.seq 
 (.seqg (.reg [oQ 1 (.bld [.int .i64 0, .int .i64 0, .int .i64 0, .int .i64 0] [(0, 1, (.c (.int .i64 32768))), (1, 1, (.c (.int .i64 32768))), (2, 1, (.c (.int .i64 32768))), (3, 1, (.c (.int .i64 32768)))]), oN (.st 4 (.t 0) (.t 1))])
  (.keep [0])) .ret))
def r_fathomref04_Wide : List ARes := [.c 0 4 true]
theorem w_fathomref04_Wide : FnW Tryz.prog F_fathomref04_Wide c_fathomref04_Wide r_fathomref04_Wide 2 := ⟨Tryz.f25, (Tryz.f25).body.get rfl, by kernel_rfl, Tryz.func25, by kernel_rfl, by kernel_rfl, by kernel_rfl, by kernel_rfl⟩
def c_fathomref17_Types : ACode := (.seq 
 (.seqg (.reg [oQ 1 (.box (.t 0)), oQ 2 (.mv (.c (.sl .full 1 [])))])
  (.keep [1])) (.seq 
 (.seqg (.seqg (.reg [oQ 3 (.mv (.c (.sl .full 1 [])))])
  (.keep [1, 3]))
  (.mint 3)) (.seq (.seq 
 (.seqg (.reg [oQ 4 (.mv (.c (.int .i64 0)))])
  (.keep [1, 3, 4])) 
 (.block 0 
 (.gseq (.keep [1, 3, 4]) (.loop (.seq (.seq 
 (.seqg (.reg [oQ 5 (.mv (.t 4)), oQ 6 (.fa 1 (.t 1)), oQ 7 (.ld 1 false (.t 6)), oQ 8 (.len (.t 7)), oQ 9 (.bin .lss .num (.t 5) (.t 8))])
  (.keep [1, 3, 4, 9])) 
 (.cond (.t 9) .skip (.exit 0))) (.seq 
 (.block 1 
 (.seqg (.reg [oQ 12 (.mv (.t 3)), oQ 13 (.fa 1 (.t 1)), oQ 14 (.ld 1 false (.t 13)), oQ 15 (.mv (.t 4)), oQ 16 (.ix 3 (.t 14) (.t 15)), oQ 17 (.fa 1 (.t 16)), oQ 18 (.ld 1 false (.t 17)), oQ 19 (.bsl 1 [(.t 18)]), oE 20 (.app 1 8 (.t 12) (.t 19)), oQ 3 (.mv (.t 20))])
  (.keep [1, 3, 4]))) 
 (.seqg (.reg [oQ 10 (.mv (.t 4)), oQ 11 (.bin .add .num (.t 10) (.c (.int .i64 1))), oQ 4 (.mv (.t 11))])
  (.keep [1, 3, 4])))))))) (.seq 
 (.seqg (.reg [oQ 21 (.mv (.t 3)), oQ 2 (.mv (.t 21))])
  (.keep [2])) .ret))))
def r_fathomref17_Types : List ARes := [.t 2]
theorem w_fathomref17_Types : FnW Tryz.prog F_fathomref17_Types c_fathomref17_Types r_fathomref17_Types 22 := ⟨Tryz.f26, (Tryz.f26).body.get rfl, by kernel_rfl, Tryz.func26, by kernel_rfl, by kernel_rfl, by kernel_rfl, by kernel_rfl⟩
def c_fathomref16_Count : ACode := (.seq 
 (.seqg (.reg [oQ 2 (.mv (.c (.int .i64 0))), oQ 3 (.mv (.c (.int .i64 0)))])
  (.keep [0])) (.seq (.seq 
 (.seqg (.reg [oQ 4 (.mv (.c (.int .i64 0)))])
  (.keep [0, 4])) 
 (.block 0 
 (.gseq (.keep [0, 4]) (.loop (.seq (.seq 
 (.seqg (.reg [oQ 7 (.mv (.t 4)), oQ 8 (.mv (.t 0)), oQ 9 (.len (.t 8)), oQ 10 (.bin .lss .num (.t 7) (.t 9))])
  (.keep [0, 4, 10])) 
 (.cond (.t 10) .skip (.exit 0))) (.seq 
 (.block 1 (.seq 
 (.seqg (.reg [oQ 13 (.mv (.t 0)), oQ 14 (.mv (.t 4)), oQ 15 (.ix 1 (.t 13) (.t 14)), oQ 16 (.ld 1 false (.t 15)), oQ 17 (.call F_fathomref15_Top [(.t 16)]), oQ 18 (.bin .lss .num (.t 17) (.c (.int .i64 0)))])
  (.keep [0, 4, 18])) 
 (.cond (.t 18) (.seq 
 (.seqg (.reg [oQ 2 (.mv (.c (.int .i64 0))), oQ 3 (.mv (.c (.int .i64 3)))])
  (.keep [2, 3])) .ret) .skip))) 
 (.seqg (.reg [oQ 11 (.mv (.t 4)), oQ 12 (.bin .add .num (.t 11) (.c (.int .i64 1))), oQ 4 (.mv (.t 12))])
  (.keep [0, 4])))))))) (.seq 
 (.seqg (.reg [oQ 5 (.mv (.c (.int .i64 1)))])
  (.keep [0, 5])) (.seq (.seq 
 (.seqg (.reg [oQ 6 (.mv (.c (.int .i64 0)))])
  (.keep [0, 5, 6])) 
 (.block 2 
 (.gseq (.keep [0, 5, 6]) (.loop (.seq (.seq 
 (.seqg (.reg [oQ 19 (.mv (.t 6)), oQ 20 (.mv (.t 0)), oQ 21 (.len (.t 20)), oQ 22 (.bin .lss .num (.t 19) (.t 21))])
  (.keep [0, 5, 6, 22])) 
 (.cond (.t 22) .skip (.exit 2))) (.seq 
 (.block 3 (.seq 
 (.seqg (.reg [oQ 25 (.mv (.t 5)), oQ 26 (.mv (.t 0)), oQ 27 (.mv (.t 6)), oQ 28 (.ix 1 (.t 26) (.t 27)), oQ 29 (.ld 1 false (.t 28)), oQ 30 (.call F_fathomref15_Top [(.t 29)]), oQ 31 (.bin .add .num (.t 30) (.c (.int .i64 1))), oQ 32 (.bin .mul .num (.t 25) (.t 31)), oQ 5 (.mv (.t 32))])
  (.keep [0, 5, 6])) (.seq 
 (.seqg (.reg [oQ 33 (.mv (.t 5)), oQ 34 (.bin .gtr .num (.t 33) (.c (.int .i64 4096)))])
  (.keep [0, 5, 6, 34])) 
 (.cond (.t 34) (.seq 
 (.seqg (.reg [oQ 2 (.mv (.c (.int .i64 0))), oQ 3 (.mv (.c (.int .i64 22)))])
  (.keep [2, 3])) .ret) .skip)))) 
 (.seqg (.reg [oQ 23 (.mv (.t 6)), oQ 24 (.bin .add .num (.t 23) (.c (.int .i64 1))), oQ 6 (.mv (.t 24))])
  (.keep [0, 5, 6])))))))) (.seq 
 (.seqg (.reg [oQ 35 (.mv (.t 5)), oQ 2 (.mv (.t 35)), oQ 3 (.mv (.c (.int .i64 0)))])
  (.keep [2, 3])) .ret)))))
def r_fathomref16_Count : List ARes := [.t 2, .t 3]
theorem w_fathomref16_Count : FnW Tryz.prog F_fathomref16_Count c_fathomref16_Count r_fathomref16_Count 36 := ⟨Tryz.f27, (Tryz.f27).body.get rfl, by kernel_rfl, Tryz.func27, by kernel_rfl, by kernel_rfl, by kernel_rfl, by kernel_rfl⟩
def c_fathomref16_Of : ACode := (.seq 
 (.seqg (.reg [oE 6 (.alloc [.sl .full 1 [], .int .i64 0, .int .i64 0, .sl .full 1 []])])
  (.keep [0, 1, 2, 6])) (.seq 
 (.seqg (.reg [oQ 7 (.mv (.t 0)), oQ 8 (.call F_fathomref16_copied [(.t 7)]), oQ 9 (.mv (.t 1)), oQ 10 (.mv (.t 2)), oQ 11 (.call F_fathomref02_Pack [(.t 10)]), oQ 12 (.bld [.sl .full 1 [], .int .i64 0, .int .i64 0, .sl .full 1 []] [(0, 1, (.t 8)), (1, 1, (.t 9)), (2, 2, (.t 11))]), oN (.st 4 (.t 6) (.t 12))])
  (.keep [6])) .ret))
def r_fathomref16_Of : List ARes := [.c 6 4 true]
theorem w_fathomref16_Of : FnW Tryz.prog F_fathomref16_Of c_fathomref16_Of r_fathomref16_Of 13 := ⟨Tryz.f28, (Tryz.f28).body.get rfl, by kernel_rfl, Tryz.func28, by kernel_rfl, by kernel_rfl, by kernel_rfl, by kernel_rfl⟩
def c_query_fit : ACode := (.seq 
 (.seqg (.reg [oQ 2 (.box (.t 0)), oQ 4 (.mv (.c (.int .i64 0)))])
  (.keep [1, 2])) (.seq (.seq 
 (.seqg (.reg [oQ 10 (.ld 1 true (.t 2)), oQ 11 (.call F_types_Check [(.t 10)]), oQ 12 (.fld 0 1 false (.t 11)), oQ 13 (.bin .neq .num (.t 12) (.c (.int .i64 0))), oQ 14 (.mv (.t 13)), oFQ 15 14 (.mv (.t 1)), oFQ 16 14 (.len (.t 15)), oFQ 17 14 (.fa 0 (.t 2)), oFQ 18 14 (.ld 1 false (.t 17)), oFQ 19 14 (.len (.t 18)), oFQ 20 14 (.bin .neq .num (.t 16) (.t 19)), oQ 21 (.pick (.t 14) (.c (.bool true)) (.t 20))])
  (.keep [1, 2, 21])) 
 (.cond (.t 21) (.seq 
 (.seqg (.reg [oQ 4 (.mv (.c (.int .i64 3)))])
  (.keep [4])) .ret) .skip)) (.seq (.seq 
 (.seqg (.reg [oQ 22 (.fa 0 (.t 2)), oQ 23 (.ld 1 false (.t 22)), oQ 24 (.len (.t 23)), oQ 25 (.mv (.c (.int .i64 0)))])
  (.keep [1, 23, 24, 25])) 
 (.block 0 
 (.gseq (.keep [1, 23, 24, 25]) (.loop (.seq 
 (.seqg (.reg [oQ 26 (.bin .lss .num (.t 25) (.t 24))])
  (.keep [1, 23, 24, 25, 26])) (.seq 
 (.cond (.t 26) .skip (.exit 0)) (.seq 
 (.block 1 (.seq 
 (.seqg (.reg [oQ 27 (.mv (.t 25)), oQ 28 (.ix 11 (.t 23) (.t 25)), oQ 29 (.ld 11 true (.t 28)), oE 6 (.alloc [.str ⟨#[]⟩, .sl .full 3 [], .int .i64 0, .int .i64 0, .str ⟨#[]⟩, .str ⟨#[]⟩, .int .i64 0, .cpx 0 0, .sl .full 7 [], .int .i64 0, .int .i64 0]), oQ 5 (.mv (.t 27)), oN (.st 11 (.t 6) (.t 29))])
  (.keep [1, 5, 6, 23, 24, 25])) (.seq 
 (.seqg (.reg [oQ 30 (.mv (.t 1)), oQ 31 (.mv (.t 5)), oQ 32 (.ix 4 (.t 30) (.t 31)), oQ 33 (.ld 4 true (.t 32)), oE 7 (.alloc [.sl .full 1 [], .int .i64 0, .int .i64 0, .sl .full 1 []]), oN (.st 4 (.t 7) (.t 33))])
  (.keep [1, 6, 7, 23, 24, 25])) (.seq (.seq 
 (.seqg (.reg [oQ 34 (.ld 4 true (.t 7)), oQ 35 (.call F_tuples_Check [(.t 34)]), oQ 36 (.bin .neq .num (.t 35) (.c (.int .i64 0))), oQ 37 (.mv (.t 36)), oFQ 38 37 (.fa 1 (.t 7)), oFQ 39 37 (.ld 1 false (.t 38)), oFQ 40 37 (.fa 2 (.t 6)), oFQ 41 37 (.ld 1 false (.t 40)), oFQ 42 37 (.bin .neq .num (.t 39) (.t 41)), oQ 43 (.pick (.t 37) (.c (.bool true)) (.t 42)), oQ 44 (.mv (.t 43)), oFQ 45 44 (.fa 0 (.t 7)), oFQ 46 44 (.ld 1 false (.t 45)), oFQ 47 44 (.len (.t 46)), oFQ 48 44 (.fa 1 (.t 6)), oFQ 49 44 (.ld 1 false (.t 48)), oFQ 50 44 (.len (.t 49)), oFQ 51 44 (.bin .neq .num (.t 47) (.t 50)), oQ 52 (.pick (.t 44) (.c (.bool true)) (.t 51))])
  (.keep [1, 6, 7, 23, 24, 25, 52])) 
 (.cond (.t 52) (.seq 
 (.seqg (.reg [oQ 4 (.mv (.c (.int .i64 3)))])
  (.keep [4])) .ret) .skip)) (.seq 
 (.seqg (.reg [oQ 53 (.fa 1 (.t 6)), oQ 54 (.ld 1 false (.t 53)), oQ 55 (.len (.t 54)), oQ 56 (.mv (.c (.int .i64 0)))])
  (.keep [1, 7, 23, 24, 25, 54, 55, 56])) 
 (.block 2 
 (.gseq (.keep [1, 7, 23, 24, 25, 54, 55, 56]) (.loop (.seq 
 (.seqg (.reg [oQ 57 (.bin .lss .num (.t 56) (.t 55))])
  (.keep [1, 7, 23, 24, 25, 54, 55, 56, 57])) (.seq 
 (.cond (.t 57) .skip (.exit 2)) (.seq 
 (.block 3 (.seq 
 (.seqg (.reg [oQ 58 (.mv (.t 56)), oQ 59 (.ix 3 (.t 54) (.t 56)), oQ 60 (.ld 3 true (.t 59)), oE 9 (.alloc [.str ⟨#[]⟩, .int .i64 0, .int .i64 0]), oQ 8 (.mv (.t 58)), oN (.st 3 (.t 9) (.t 60))])
  (.keep [1, 7, 8, 9, 23, 24, 25, 54, 55, 56])) (.seq 
 (.seqg (.drw [oQ 61 (.fa 0 (.t 7)), oQ 62 (.ld 1 false (.t 61)), oQ 63 (.mv (.t 8)), oQ 64 (.ix 1 (.t 62) (.t 63)), oQ 65 (.ld 1 false (.t 64)), oQ 66 (.fa 1 (.t 9)), oQ 67 (.ld 1 false (.t 66)), oQ 68 (.bin .neq .num (.t 65) (.t 67))])
  (.keep [1, 7, 23, 24, 25, 54, 55, 56, 68])) 
 (.cond (.t 68) (.seq 
 (.seqg (.reg [oQ 4 (.mv (.c (.int .i64 3)))])
  (.keep [4])) .ret) .skip)))) 
 (.seqg (.reg [oQ 69 (.bin .add .num (.t 56) (.c (.int .i64 1))), oQ 56 (.mv (.t 69))])
  (.keep [1, 7, 23, 24, 25, 54, 55, 56]))))))))))))) 
 (.seqg (.reg [oQ 70 (.bin .add .num (.t 25) (.c (.int .i64 1))), oQ 25 (.mv (.t 70))])
  (.keep [1, 23, 24, 25]))))))))) (.seq 
 (.seqg (.reg [oQ 4 (.mv (.c (.int .i64 0)))])
  (.keep [4])) .ret))))
def r_query_fit : List ARes := [.t 4]
theorem w_query_fit : FnW Tryz.prog F_query_fit c_query_fit r_query_fit 71 := ⟨Tryz.f29, (Tryz.f29).body.get rfl, by kernel_rfl, Tryz.func29, by kernel_rfl, by kernel_rfl, by kernel_rfl, by kernel_rfl⟩
def c_query_at : ACode := (.seq 
 (.seqg (.reg [oQ 3 (.box (.t 0)), oQ 6 (.mv (.c (.int .i64 0)))])
  (.keep [1, 2, 3])) (.seq 
 (.seqg (.seqg (.reg [oQ 7 (.mv (.c (.sl .full 1 [])))])
  (.keep [1, 2, 3, 7]))
  (.mintr 7 1)) (.seq (.seq 
 (.seqg (.reg [oQ 14 (.fa 0 (.t 3)), oQ 15 (.ld 1 false (.t 14)), oQ 16 (.len (.t 15)), oQ 17 (.mv (.c (.int .i64 0)))])
  (.keep [1, 2, 3, 7, 15, 16, 17])) 
 (.block 0 
 (.gseq (.keep [1, 2, 3, 7, 15, 16, 17]) (.loop (.seq 
 (.seqg (.reg [oQ 18 (.bin .lss .num (.t 17) (.t 16))])
  (.keep [1, 2, 3, 7, 15, 16, 17, 18])) (.seq 
 (.cond (.t 18) .skip (.exit 0)) (.seq 
 (.block 1 (.seq 
 (.seqg (.reg [oQ 19 (.ix 1 (.t 15) (.t 17)), oQ 20 (.ld 1 false (.t 19)), oQ 9 (.mv (.t 20))])
  (.keep [1, 2, 3, 7, 9, 15, 16, 17])) (.seq 
 (.seqg (.reg [oQ 22 (.mv (.t 9)), oQ 23 (.call F_points_Top [(.t 22)]), oQ 21 (.mv (.t 23)), oQ 24 (.ext (.t 21) 0), oQ 25 (.ext (.t 21) 1), oQ 10 (.mv (.t 24)), oQ 11 (.mv (.t 25))])
  (.keep [1, 2, 3, 7, 10, 15, 16, 17])) 
 (.seqg (.reg [oQ 26 (.mv (.t 7)), oQ 27 (.mv (.t 10)), oQ 28 (.bsl 1 [(.t 27)]), oE 29 (.appr 1 8 (.t 26) (.t 28)), oQ 7 (.mv (.t 29))])
  (.keep [1, 2, 3, 7, 15, 16, 17]))))) 
 (.seqg (.reg [oQ 30 (.bin .add .num (.t 17) (.c (.int .i64 1))), oQ 17 (.mv (.t 30))])
  (.keep [1, 2, 3, 7, 15, 16, 17]))))))))) (.seq 
 (.seqg (.reg [oQ 31 (.mv (.t 7)), oQ 32 (.mv (.t 1)), oQ 33 (.mv (.t 2)), oQ 34 (.ix 1 (.t 31) (.t 32)), oN (.st 1 (.t 34) (.t 33))])
  (.keep [3, 7])) (.seq 
 (.gseq (.freezer 7) (.seqg (.reg [oQ 36 (.ld 4 true (.t 3)), oQ 37 (.mv (.t 7)), oQ 38 (.call F_tuples_At [(.t 36), (.t 37)]), oQ 35 (.mv (.t 38)), oQ 39 (.ext (.t 35) 0), oQ 40 (.ext (.t 35) 1), oQ 12 (.mv (.t 39)), oQ 13 (.mv (.t 40))])
  (.keep [12]))) (.seq 
 (.seqg (.reg [oQ 41 (.mv (.t 12)), oQ 6 (.mv (.t 41))])
  (.keep [6])) .ret))))))
def r_query_at : List ARes := [.t 6]
theorem w_query_at : FnW Tryz.prog F_query_at c_query_at r_query_at 42 := ⟨Tryz.f30, (Tryz.f30).body.get rfl, by kernel_rfl, Tryz.func30, by kernel_rfl, by kernel_rfl, by kernel_rfl, by kernel_rfl⟩
def c_abseval_Expr : ACode := (.seq 
 (.seqg (.reg [oQ 4 (.box (.t 0)), oQ 7 (.box (.t 3)), oQ 8 (.mv (.c (.int .i64 0))), oQ 9 (.mv (.c (.int .i64 0)))])
  (.keep [1, 2, 4, 7])) (.seq 
 (.seqg (.reg [oQ 20 (.ld 1 true (.t 4)), oQ 21 (.mv (.t 1)), oQ 22 (.call F_abseval_see [(.t 20), (.t 21)]), oQ 19 (.mv (.t 22)), oQ 23 (.ext (.t 19) 0), oQ 24 (.ext (.t 19) 1), oQ 10 (.mv (.t 23)), oQ 11 (.mv (.t 24))])
  (.keep [2, 4, 7, 10, 11])) (.seq (.seq 
 (.seqg (.reg [oQ 25 (.mv (.t 11)), oQ 26 (.bin .neq .num (.t 25) (.c (.int .i64 0)))])
  (.keep [2, 4, 7, 10, 11, 26])) 
 (.cond (.t 26) (.seq 
 (.seqg (.reg [oQ 27 (.mv (.t 11)), oQ 8 (.mv (.c (.int .i64 0))), oQ 9 (.mv (.t 27))])
  (.keep [8, 9])) .ret) .skip)) (.seq 
 (.seqg (.reg [oQ 12 (.mv (.c (.nilp)))])
  (.keep [2, 4, 7, 10, 12])) (.seq 
 (.seqg (.seqg (.reg [oQ 13 (.mv (.c (.sl .full 3 [])))])
  (.keep [2, 4, 7, 10, 12, 13]))
  (.mint 13)) (.seq (.seq 
 (.seqg (.reg [oQ 28 (.mv (.t 2)), oQ 29 (.len (.t 28)), oQ 30 (.mv (.c (.int .i64 0)))])
  (.keep [4, 7, 10, 12, 13, 28, 29, 30])) 
 (.block 0 
 (.gseq (.keep [4, 7, 10, 12, 13, 28, 29, 30]) (.loop (.seq 
 (.seqg (.reg [oQ 31 (.bin .lss .num (.t 30) (.t 29))])
  (.keep [4, 7, 10, 12, 13, 28, 29, 30, 31])) (.seq 
 (.cond (.t 31) .skip (.exit 0)) (.seq 
 (.block 1 (.seq 
 (.seqg (.reg [oQ 32 (.ix 3 (.t 28) (.t 30)), oQ 33 (.ld 3 true (.t 32)), oE 15 (.alloc [.str ⟨#[]⟩, .int .i64 0, .int .i64 0]), oN (.st 3 (.t 15) (.t 33))])
  (.keep [4, 7, 10, 12, 13, 15, 28, 29, 30])) (.seq (.seq 
 (.seqg (.reg [oQ 34 (.fa 1 (.t 15)), oQ 35 (.ld 1 false (.t 34)), oQ 36 (.fa 2 (.t 15)), oQ 37 (.ld 1 false (.t 36)), oQ 38 (.call F_points_Check [(.t 35), (.t 37)]), oQ 39 (.bin .neq .num (.t 38) (.c (.int .i64 0)))])
  (.keep [4, 7, 10, 12, 13, 15, 28, 29, 30, 39])) 
 (.cond (.t 39) (.seq 
 (.seqg (.reg [oQ 8 (.mv (.c (.int .i64 0))), oQ 9 (.mv (.c (.int .i64 3)))])
  (.keep [8, 9])) .ret) .skip)) (.seq 
 (.seqg (.reg [oQ 40 (.fa 0 (.t 15)), oQ 41 (.ld 1 false (.t 40)), oQ 42 (.fa 2 (.t 15)), oQ 43 (.ld 1 false (.t 42)), oQ 44 (.mv (.t 12)), oQ 45 (.bld [.str ⟨#[]⟩, .int .i64 0, .nilp] [(0, 1, (.t 41)), (1, 1, (.t 43)), (2, 1, (.t 44))]), oQ 46 (.box (.t 45)), oQ 12 (.mv (.t 46))])
  (.keep [4, 7, 10, 12, 13, 15, 28, 29, 30])) 
 (.seqg (.reg [oQ 47 (.mv (.t 13)), oQ 48 (.fa 0 (.t 15)), oQ 49 (.ld 1 false (.t 48)), oQ 50 (.fa 1 (.t 15)), oQ 51 (.ld 1 false (.t 50)), oQ 52 (.bld [.str ⟨#[]⟩, .int .i64 0, .int .i64 0] [(0, 1, (.t 49)), (1, 1, (.t 51))]), oQ 53 (.bsl 3 [(.t 52)]), oE 54 (.app 3 32 (.t 47) (.t 53)), oQ 13 (.mv (.t 54))])
  (.keep [4, 7, 10, 12, 13, 28, 29, 30])))))) 
 (.seqg (.reg [oQ 55 (.bin .add .num (.t 30) (.c (.int .i64 1))), oQ 30 (.mv (.t 55))])
  (.keep [4, 7, 10, 12, 13, 28, 29, 30]))))))))) (.seq (.seq 
 (.seqg (.reg [oQ 57 (.ld 1 true (.t 4)), oQ 58 (.mv (.t 13)), oQ 59 (.ld 7 true (.t 7)), oQ 60 (.call F_types_Of [(.t 57), (.t 58), (.t 59)]), oQ 56 (.mv (.t 60)), oQ 61 (.ext (.t 56) 0), oQ 62 (.ext (.t 56) 1), oQ 16 (.mv (.t 61)), oQ 17 (.mv (.t 62))])
  (.keep [7, 10, 12, 17])) (.seq 
 (.seqg (.reg [oQ 63 (.mv (.t 17)), oQ 64 (.bin .neq .num (.t 63) (.c (.int .i64 0)))])
  (.keep [7, 10, 12, 64])) 
 (.cond (.t 64) (.seq 
 (.seqg (.reg [oQ 8 (.mv (.c (.int .i64 0))), oQ 9 (.mv (.c (.int .i64 3)))])
  (.keep [8, 9])) .ret) .skip))) (.seq (.seq 
 (.seqg (.reg [oQ 65 (.ld 7 true (.t 7)), oQ 66 (.call F_abseval_shallow [(.t 65)]), oQ 18 (.mv (.t 66))])
  (.keep [7, 10, 12, 18])) (.seq 
 (.seqg (.reg [oQ 67 (.mv (.t 18)), oQ 68 (.bin .neq .num (.t 67) (.c (.int .i64 0)))])
  (.keep [7, 10, 12, 18, 68])) 
 (.cond (.t 68) (.seq 
 (.seqg (.reg [oQ 69 (.mv (.t 18)), oQ 8 (.mv (.c (.int .i64 0))), oQ 9 (.mv (.t 69))])
  (.keep [8, 9])) .ret) .skip))) (.seq 
 (.seqg (.reg [oQ 70 (.mv (.t 10)), oQ 71 (.ld 7 true (.t 7)), oQ 72 (.mv (.t 12)), oQ 73 (.call F_abseval_sight_point [(.t 70), (.t 71), (.t 72)]), oQ 8 (.mv (.t 73)), oQ 9 (.mv (.c (.int .i64 0)))])
  (.keep [8, 9])) .ret)))))))))
def r_abseval_Expr : List ARes := [.t 8, .t 9]
theorem w_abseval_Expr : FnW Tryz.prog F_abseval_Expr c_abseval_Expr r_abseval_Expr 74 := ⟨Tryz.f35, (Tryz.f35).body.get rfl, by kernel_rfl, Tryz.func35, by kernel_rfl, by kernel_rfl, by kernel_rfl, by kernel_rfl⟩
def c_fathomref16_Points : ACode := (.seq 
 (.seqg (.reg [oQ 1 (.box (.t 0)), oQ 2 (.mv (.c (.sl .full 1 []))), oQ 3 (.mv (.c (.bool false)))])
  (.keep [1])) (.seq 
 (.seqg (.reg [oQ 10 (.fa 0 (.t 1)), oQ 11 (.ld 1 false (.t 10)), oQ 12 (.call F_fathomref16_Count [(.t 11)]), oQ 9 (.mv (.t 12)), oQ 13 (.ext (.t 9) 0), oQ 14 (.ext (.t 9) 1), oQ 4 (.mv (.t 13)), oQ 5 (.mv (.t 14))])
  (.keep [1, 4, 5])) (.seq 
 (.seqg (.reg [oQ 16 (.fa 2 (.t 1)), oQ 17 (.ld 2 true (.t 16)), oE 18 (.call (.c (.fn F_fathomref02_Cells [])) [(.t 17)]), oQ 15 (.mv (.t 18)), oQ 19 (.ext (.t 15) 0), oQ 20 (.ext (.t 15) 1), oQ 6 (.mv (.t 19)), oQ 7 (.mv (.t 20))])
  (.keep [1, 4, 5, 6, 7])) (.seq (.seq 
 (.seqg (.reg [oQ 21 (.mv (.t 5)), oQ 22 (.bin .neq .num (.t 21) (.c (.int .i64 0))), oQ 23 (.mv (.t 22)), oFQ 24 23 (.mv (.t 7)), oFQ 25 23 (.not (.t 24)), oQ 26 (.pick (.t 23) (.c (.bool true)) (.t 25)), oQ 27 (.mv (.t 26)), oFQ 28 27 (.mv (.t 6)), oFQ 29 27 (.len (.t 28)), oFQ 30 27 (.mv (.t 4)), oFQ 31 27 (.bin .neq .num (.t 29) (.t 30)), oQ 32 (.pick (.t 27) (.c (.bool true)) (.t 31)), oQ 33 (.mv (.t 32)), oFQ 34 33 (.fa 1 (.t 1)), oFQ 35 33 (.ld 1 false (.t 34)), oFQ 36 33 (.call F_fathomref15_Top [(.t 35)]), oFQ 37 33 (.bin .lss .num (.t 36) (.c (.int .i64 0))), oQ 38 (.pick (.t 33) (.c (.bool true)) (.t 37))])
  (.keep [1, 4, 6, 38])) 
 (.cond (.t 38) (.seq 
 (.seqg (.reg [oQ 2 (.mv (.c (.sl .full 1 []))), oQ 3 (.mv (.c (.bool false)))])
  (.keep [2, 3])) .ret) .skip)) (.seq (.seq 
 (.seqg (.reg [oQ 8 (.mv (.c (.int .i64 0)))])
  (.keep [1, 4, 6, 8])) 
 (.block 0 
 (.gseq (.keep [1, 4, 6, 8]) (.loop (.seq (.seq 
 (.seqg (.reg [oQ 39 (.mv (.t 8)), oQ 40 (.mv (.t 4)), oQ 41 (.bin .lss .num (.t 39) (.t 40))])
  (.keep [1, 4, 6, 8, 41])) 
 (.cond (.t 41) .skip (.exit 0))) (.seq 
 (.block 1 (.seq 
 (.seqg (.drw [oQ 44 (.mv (.t 6)), oQ 45 (.mv (.t 8)), oQ 46 (.ix 1 (.t 44) (.t 45)), oQ 47 (.ld 1 false (.t 46)), oQ 48 (.fa 1 (.t 1)), oQ 49 (.ld 1 false (.t 48)), oQ 50 (.call F_fathomref15_Top [(.t 49)]), oQ 51 (.bin .gtr .num (.t 47) (.t 50))])
  (.keep [1, 4, 6, 8, 51])) 
 (.cond (.t 51) (.seq 
 (.seqg (.reg [oQ 2 (.mv (.c (.sl .full 1 []))), oQ 3 (.mv (.c (.bool false)))])
  (.keep [2, 3])) .ret) .skip))) 
 (.seqg (.reg [oQ 42 (.mv (.t 8)), oQ 43 (.bin .add .num (.t 42) (.c (.int .i64 1))), oQ 8 (.mv (.t 43))])
  (.keep [1, 4, 6, 8])))))))) (.seq 
 (.seqg (.reg [oQ 52 (.mv (.t 6)), oQ 2 (.mv (.t 52)), oQ 3 (.mv (.c (.bool true)))])
  (.keep [2, 3])) .ret))))))
def r_fathomref16_Points : List ARes := [.t 2, .t 3]
theorem w_fathomref16_Points : FnW Tryz.prog F_fathomref16_Points c_fathomref16_Points r_fathomref16_Points 53 := ⟨Tryz.f37, (Tryz.f37).body.get rfl, by kernel_rfl, Tryz.func37, by kernel_rfl, by kernel_rfl, by kernel_rfl, by kernel_rfl⟩
def c_fathomref16_Tuple : ACode := (.seq 
 (.seqg (.reg [oQ 4 (.mv (.c (.sl .full 1 []))), oQ 5 (.mv (.c (.int .i64 0)))])
  (.keep [0, 1])) (.seq 
 (.seqg (.reg [oQ 12 (.mv (.t 0)), oQ 13 (.call F_fathomref16_Count [(.t 12)]), oQ 11 (.mv (.t 13)), oQ 14 (.ext (.t 11) 0), oQ 15 (.ext (.t 11) 1), oQ 6 (.mv (.t 14)), oQ 7 (.mv (.t 15))])
  (.keep [0, 1, 6, 7])) (.seq (.seq 
 (.seqg (.reg [oQ 16 (.mv (.t 7)), oQ 17 (.bin .neq .num (.t 16) (.c (.int .i64 0)))])
  (.keep [0, 1, 6, 7, 17])) 
 (.cond (.t 17) (.seq 
 (.seqg (.reg [oQ 18 (.mv (.t 7)), oQ 4 (.mv (.c (.sl .full 1 []))), oQ 5 (.mv (.t 18))])
  (.keep [4, 5])) .ret) .skip)) (.seq (.seq 
 (.seqg (.reg [oQ 19 (.mv (.t 1)), oQ 20 (.bin .lss .num (.t 19) (.c (.int .i64 0))), oQ 21 (.mv (.t 20)), oFQ 22 21 (.mv (.t 1)), oFQ 23 21 (.mv (.t 6)), oFQ 24 21 (.bin .geq .num (.t 22) (.t 23)), oQ 25 (.pick (.t 21) (.c (.bool true)) (.t 24))])
  (.keep [0, 1, 25])) 
 (.cond (.t 25) (.seq 
 (.seqg (.reg [oQ 4 (.mv (.c (.sl .full 1 []))), oQ 5 (.mv (.c (.int .i64 2)))])
  (.keep [4, 5])) .ret) .skip)) (.seq 
 (.seqg (.reg [oQ 26 (.mv (.t 0)), oQ 27 (.len (.t 26)), oE 28 (.mks 1 8 [.int .i64 0] (.t 27)), oQ 8 (.mv (.t 28))])
  (.keep [0, 1, 8])) (.seq (.seq 
 (.seqg (.reg [oQ 29 (.mv (.t 0)), oQ 30 (.len (.t 29)), oQ 31 (.bin .sub .num (.t 30) (.c (.int .i64 1))), oQ 9 (.mv (.t 31))])
  (.keep [0, 1, 8, 9])) 
 (.block 0 
 (.gseq (.keep [0, 1, 8, 9]) (.loop (.seq (.seq 
 (.seqg (.reg [oQ 32 (.mv (.t 9)), oQ 33 (.bin .geq .num (.t 32) (.c (.int .i64 0)))])
  (.keep [0, 1, 8, 9, 33])) 
 (.cond (.t 33) .skip (.exit 0))) (.seq 
 (.block 1 (.seq 
 (.seqg (.reg [oQ 36 (.mv (.t 0)), oQ 37 (.mv (.t 9)), oQ 38 (.ix 1 (.t 36) (.t 37)), oQ 39 (.ld 1 false (.t 38)), oQ 40 (.call F_fathomref15_Top [(.t 39)]), oQ 41 (.bin .add .num (.t 40) (.c (.int .i64 1))), oQ 10 (.mv (.t 41))])
  (.keep [0, 1, 8, 9, 10])) (.seq 
 (.seqg (.reg [oQ 42 (.mv (.t 8)), oQ 43 (.mv (.t 9)), oQ 44 (.mv (.t 1)), oQ 45 (.mv (.t 10)), oQ 46 (.bin .rem .num (.t 44) (.t 45)), oQ 47 (.ix 1 (.t 42) (.t 43)), oN (.st 1 (.t 47) (.t 46))])
  (.keep [0, 1, 8, 9, 10])) 
 (.seqg (.reg [oQ 48 (.mv (.t 1)), oQ 49 (.mv (.t 10)), oQ 50 (.bin .quo .num (.t 48) (.t 49)), oQ 1 (.mv (.t 50))])
  (.keep [0, 1, 8, 9]))))) 
 (.seqg (.reg [oQ 34 (.mv (.t 9)), oQ 35 (.bin .sub .num (.t 34) (.c (.int .i64 1))), oQ 9 (.mv (.t 35))])
  (.keep [0, 1, 8, 9])))))))) (.seq 
 (.seqg (.reg [oQ 51 (.mv (.t 8)), oQ 4 (.mv (.t 51)), oQ 5 (.mv (.c (.int .i64 0)))])
  (.keep [4, 5])) .ret)))))))
def r_fathomref16_Tuple : List ARes := [.t 4, .t 5]
theorem w_fathomref16_Tuple : FnW Tryz.prog F_fathomref16_Tuple c_fathomref16_Tuple r_fathomref16_Tuple 52 := ⟨Tryz.f38, (Tryz.f38).body.get rfl, by kernel_rfl, Tryz.func38, by kernel_rfl, by kernel_rfl, by kernel_rfl, by kernel_rfl⟩
def c_fathomref16_Number : ACode := (.seq 
 (.seqg (.reg [oQ 4 (.mv (.c (.int .i64 0))), oQ 5 (.mv (.c (.int .i64 0)))])
  (.keep [0, 1])) (.seq 
 (.seqg (.reg [oQ 11 (.mv (.t 0)), oQ 12 (.call F_fathomref16_Count [(.t 11)]), oQ 10 (.mv (.t 12)), oQ 13 (.ext (.t 10) 0), oQ 14 (.ext (.t 10) 1), oQ 6 (.mv (.t 13)), oQ 7 (.mv (.t 14))])
  (.keep [0, 1, 7])) (.seq (.seq 
 (.seqg (.reg [oQ 15 (.mv (.t 7)), oQ 16 (.bin .neq .num (.t 15) (.c (.int .i64 0)))])
  (.keep [0, 1, 7, 16])) 
 (.cond (.t 16) (.seq 
 (.seqg (.reg [oQ 17 (.mv (.t 7)), oQ 4 (.mv (.c (.int .i64 0))), oQ 5 (.mv (.t 17))])
  (.keep [4, 5])) .ret) .skip)) (.seq (.seq 
 (.seqg (.reg [oQ 18 (.mv (.t 1)), oQ 19 (.len (.t 18)), oQ 20 (.mv (.t 0)), oQ 21 (.len (.t 20)), oQ 22 (.bin .neq .num (.t 19) (.t 21))])
  (.keep [0, 1, 22])) 
 (.cond (.t 22) (.seq 
 (.seqg (.reg [oQ 4 (.mv (.c (.int .i64 0))), oQ 5 (.mv (.c (.int .i64 3)))])
  (.keep [4, 5])) .ret) .skip)) (.seq 
 (.seqg (.reg [oQ 8 (.mv (.c (.int .i64 0)))])
  (.keep [0, 1, 8])) (.seq (.seq 
 (.seqg (.reg [oQ 9 (.mv (.c (.int .i64 0)))])
  (.keep [0, 1, 8, 9])) 
 (.block 0 
 (.gseq (.keep [0, 1, 8, 9]) (.loop (.seq (.seq 
 (.seqg (.reg [oQ 23 (.mv (.t 9)), oQ 24 (.mv (.t 0)), oQ 25 (.len (.t 24)), oQ 26 (.bin .lss .num (.t 23) (.t 25))])
  (.keep [0, 1, 8, 9, 26])) 
 (.cond (.t 26) .skip (.exit 0))) (.seq 
 (.block 1 (.seq (.seq 
 (.seqg (.drw [oQ 29 (.mv (.t 0)), oQ 30 (.mv (.t 9)), oQ 31 (.ix 1 (.t 29) (.t 30)), oQ 32 (.ld 1 false (.t 31)), oQ 33 (.mv (.t 1)), oQ 34 (.mv (.t 9)), oQ 35 (.ix 1 (.t 33) (.t 34)), oQ 36 (.ld 1 false (.t 35)), oQ 37 (.call F_fathomref15_Is [(.t 32), (.t 36)]), oQ 38 (.not (.t 37))])
  (.keep [0, 1, 8, 9, 38])) 
 (.cond (.t 38) (.seq 
 (.seqg (.reg [oQ 4 (.mv (.c (.int .i64 0))), oQ 5 (.mv (.c (.int .i64 2)))])
  (.keep [4, 5])) .ret) .skip)) 
 (.seqg (.drw [oQ 39 (.mv (.t 8)), oQ 40 (.mv (.t 0)), oQ 41 (.mv (.t 9)), oQ 42 (.ix 1 (.t 40) (.t 41)), oQ 43 (.ld 1 false (.t 42)), oQ 44 (.call F_fathomref15_Top [(.t 43)]), oQ 45 (.bin .add .num (.t 44) (.c (.int .i64 1))), oQ 46 (.bin .mul .num (.t 39) (.t 45)), oQ 47 (.mv (.t 1)), oQ 48 (.mv (.t 9)), oQ 49 (.ix 1 (.t 47) (.t 48)), oQ 50 (.ld 1 false (.t 49)), oQ 51 (.bin .add .num (.t 46) (.t 50)), oQ 8 (.mv (.t 51))])
  (.keep [0, 1, 8, 9])))) 
 (.seqg (.reg [oQ 27 (.mv (.t 9)), oQ 28 (.bin .add .num (.t 27) (.c (.int .i64 1))), oQ 9 (.mv (.t 28))])
  (.keep [0, 1, 8, 9])))))))) (.seq 
 (.seqg (.reg [oQ 52 (.mv (.t 8)), oQ 4 (.mv (.t 52)), oQ 5 (.mv (.c (.int .i64 0)))])
  (.keep [4, 5])) .ret)))))))
def r_fathomref16_Number : List ARes := [.t 4, .t 5]
theorem w_fathomref16_Number : FnW Tryz.prog F_fathomref16_Number c_fathomref16_Number r_fathomref16_Number 53 := ⟨Tryz.f39, (Tryz.f39).body.get rfl, by kernel_rfl, Tryz.func39, by kernel_rfl, by kernel_rfl, by kernel_rfl, by kernel_rfl⟩
def c_points_Top : ACode := (.seq 
 (.seqg (.reg [oQ 2 (.mv (.c (.int .i64 0))), oQ 3 (.mv (.c (.int .i64 0)))])
  (.keep [0])) (.seq (.seq 
 (.seqg (.reg [oQ 4 (.mv (.t 0))])
  (.keep [4])) 
 (.block 0 (.seq (.seq 
 (.seqg (.reg [oQ 6 (.bin .eql .num (.t 4) (.c (.int .i64 1))), oQ 5 (.mv (.t 6))])
  (.keep [4, 5])) 
 (.cond (.t 5) .skip 
 (.seqg (.reg [oQ 7 (.bin .eql .num (.t 4) (.c (.int .i64 2))), oQ 5 (.mv (.t 7))])
  (.keep [4, 5])))) 
 (.cond (.t 5) (.seq 
 (.seqg (.reg [oQ 2 (.mv (.c (.int .i64 1))), oQ 3 (.mv (.c (.int .i64 0)))])
  (.keep [2, 3])) .ret) (.seq 
 (.seqg (.reg [oQ 9 (.bin .eql .num (.t 4) (.c (.int .i64 3))), oQ 8 (.mv (.t 9))])
  (.keep [8])) 
 (.cond (.t 8) (.seq 
 (.seqg (.reg [oQ 2 (.mv (.c (.int .i64 3))), oQ 3 (.mv (.c (.int .i64 0)))])
  (.keep [2, 3])) .ret) .skip)))))) (.seq 
 (.seqg (.reg [oQ 2 (.mv (.c (.int .i64 0))), oQ 3 (.mv (.c (.int .i64 3)))])
  (.keep [2, 3])) .ret)))
def r_points_Top : List ARes := [.t 2, .t 3]
theorem w_points_Top : FnW Tryz.prog F_points_Top c_points_Top r_points_Top 10 := ⟨Tryz.f40, (Tryz.f40).body.get rfl, by kernel_rfl, Tryz.func40, by kernel_rfl, by kernel_rfl, by kernel_rfl, by kernel_rfl⟩
def c_fathomref18_Fits : ACode := (.seq 
 (.seqg (.reg [oQ 1 (.box (.t 0)), oQ 2 (.mv (.c (.int .i64 0)))])
  (.keep [1])) (.seq (.seq 
 (.seqg (.reg [oQ 5 (.ld 1 true (.t 1)), oQ 6 (.call F_fathomref07_Check [(.t 5)]), oQ 7 (.fld 0 1 false (.t 6)), oQ 8 (.bin .neq .num (.t 7) (.c (.int .i64 0)))])
  (.keep [1, 8])) 
 (.cond (.t 8) (.seq 
 (.seqg (.reg [oQ 2 (.mv (.c (.int .i64 3)))])
  (.keep [2])) .ret) .skip)) (.seq (.seq 
 (.seqg (.reg [oQ 9 (.fa 0 (.t 1)), oQ 10 (.ld 1 false (.t 9)), oQ 11 (.len (.t 10)), oQ 12 (.bin .gtr .num (.t 11) (.c (.int .i64 16)))])
  (.keep [1, 12])) 
 (.cond (.t 12) (.seq 
 (.seqg (.reg [oQ 2 (.mv (.c (.int .i64 22)))])
  (.keep [2])) .ret) .skip)) (.seq (.seq 
 (.seqg (.reg [oQ 3 (.mv (.c (.int .i64 0)))])
  (.keep [1, 3])) 
 (.block 0 
 (.gseq (.keep [1, 3]) (.loop (.seq (.seq 
 (.seqg (.reg [oQ 13 (.mv (.t 3)), oQ 14 (.fa 0 (.t 1)), oQ 15 (.ld 1 false (.t 14)), oQ 16 (.len (.t 15)), oQ 17 (.bin .lss .num (.t 13) (.t 16))])
  (.keep [1, 3, 17])) 
 (.cond (.t 17) .skip (.exit 0))) (.seq 
 (.block 1 (.seq 
 (.seqg (.reg [oQ 20 (.fa 0 (.t 1)), oQ 21 (.ld 1 false (.t 20)), oQ 22 (.mv (.t 3)), oQ 23 (.ix 11 (.t 21) (.t 22)), oQ 24 (.fa 1 (.t 23)), oQ 25 (.ld 1 false (.t 24)), oQ 26 (.len (.t 25)), oQ 27 (.bin .gtr .num (.t 26) (.c (.int .i64 3)))])
  (.keep [1, 3, 27])) 
 (.cond (.t 27) (.seq 
 (.seqg (.reg [oQ 2 (.mv (.c (.int .i64 22)))])
  (.keep [2])) .ret) .skip))) 
 (.seqg (.reg [oQ 18 (.mv (.t 3)), oQ 19 (.bin .add .num (.t 18) (.c (.int .i64 1))), oQ 3 (.mv (.t 19))])
  (.keep [1, 3])))))))) (.seq (.seq 
 (.seqg (.reg [oQ 4 (.mv (.c (.int .i64 0)))])
  (.keep [1, 4])) 
 (.block 2 
 (.gseq (.keep [1, 4]) (.loop (.seq (.seq 
 (.seqg (.reg [oQ 28 (.mv (.t 4)), oQ 29 (.fa 0 (.t 1)), oQ 30 (.ld 1 false (.t 29)), oQ 31 (.len (.t 30)), oQ 32 (.bin .lss .num (.t 28) (.t 31))])
  (.keep [1, 4, 32])) 
 (.cond (.t 32) .skip (.exit 2))) (.seq 
 (.block 3 (.seq 
 (.seqg (.reg [oQ 35 (.fa 0 (.t 1)), oQ 36 (.ld 1 false (.t 35)), oQ 37 (.mv (.t 4)), oQ 38 (.ix 11 (.t 36) (.t 37)), oQ 39 (.fa 3 (.t 38)), oQ 40 (.ld 7 true (.t 39)), oQ 41 (.call F_fathomref06_Nest [(.t 40)]), oQ 42 (.bin .gtr .num (.t 41) (.c (.int .i64 6)))])
  (.keep [1, 4, 42])) 
 (.cond (.t 42) (.seq 
 (.seqg (.reg [oQ 2 (.mv (.c (.int .i64 23)))])
  (.keep [2])) .ret) .skip))) 
 (.seqg (.reg [oQ 33 (.mv (.t 4)), oQ 34 (.bin .add .num (.t 33) (.c (.int .i64 1))), oQ 4 (.mv (.t 34))])
  (.keep [1, 4])))))))) (.seq 
 (.seqg (.reg [oQ 2 (.mv (.c (.int .i64 0)))])
  (.keep [2])) .ret))))))
def r_fathomref18_Fits : List ARes := [.t 2]
theorem w_fathomref18_Fits : FnW Tryz.prog F_fathomref18_Fits c_fathomref18_Fits r_fathomref18_Fits 43 := ⟨Tryz.f43, (Tryz.f43).body.get rfl, by kernel_rfl, Tryz.func43, by kernel_rfl, by kernel_rfl, by kernel_rfl, by kernel_rfl⟩
def c_fathomref17_Sight_Round : ACode := (.seq 
 (.seqg (.reg [oQ 4 (.mv (.c (.sl .full 1 [])))])
  (.keep [0, 1])) (.seq 
 (.seqg (.seqg (.reg [oQ 5 (.mv (.c (.sl .full 1 [])))])
  (.keep [0, 1, 5]))
  (.mint 5)) (.seq 
 (.seqg (.reg [oQ 11 (.mv (.t 0)), oQ 12 (.chk (.t 11)), oQ 13 (.fa 0 (.t 12)), oQ 14 (.fa 0 (.t 13)), oQ 15 (.ld 1 false (.t 14)), oQ 16 (.mv (.t 1)), oQ 17 (.ix 11 (.t 15) (.t 16)), oQ 18 (.ld 11 true (.t 17)), oQ 19 (.call F_fathomref17_Types [(.t 18)]), oQ 6 (.mv (.t 19))])
  (.keep [0, 1, 5, 6])) (.seq (.seq 
 (.seqg (.reg [oQ 7 (.mv (.c (.int .i64 0)))])
  (.keep [0, 1, 5, 6, 7])) 
 (.block 0 
 (.gseq (.keep [0, 1, 5, 6, 7]) (.loop (.seq (.seq 
 (.seqg (.reg [oQ 20 (.mv (.t 7)), oQ 21 (.mv (.t 0)), oQ 22 (.chk (.t 21)), oQ 23 (.fa 1 (.t 22)), oQ 24 (.ld 1 false (.t 23)), oQ 25 (.mv (.t 1)), oQ 26 (.ix 1 (.t 24) (.t 25)), oQ 27 (.ld 1 false (.t 26)), oQ 28 (.len (.t 27)), oQ 29 (.bin .lss .num (.t 20) (.t 28))])
  (.keep [0, 1, 5, 6, 7, 29])) 
 (.cond (.t 29) .skip (.exit 0))) (.seq 
 (.block 1 (.seq 
 (.seqg (.seqg (.reg [oQ 33 (.mv (.t 6)), oQ 34 (.mv (.t 7)), oE 35 (.call (.c (.fn F_fathomref16_Tuple [])) [(.t 33), (.t 34)]), oQ 32 (.mv (.t 35)), oQ 36 (.ext (.t 32) 0), oQ 37 (.ext (.t 32) 1), oQ 8 (.mv (.t 36)), oQ 9 (.mv (.t 37))])
  (.freezer 8))
  (.keep [0, 1, 5, 6, 7, 8])) (.seq 
 (.seqg (.reg [oQ 38 (.mv (.t 0)), oQ 39 (.mv (.t 1)), oQ 40 (.mv (.t 8)), oE 41 (.call (.c (.fn F_fathomref17_Sight_body [])) [(.t 38), (.t 39), (.t 40)]), oQ 10 (.mv (.t 41))])
  (.keep [0, 1, 5, 6, 7, 10])) 
 (.seqg (.reg [oQ 42 (.mv (.t 5)), oQ 43 (.mv (.t 10)), oQ 44 (.bsl 1 [(.t 43)]), oE 45 (.app 1 8 (.t 42) (.t 44)), oQ 5 (.mv (.t 45))])
  (.keep [0, 1, 5, 6, 7]))))) 
 (.seqg (.reg [oQ 30 (.mv (.t 7)), oQ 31 (.bin .add .num (.t 30) (.c (.int .i64 1))), oQ 7 (.mv (.t 31))])
  (.keep [0, 1, 5, 6, 7])))))))) (.seq 
 (.seqg (.reg [oQ 46 (.mv (.t 5)), oQ 4 (.mv (.t 46))])
  (.keep [4])) .ret)))))
def r_fathomref17_Sight_Round : List ARes := [.t 4]
theorem w_fathomref17_Sight_Round : FnW Tryz.prog F_fathomref17_Sight_Round c_fathomref17_Sight_Round r_fathomref17_Sight_Round 47 := ⟨Tryz.f44, (Tryz.f44).body.get rfl, by kernel_rfl, Tryz.func44, by kernel_rfl, by kernel_rfl, by kernel_rfl, by kernel_rfl⟩
def c_fathomref18_same : ACode := (.seq 
 (.seqg (.reg [oQ 4 (.mv (.c (.bool false)))])
  (.keep [0, 1])) (.seq (.seq 
 (.seqg (.reg [oQ 5 (.mv (.c (.int .i64 0)))])
  (.keep [0, 1, 5])) 
 (.block 0 
 (.gseq (.keep [0, 1, 5]) (.loop (.seq (.seq 
 (.seqg (.reg [oQ 6 (.mv (.t 5)), oQ 7 (.mv (.t 0)), oQ 8 (.len (.t 7)), oQ 9 (.bin .lss .num (.t 6) (.t 8))])
  (.keep [0, 1, 5, 9])) 
 (.cond (.t 9) .skip (.exit 0))) (.seq 
 (.block 1 (.seq 
 (.seqg (.drw [oQ 12 (.mv (.t 0)), oQ 13 (.mv (.t 5)), oQ 14 (.ix 1 (.t 12) (.t 13)), oQ 15 (.ld 1 false (.t 14)), oQ 16 (.mv (.t 1)), oQ 17 (.mv (.t 5)), oQ 18 (.ix 1 (.t 16) (.t 17)), oQ 19 (.ld 1 false (.t 18)), oQ 20 (.bin .neq .num (.t 15) (.t 19))])
  (.keep [0, 1, 5, 20])) 
 (.cond (.t 20) (.seq 
 (.seqg (.reg [oQ 4 (.mv (.c (.bool false)))])
  (.keep [4])) .ret) .skip))) 
 (.seqg (.reg [oQ 10 (.mv (.t 5)), oQ 11 (.bin .add .num (.t 10) (.c (.int .i64 1))), oQ 5 (.mv (.t 11))])
  (.keep [0, 1, 5])))))))) (.seq 
 (.seqg (.reg [oQ 21 (.mv (.t 0)), oQ 22 (.len (.t 21)), oQ 23 (.mv (.t 1)), oQ 24 (.len (.t 23)), oQ 25 (.bin .eql .num (.t 22) (.t 24)), oQ 4 (.mv (.t 25))])
  (.keep [4])) .ret)))
def r_fathomref18_same : List ARes := [.t 4]
theorem w_fathomref18_same : FnW Tryz.prog F_fathomref18_same c_fathomref18_same r_fathomref18_same 26 := ⟨Tryz.f45, (Tryz.f45).body.get rfl, by kernel_rfl, Tryz.func45, by kernel_rfl, by kernel_rfl, by kernel_rfl, by kernel_rfl⟩
def c_fathomref03_Marks : ACode := (.seq 
 (.seqg (.reg [oQ 2 (.mv (.c (.sl .full 4 []))), oQ 3 (.mv (.c (.int .i64 0)))])
  (.keep [0])) (.seq 
 (.seqg (.seqg (.reg [oQ 4 (.mv (.c (.sl .full 4 [])))])
  (.keep [0, 4]))
  (.mint 4)) (.seq 
 (.seqg (.reg [oQ 5 (.mv (.c (.int .i64 0)))])
  (.keep [0, 4, 5])) (.seq 
 (.block 0 
 (.gseq (.keep [0, 4, 5]) (.loop (.seqg (.seq (.seq 
 (.seqg (.reg [oQ 8 (.mv (.t 5)), oQ 9 (.mv (.t 0)), oQ 10 (.len (.t 9)), oQ 11 (.bin .lss .num (.t 8) (.t 10))])
  (.keep [0, 4, 5, 11])) 
 (.cond (.t 11) .skip (.exit 0))) 
 (.block 1 (.seq (.seq 
 (.seqg (.reg [oQ 12 (.mv (.t 0)), oQ 13 (.mv (.t 5)), oQ 14 (.ix 1 (.t 12) (.t 13)), oQ 15 (.ld 1 false (.t 14)), oQ 16 (.call F_fathomref03_Blank [(.t 15)])])
  (.keep [0, 4, 5, 16])) 
 (.cond (.t 16) (.seq 
 (.seqg (.reg [oQ 17 (.mv (.t 5)), oQ 18 (.bin .add .num (.t 17) (.c (.int .i64 1))), oQ 5 (.mv (.t 18))])
  (.keep [0, 4, 5])) (.exit 1)) .skip)) (.seq (.seq 
 (.seqg (.reg [oQ 19 (.mv (.t 0)), oQ 20 (.mv (.t 5)), oQ 21 (.ix 1 (.t 19) (.t 20)), oQ 22 (.ld 1 false (.t 21)), oQ 23 (.bin .eql .num (.t 22) (.c (.int .u8 35)))])
  (.keep [0, 4, 5, 23])) 
 (.cond (.t 23) (.seq 
 (.block 2 
 (.gseq (.keep [0, 4, 5]) (.loop (.seqg (.seq (.seq 
 (.seqg (.reg [oQ 24 (.mv (.t 5)), oQ 25 (.mv (.t 0)), oQ 26 (.len (.t 25)), oQ 27 (.bin .lss .num (.t 24) (.t 26)), oQ 28 (.mv (.t 27)), oTQ 29 28 (.mv (.t 0)), oTQ 30 28 (.mv (.t 5)), oTQ 31 28 (.ix 1 (.t 29) (.t 30)), oTQ 32 28 (.ld 1 false (.t 31)), oTQ 33 28 (.bin .neq .num (.t 32) (.c (.int .u8 10))), oQ 34 (.pick (.t 28) (.t 33) (.c (.bool false)))])
  (.keep [0, 4, 5, 34])) 
 (.cond (.t 34) .skip (.exit 2))) 
 (.block 3 
 (.seqg (.reg [oQ 35 (.mv (.t 5)), oQ 36 (.bin .add .num (.t 35) (.c (.int .i64 1))), oQ 5 (.mv (.t 36))])
  (.keep [0, 4, 5])))) (.keep [0, 4, 5]))))) (.exit 1)) .skip)) (.seq 
 (.seqg (.reg [oQ 38 (.mv (.t 0)), oQ 39 (.mv (.t 5)), oQ 40 (.call F_fathomref03_one [(.t 38), (.t 39)]), oQ 37 (.mv (.t 40)), oQ 41 (.ext (.t 37) 0), oQ 42 (.ext (.t 37) 1), oE 6 (.alloc [.int .i64 0, .str ⟨#[]⟩, .cpx 0 0, .int .i64 0]), oN (.st 4 (.t 6) (.t 41)), oQ 7 (.mv (.t 42))])
  (.keep [0, 4, 5, 6, 7])) (.seq (.seq 
 (.seqg (.reg [oQ 43 (.mv (.t 7)), oQ 44 (.not (.t 43))])
  (.keep [0, 4, 5, 6, 44])) 
 (.cond (.t 44) (.seq 
 (.seqg (.reg [oQ 45 (.mv (.t 5)), oQ 2 (.mv (.c (.sl .full 4 []))), oQ 3 (.mv (.t 45))])
  (.keep [2, 3])) .ret) .skip)) (.seq 
 (.seqg (.reg [oQ 46 (.mv (.t 4)), oQ 47 (.ld 4 true (.t 6)), oQ 48 (.bsl 4 [(.t 47)]), oE 49 (.app 4 48 (.t 46) (.t 48)), oQ 4 (.mv (.t 49))])
  (.keep [0, 4, 5, 6])) 
 (.seqg (.reg [oQ 50 (.mv (.t 5)), oQ 51 (.fa 1 (.t 6)), oQ 52 (.ld 1 false (.t 51)), oQ 53 (.lens (.t 52)), oQ 54 (.bin .add .num (.t 50) (.t 53)), oQ 5 (.mv (.t 54))])
  (.keep [0, 4, 5]))))))))) (.keep [0, 4, 5]))))) (.seq 
 (.seqg (.reg [oQ 55 (.mv (.t 4)), oQ 56 (.mv (.t 0)), oQ 57 (.len (.t 56)), oQ 58 (.bld [.int .i64 0, .str ⟨#[]⟩, .cpx 0 0, .int .i64 0] [(0, 1, (.c (.int .i64 4))), (3, 1, (.t 57))]), oQ 59 (.bsl 4 [(.t 58)]), oE 60 (.app 4 48 (.t 55) (.t 59)), oQ 2 (.mv (.t 60)), oQ 3 (.mv (.c (.int .i64 (-1))))])
  (.keep [2, 3])) .ret)))))
def r_fathomref03_Marks : List ARes := [.t 2, .t 3]
theorem w_fathomref03_Marks : FnW Tryz.prog F_fathomref03_Marks c_fathomref03_Marks r_fathomref03_Marks 61 := ⟨Tryz.f46, (Tryz.f46).body.get rfl, by kernel_rfl, Tryz.func46, by kernel_rfl, by kernel_rfl, by kernel_rfl, by kernel_rfl⟩
def c_fathomref04_reader_program : ACode := (.seq 
 (.seqg (.reg [oE 2 (.alloc [.sl .full 11 []])])
  (.keep [0, 2])) (.seq 
 (.seqg (.reg [oE 3 (.alloc [.sl .full 11 []])])
  (.keep [0, 2, 3])) (.seq 
 (.block 0 
 (.gseq (.keep [0, 2, 3]) (.loop (.seq (.seq 
 (.seqg (.reg [oQ 5 (.mv (.t 0)), oQ 6 (.chk (.t 5)), oQ 7 (.fa 2 (.t 6)), oQ 8 (.ld 1 false (.t 7)), oQ 9 (.bin .eql .num (.t 8) (.c (.int .i64 0))), oQ 10 (.mv (.t 9)), oTQ 11 10 (.fa 0 (.t 3)), oTQ 12 10 (.ld 1 false (.t 11)), oTQ 13 10 (.len (.t 12)), oTQ 14 10 (.bin .eql .num (.t 13) (.c (.int .i64 0))), oTQ 15 10 (.mv (.t 14)), oFQ 16 15 (.mv (.t 0)), oFE 17 15 (.call (.c (.fn F_fathomref04_reader_next [])) [(.t 16)]), oFQ 18 15 (.fld 0 1 false (.t 17)), oFQ 19 15 (.bin .neq .num (.t 18) (.c (.int .i64 4))), oTQ 20 10 (.pick (.t 15) (.c (.bool true)) (.t 19)), oQ 21 (.pick (.t 10) (.t 20) (.c (.bool false)))])
  (.keep [0, 2, 3, 21])) 
 (.cond (.t 21) .skip (.exit 0))) 
 (.block 1 (.seq 
 (.seqg (.reg [oQ 22 (.mv (.t 0)), oQ 23 (.fa 0 (.t 3)), oQ 24 (.ld 1 false (.t 23)), oQ 25 (.len (.t 24)), oE 26 (.call (.c (.fn F_fathomref04_reader_def [])) [(.t 22), (.t 25)]), oE 4 (.alloc [.str ⟨#[]⟩, .sl .full 3 [], .int .i64 0, .int .i64 0, .str ⟨#[]⟩, .str ⟨#[]⟩, .int .i64 0, .cpx 0 0, .sl .full 7 [], .int .i64 0, .int .i64 0]), oN (.st 11 (.t 4) (.t 26))])
  (.keep [0, 2, 3, 4])) 
 (.seqg (.reg [oQ 27 (.fa 0 (.t 3)), oQ 28 (.ld 1 false (.t 27)), oQ 29 (.ld 11 true (.t 4)), oQ 30 (.bsl 11 [(.t 29)]), oE 31 (.app 11 152 (.t 28) (.t 30)), oQ 32 (.fa 0 (.t 3)), oN (.st 1 (.t 32) (.t 31))])
  (.keep [0, 2, 3])))))))) (.seq 
 (.seqg (.reg [oQ 33 (.ld 1 true (.t 3)), oN (.st 1 (.t 2) (.t 33))])
  (.keep [2])) .ret))))
def r_fathomref04_reader_program : List ARes := [.c 2 1 true]
theorem w_fathomref04_reader_program : FnW Tryz.prog F_fathomref04_reader_program c_fathomref04_reader_program r_fathomref04_reader_program 34 := ⟨Tryz.f47, (Tryz.f47).body.get rfl, by kernel_rfl, Tryz.func47, by kernel_rfl, by kernel_rfl, by kernel_rfl, by kernel_rfl⟩
def c_fathomref16_copied : ACode := (.seq 
 (.seqg (.reg [oQ 2 (.mv (.c (.sl .full 1 [])))])
  (.keep [0])) (.seq 
 (.seqg (.reg [oQ 3 (.mv (.c (.sl .full 1 [])))])
  (.keep [0, 3])) (.seq 
 (.seqg (.reg [oQ 4 (.mv (.t 3)), oQ 5 (.mv (.t 0)), oE 6 (.app 1 8 (.t 4) (.t 5)), oQ 2 (.mv (.t 6))])
  (.keep [2])) .ret)))
def r_fathomref16_copied : List ARes := [.t 2]
theorem w_fathomref16_copied : FnW Tryz.prog F_fathomref16_copied c_fathomref16_copied r_fathomref16_copied 7 := ⟨Tryz.f48, (Tryz.f48).body.get rfl, by kernel_rfl, Tryz.func48, by kernel_rfl, by kernel_rfl, by kernel_rfl, by kernel_rfl⟩
def c_fathomref02_Pack : ACode := (.seq 
 (.seqg (.reg [oE 2 (.alloc [.int .i64 0, .sl .full 1 []])])
  (.keep [0, 2])) (.seq 
 (.seqg (.reg [oQ 5 (.mv (.t 0)), oQ 6 (.len (.t 5)), oQ 7 (.bld [.int .i64 0, .sl .full 1 []] [(0, 1, (.t 6))]), oE 3 (.alloc [.int .i64 0, .sl .full 1 []]), oN (.st 2 (.t 3) (.t 7))])
  (.keep [0, 2, 3])) (.seq (.seq 
 (.seqg (.reg [oQ 4 (.mv (.c (.int .i64 0)))])
  (.keep [0, 2, 3, 4])) 
 (.block 0 
 (.gseq (.keep [0, 2, 3, 4]) (.gseq (.mintc 3 1 1) (.loop (.seq (.seq 
 (.seqg (.reg [oQ 8 (.mv (.t 4)), oQ 9 (.mv (.t 0)), oQ 10 (.len (.t 9)), oQ 11 (.bin .lss .num (.t 8) (.t 10))])
  (.keep [0, 2, 3, 4, 11])) 
 (.cond (.t 11) .skip (.exit 0))) (.seq 
 (.block 1 (.seq (.seq 
 (.seqg (.reg [oQ 14 (.mv (.t 4)), oQ 15 (.bin .rem .num (.t 14) (.c (.int .i64 32))), oQ 16 (.bin .eql .num (.t 15) (.c (.int .i64 0)))])
  (.keep [0, 2, 3, 4, 16])) 
 (.cond (.t 16) 
 (.seqg (.reg [oQ 17 (.fa 1 (.t 3)), oQ 18 (.ld 1 false (.t 17)), oQ 19 (.bsl 1 [(.c (.int .u64 0))]), oE 20 (.appr 1 8 (.t 18) (.t 19)), oQ 21 (.fa 1 (.t 3)), oN (.st 1 (.t 21) (.t 20))])
  (.keep [0, 2, 3, 4])) .skip)) 
 (.seqg (.drw [oQ 22 (.fa 1 (.t 3)), oQ 23 (.ld 1 false (.t 22)), oQ 24 (.mv (.t 4)), oQ 25 (.bin .quo .num (.t 24) (.c (.int .i64 32))), oQ 26 (.fa 1 (.t 3)), oQ 27 (.ld 1 false (.t 26)), oQ 28 (.mv (.t 4)), oQ 29 (.bin .quo .num (.t 28) (.c (.int .i64 32))), oQ 30 (.ix 1 (.t 27) (.t 29)), oQ 31 (.ld 1 false (.t 30)), oQ 32 (.mv (.t 0)), oQ 33 (.mv (.t 4)), oQ 34 (.ix 1 (.t 32) (.t 33)), oQ 35 (.ld 1 false (.t 34)), oQ 36 (.cvi .u64 (.t 35)), oQ 37 (.mv (.t 4)), oQ 38 (.bin .rem .num (.t 37) (.c (.int .i64 32))), oQ 39 (.bin .mul .num (.c (.int .i64 2)) (.t 38)), oQ 40 (.cvi .u64 (.t 39)), oQ 41 (.bin .shl .num (.t 36) (.t 40)), oQ 42 (.bin .or .num (.t 31) (.t 41)), oQ 43 (.ix 1 (.t 23) (.t 25)), oN (.st 1 (.t 43) (.t 42))])
  (.keep [0, 2, 3, 4])))) 
 (.seqg (.reg [oQ 12 (.mv (.t 4)), oQ 13 (.bin .add .num (.t 12) (.c (.int .i64 1))), oQ 4 (.mv (.t 13))])
  (.keep [0, 2, 3, 4]))))))))) (.seq 
 (.seqg (.seqg (.reg [oQ 44 (.ld 2 true (.t 3)), oN (.st 2 (.t 2) (.t 44))])
  (.keep [2])) (.freezec 2 1)) .ret))))
def r_fathomref02_Pack : List ARes := [.c 2 2 true]
theorem w_fathomref02_Pack : FnW Tryz.prog F_fathomref02_Pack c_fathomref02_Pack r_fathomref02_Pack 45 := ⟨Tryz.f49, (Tryz.f49).body.get rfl, by kernel_rfl, Tryz.func49, by kernel_rfl, by kernel_rfl, by kernel_rfl, by kernel_rfl⟩
def c_types_Check : ACode := (.seq 
 (.seqg (.reg [oQ 1 (.box (.t 0)), oE 2 (.alloc [.int .i64 0, .int .i64 0])])
  (.keep [1, 2])) (.seq 
 (.seqg (.reg [oQ 7 (.ld 1 true (.t 1)), oQ 8 (.call F_scope_Check [(.t 7)]), oE 3 (.alloc [.int .i64 0, .int .i64 0]), oN (.st 2 (.t 3) (.t 8))])
  (.keep [1, 2, 3])) (.seq (.seq 
 (.seqg (.reg [oQ 9 (.fa 0 (.t 3)), oQ 10 (.ld 1 false (.t 9)), oQ 11 (.bin .neq .num (.t 10) (.c (.int .i64 0)))])
  (.keep [1, 2, 3, 11])) 
 (.cond (.t 11) (.seq 
 (.seqg (.reg [oQ 12 (.ld 2 true (.t 3)), oN (.st 2 (.t 2) (.t 12))])
  (.keep [2])) .ret) .skip)) (.seq 
 (.seqg (.reg [oQ 13 (.ld 1 true (.t 1)), oQ 14 (.mkf F_types_Check_1 [(.t 3)]), oE 15 (.call (.c (.fn F_types_open [])) [(.t 13), (.t 14)]), oQ 4 (.mv (.t 15))])
  (.keep [1, 2, 3, 4])) (.seq (.seq 
 (.seqg (.reg [oQ 16 (.fa 0 (.t 1)), oQ 17 (.ld 1 false (.t 16)), oQ 18 (.len (.t 17)), oQ 19 (.mv (.c (.int .i64 0)))])
  (.keep [2, 3, 4, 17, 18, 19])) 
 (.block 0 
 (.gseq (.keep [2, 3, 4, 17, 18, 19]) (.loop (.seq 
 (.seqg (.reg [oQ 20 (.bin .lss .num (.t 19) (.t 18))])
  (.keep [2, 3, 4, 17, 18, 19, 20])) (.seq 
 (.cond (.t 20) .skip (.exit 0)) (.seq 
 (.block 1 (.seq 
 (.seqg (.reg [oQ 21 (.ix 11 (.t 17) (.t 19)), oQ 22 (.ld 11 true (.t 21)), oE 6 (.alloc [.str ⟨#[]⟩, .sl .full 3 [], .int .i64 0, .int .i64 0, .str ⟨#[]⟩, .str ⟨#[]⟩, .int .i64 0, .cpx 0 0, .sl .full 7 [], .int .i64 0, .int .i64 0]), oN (.st 11 (.t 6) (.t 22))])
  (.keep [2, 3, 4, 6, 17, 18, 19])) (.seq 
 (.seqg (.reg [oQ 23 (.mv (.t 4)), oQ 24 (.fa 1 (.t 6)), oQ 25 (.ld 1 false (.t 24)), oE 26 (.appn 3 32 (.c (.sl .full 3 [])) (.t 25)), oQ 27 (.chk (.t 23)), oQ 28 (.fa 2 (.t 27)), oN (.st 1 (.t 28) (.t 26))])
  (.keep [2, 3, 4, 6, 17, 18, 19])) 
 (.seqg (.reg [oQ 29 (.mv (.t 4)), oQ 30 (.fa 3 (.t 6)), oQ 31 (.ld 7 true (.t 30)), oQ 32 (.fa 2 (.t 6)), oQ 33 (.ld 1 false (.t 32)), oE 34 (.call (.c (.fn F_types_checker_want [])) [(.t 29), (.t 31), (.t 33)])])
  (.keep [2, 3, 4, 17, 18, 19]))))) 
 (.seqg (.reg [oQ 35 (.bin .add .num (.t 19) (.c (.int .i64 1))), oQ 19 (.mv (.t 35))])
  (.keep [2, 3, 4, 17, 18, 19]))))))))) (.seq 
 (.seqg (.reg [oQ 36 (.ld 2 true (.t 3)), oN (.st 2 (.t 2) (.t 36))])
  (.keep [2])) .ret))))))
def r_types_Check : List ARes := [.c 2 2 true]
theorem w_types_Check : FnW Tryz.prog F_types_Check c_types_Check r_types_Check 37 := ⟨Tryz.f50, (Tryz.f50).body.get rfl, by kernel_rfl, Tryz.func50, by kernel_rfl, by kernel_rfl, by kernel_rfl, by kernel_rfl⟩
def c_tuples_Check : ACode := (.seq 
 (.seqg (.reg [oQ 1 (.box (.t 0)), oQ 2 (.mv (.c (.int .i64 0)))])
  (.keep [1])) (.seq 
 (.seqg (.reg [oQ 11 (.fa 0 (.t 1)), oQ 12 (.ld 1 false (.t 11)), oQ 13 (.call F_tuples_Count [(.t 12)]), oQ 10 (.mv (.t 13)), oQ 14 (.ext (.t 10) 0), oQ 15 (.ext (.t 10) 1), oQ 3 (.mv (.t 14)), oQ 4 (.mv (.t 15))])
  (.keep [1, 3, 4])) (.seq 
 (.seqg (.reg [oQ 17 (.fa 1 (.t 1)), oQ 18 (.ld 1 false (.t 17)), oQ 19 (.call F_tuples_size [(.t 18)]), oQ 16 (.mv (.t 19)), oQ 20 (.ext (.t 16) 0), oQ 21 (.ext (.t 16) 1), oQ 5 (.mv (.t 20)), oQ 6 (.mv (.t 21))])
  (.keep [1, 3, 4, 5, 6])) (.seq (.seq 
 (.seqg (.reg [oQ 22 (.mv (.t 4)), oQ 23 (.bin .neq .num (.t 22) (.c (.int .i64 0))), oQ 24 (.mv (.t 23)), oFQ 25 24 (.mv (.t 6)), oFQ 26 24 (.bin .neq .num (.t 25) (.c (.int .i64 0))), oQ 27 (.pick (.t 24) (.c (.bool true)) (.t 26)), oQ 28 (.mv (.t 27)), oFQ 29 28 (.fa 2 (.t 1)), oFQ 30 28 (.fa 0 (.t 29)), oFQ 31 28 (.ld 1 false (.t 30)), oFQ 32 28 (.mv (.t 3)), oFQ 33 28 (.bin .neq .num (.t 31) (.t 32)), oQ 34 (.pick (.t 28) (.c (.bool true)) (.t 33)), oQ 35 (.mv (.t 34)), oFQ 36 35 (.fa 2 (.t 1)), oFQ 37 35 (.ld 2 true (.t 36)), oFQ 38 35 (.call F_rows_Check [(.t 37)]), oFQ 39 35 (.bin .neq .num (.t 38) (.c (.int .i64 0))), oQ 40 (.pick (.t 35) (.c (.bool true)) (.t 39))])
  (.keep [1, 5, 40])) 
 (.cond (.t 40) (.seq 
 (.seqg (.reg [oQ 2 (.mv (.c (.int .i64 3)))])
  (.keep [2])) .ret) .skip)) (.seq (.seq 
 (.seqg (.reg [oQ 41 (.mv (.t 5)), oQ 7 (.mv (.t 41))])
  (.keep [1, 7])) 
 (.block 0 
 (.gseq (.keep [1, 7]) (.loop (.seq (.seq 
 (.seqg (.reg [oQ 42 (.mv (.t 7)), oQ 43 (.bin .lss .num (.t 42) (.c (.int .i64 4)))])
  (.keep [1, 7, 43])) 
 (.cond (.t 43) .skip (.exit 0))) (.seq 
 (.block 1 (.seq 
 (.seqg (.reg [oQ 47 (.fa 2 (.t 1)), oQ 48 (.ld 2 true (.t 47)), oQ 49 (.mv (.t 7)), oQ 50 (.call F_rows_Count [(.t 48), (.t 49)]), oQ 46 (.mv (.t 50)), oQ 51 (.ext (.t 46) 0), oQ 52 (.ext (.t 46) 1), oQ 8 (.mv (.t 51)), oQ 9 (.mv (.t 52))])
  (.keep [1, 7, 8])) (.seq 
 (.seqg (.reg [oQ 53 (.mv (.t 8)), oQ 54 (.bin .gtr .num (.t 53) (.c (.int .i64 0)))])
  (.keep [1, 7, 54])) 
 (.cond (.t 54) (.seq 
 (.seqg (.reg [oQ 2 (.mv (.c (.int .i64 3)))])
  (.keep [2])) .ret) .skip)))) 
 (.seqg (.reg [oQ 44 (.mv (.t 7)), oQ 45 (.bin .add .num (.t 44) (.c (.int .i64 1))), oQ 7 (.mv (.t 45))])
  (.keep [1, 7])))))))) (.seq 
 (.seqg (.reg [oQ 2 (.mv (.c (.int .i64 0)))])
  (.keep [2])) .ret))))))
def r_tuples_Check : List ARes := [.t 2]
theorem w_tuples_Check : FnW Tryz.prog F_tuples_Check c_tuples_Check r_tuples_Check 55 := ⟨Tryz.f51, (Tryz.f51).body.get rfl, by kernel_rfl, Tryz.func51, by kernel_rfl, by kernel_rfl, by kernel_rfl, by kernel_rfl⟩
def c_tuples_At : ACode := (.seq 
 (.seqg (.reg [oQ 2 (.box (.t 0)), oQ 4 (.mv (.c (.int .i64 0))), oQ 5 (.mv (.c (.int .i64 0)))])
  (.keep [1, 2])) (.seq 
 (.seqg (.reg [oQ 10 (.ld 4 true (.t 2)), oQ 11 (.mv (.t 1)), oQ 12 (.call F_tuples_place [(.t 10), (.t 11)]), oQ 9 (.mv (.t 12)), oQ 13 (.ext (.t 9) 0), oQ 14 (.ext (.t 9) 1), oQ 6 (.mv (.t 13)), oQ 7 (.mv (.t 14))])
  (.keep [2, 6, 7])) (.seq (.seq 
 (.seqg (.reg [oQ 15 (.mv (.t 7)), oQ 16 (.bin .neq .num (.t 15) (.c (.int .i64 0)))])
  (.keep [2, 6, 7, 16])) 
 (.cond (.t 16) (.seq 
 (.seqg (.reg [oQ 17 (.mv (.t 7)), oQ 4 (.mv (.c (.int .i64 0))), oQ 5 (.mv (.t 17))])
  (.keep [4, 5])) .ret) .skip)) (.seq 
 (.seqg (.reg [oQ 19 (.fa 2 (.t 2)), oQ 20 (.ld 2 true (.t 19)), oQ 21 (.mv (.t 6)), oQ 22 (.call F_rows_Get [(.t 20), (.t 21)]), oQ 18 (.mv (.t 22)), oQ 23 (.ext (.t 18) 0), oQ 24 (.ext (.t 18) 1), oQ 8 (.mv (.t 23)), oQ 7 (.mv (.t 24))])
  (.keep [7, 8])) (.seq 
 (.seqg (.reg [oQ 25 (.mv (.t 8)), oQ 26 (.mv (.t 7)), oQ 4 (.mv (.t 25)), oQ 5 (.mv (.t 26))])
  (.keep [4, 5])) .ret)))))
def r_tuples_At : List ARes := [.t 4, .t 5]
theorem w_tuples_At : FnW Tryz.prog F_tuples_At c_tuples_At r_tuples_At 27 := ⟨Tryz.f52, (Tryz.f52).body.get rfl, by kernel_rfl, Tryz.func52, by kernel_rfl, by kernel_rfl, by kernel_rfl, by kernel_rfl⟩
def c_fathomref07_Check : ACode := (.seq 
 (.seqg (.reg [oQ 1 (.box (.t 0)), oE 2 (.alloc [.int .i64 0, .int .i64 0])])
  (.keep [1, 2])) (.seq 
 (.seqg (.reg [oQ 7 (.ld 1 true (.t 1)), oQ 8 (.call F_fathomref06_Check [(.t 7)]), oE 3 (.alloc [.int .i64 0, .int .i64 0]), oN (.st 2 (.t 3) (.t 8))])
  (.keep [1, 2, 3])) (.seq (.seq 
 (.seqg (.reg [oQ 9 (.fa 0 (.t 3)), oQ 10 (.ld 1 false (.t 9)), oQ 11 (.bin .neq .num (.t 10) (.c (.int .i64 0)))])
  (.keep [1, 2, 3, 11])) 
 (.cond (.t 11) (.seq 
 (.seqg (.reg [oQ 12 (.ld 2 true (.t 3)), oN (.st 2 (.t 2) (.t 12))])
  (.keep [2])) .ret) .skip)) (.seq (.seq 
 (.seqg (.reg [oQ 4 (.mv (.c (.int .i64 0)))])
  (.keep [1, 2, 3, 4])) 
 (.block 0 
 (.gseq (.keep [1, 2, 3, 4]) (.loop (.seq (.seq 
 (.seqg (.reg [oQ 13 (.mv (.t 4)), oQ 14 (.fa 0 (.t 1)), oQ 15 (.ld 1 false (.t 14)), oQ 16 (.len (.t 15)), oQ 17 (.bin .lss .num (.t 13) (.t 16))])
  (.keep [1, 2, 3, 4, 17])) 
 (.cond (.t 17) .skip (.exit 0))) (.seq 
 (.block 1 (.seq 
 (.seqg (.drw [oQ 20 (.ld 1 true (.t 1)), oQ 21 (.fa 0 (.t 1)), oQ 22 (.ld 1 false (.t 21)), oQ 23 (.mv (.t 4)), oQ 24 (.ix 11 (.t 22) (.t 23)), oQ 25 (.fa 1 (.t 24)), oQ 26 (.ld 1 false (.t 25)), oQ 27 (.fa 0 (.t 1)), oQ 28 (.ld 1 false (.t 27)), oQ 29 (.mv (.t 4)), oQ 30 (.ix 11 (.t 28) (.t 29)), oQ 31 (.fa 3 (.t 30)), oQ 32 (.ld 7 true (.t 31)), oQ 33 (.fa 0 (.t 1)), oQ 34 (.ld 1 false (.t 33)), oQ 35 (.mv (.t 4)), oQ 36 (.ix 11 (.t 34) (.t 35)), oQ 37 (.fa 2 (.t 36)), oQ 38 (.ld 1 false (.t 37)), oQ 39 (.call F_fathomref07_wrong [(.t 20), (.t 26), (.t 32), (.t 38)]), oQ 5 (.mv (.t 39))])
  (.keep [1, 2, 3, 4, 5])) (.seq 
 (.seqg (.reg [oQ 6 (.mv (.c (.int .i64 0)))])
  (.keep [1, 2, 3, 4, 5, 6])) 
 (.block 2 
 (.gseq (.keep [1, 2, 3, 4, 5, 6]) (.loop (.seq (.seq 
 (.seqg (.reg [oQ 40 (.mv (.t 6)), oQ 41 (.mv (.t 5)), oQ 42 (.len (.t 41)), oQ 43 (.bin .lss .num (.t 40) (.t 42))])
  (.keep [1, 2, 3, 4, 5, 6, 43])) 
 (.cond (.t 43) .skip (.exit 2))) (.seq 
 (.block 3 (.seq 
 (.seqg (.drw [oQ 46 (.fa 0 (.t 3)), oQ 47 (.ld 1 false (.t 46)), oQ 48 (.bin .eql .num (.t 47) (.c (.int .i64 0))), oQ 49 (.mv (.t 48)), oFQ 50 49 (.mv (.t 5)), oFQ 51 49 (.mv (.t 6)), oFQ 52 49 (.ix 1 (.t 50) (.t 51)), oFQ 53 49 (.ld 1 false (.t 52)), oFQ 54 49 (.fa 1 (.t 3)), oFQ 55 49 (.ld 1 false (.t 54)), oFQ 56 49 (.bin .lss .num (.t 53) (.t 55)), oQ 57 (.pick (.t 49) (.c (.bool true)) (.t 56))])
  (.keep [1, 2, 3, 4, 5, 6, 57])) 
 (.cond (.t 57) 
 (.seqg (.reg [oQ 58 (.mv (.t 5)), oQ 59 (.mv (.t 6)), oQ 60 (.ix 1 (.t 58) (.t 59)), oQ 61 (.ld 1 false (.t 60)), oQ 62 (.bld [.int .i64 0, .int .i64 0] [(0, 1, (.c (.int .i64 34))), (1, 1, (.t 61))]), oN (.st 2 (.t 3) (.t 62))])
  (.keep [1, 2, 3, 4, 5, 6])) .skip))) 
 (.seqg (.reg [oQ 44 (.mv (.t 6)), oQ 45 (.bin .add .num (.t 44) (.c (.int .i64 1))), oQ 6 (.mv (.t 45))])
  (.keep [1, 2, 3, 4, 5, 6])))))))))) 
 (.seqg (.reg [oQ 18 (.mv (.t 4)), oQ 19 (.bin .add .num (.t 18) (.c (.int .i64 1))), oQ 4 (.mv (.t 19))])
  (.keep [1, 2, 3, 4])))))))) (.seq 
 (.seqg (.reg [oQ 63 (.ld 2 true (.t 3)), oN (.st 2 (.t 2) (.t 63))])
  (.keep [2])) .ret)))))
def r_fathomref07_Check : List ARes := [.c 2 2 true]
theorem w_fathomref07_Check : FnW Tryz.prog F_fathomref07_Check c_fathomref07_Check r_fathomref07_Check 64 := ⟨Tryz.f53, (Tryz.f53).body.get rfl, by kernel_rfl, Tryz.func53, by kernel_rfl, by kernel_rfl, by kernel_rfl, by kernel_rfl⟩
def c_abseval_see : ACode := (.seq 
 (.seqg (.reg [oQ 2 (.box (.t 0)), oQ 4 (.mv (.c (.nilp))), oQ 5 (.mv (.c (.int .i64 0)))])
  (.keep [1, 2])) (.seq (.seq 
 (.seqg (.reg [oQ 12 (.ld 1 true (.t 2)), oQ 13 (.call F_types_Check [(.t 12)]), oQ 14 (.fld 0 1 false (.t 13)), oQ 15 (.bin .neq .num (.t 14) (.c (.int .i64 0))), oQ 16 (.mv (.t 15)), oFQ 17 16 (.mv (.t 1)), oFQ 18 16 (.len (.t 17)), oFQ 19 16 (.fa 0 (.t 2)), oFQ 20 16 (.ld 1 false (.t 19)), oFQ 21 16 (.len (.t 20)), oFQ 22 16 (.bin .neq .num (.t 18) (.t 21)), oQ 23 (.pick (.t 16) (.c (.bool true)) (.t 22))])
  (.keep [1, 2, 23])) 
 (.cond (.t 23) (.seq 
 (.seqg (.reg [oQ 4 (.mv (.c (.nilp))), oQ 5 (.mv (.c (.int .i64 3)))])
  (.keep [4, 5])) .ret) .skip)) (.seq 
 (.seqg (.reg [oQ 24 (.ld 1 true (.t 2)), oE 25 .mkm, oQ 26 (.mv (.t 1)), oQ 27 (.bld [.sl .full 11 [], .nilm, .sl .full 4 []] [(0, 1, (.t 24)), (1, 1, (.t 25)), (2, 1, (.t 26))]), oQ 28 (.box (.t 27)), oQ 6 (.mv (.t 28))])
  (.keep [1, 2, 6])) (.seq (.seq 
 (.seqg (.reg [oQ 29 (.fa 0 (.t 2)), oQ 30 (.ld 1 false (.t 29)), oQ 31 (.len (.t 30)), oQ 32 (.mv (.c (.int .i64 0)))])
  (.keep [1, 6, 30, 31, 32])) 
 (.block 0 
 (.gseq (.keep [1, 6, 30, 31, 32]) (.loop (.seq 
 (.seqg (.reg [oQ 33 (.bin .lss .num (.t 32) (.t 31))])
  (.keep [1, 6, 30, 31, 32, 33])) (.seq 
 (.cond (.t 33) .skip (.exit 0)) (.seq 
 (.block 1 (.seq 
 (.seqg (.reg [oQ 34 (.mv (.t 32)), oQ 35 (.ix 11 (.t 30) (.t 32)), oQ 36 (.ld 11 true (.t 35)), oE 8 (.alloc [.str ⟨#[]⟩, .sl .full 3 [], .int .i64 0, .int .i64 0, .str ⟨#[]⟩, .str ⟨#[]⟩, .int .i64 0, .cpx 0 0, .sl .full 7 [], .int .i64 0, .int .i64 0]), oQ 7 (.mv (.t 34)), oN (.st 11 (.t 8) (.t 36))])
  (.keep [1, 6, 7, 8, 30, 31, 32])) (.seq 
 (.seqg (.drw [oQ 37 (.mv (.t 6)), oQ 38 (.chk (.t 37)), oQ 39 (.fa 1 (.t 38)), oQ 40 (.ld 1 false (.t 39)), oQ 41 (.fa 0 (.t 8)), oQ 42 (.ld 1 false (.t 41)), oQ 43 (.mv (.t 7)), oN (.updm (.t 40) (.t 42) (.t 43))])
  (.keep [1, 6, 7, 8, 30, 31, 32])) (.seq 
 (.seqg (.reg [oQ 44 (.mv (.t 1)), oQ 45 (.mv (.t 7)), oQ 46 (.ix 4 (.t 44) (.t 45)), oQ 47 (.ld 4 true (.t 46)), oE 9 (.alloc [.sl .full 1 [], .int .i64 0, .int .i64 0, .sl .full 1 []]), oN (.st 4 (.t 9) (.t 47))])
  (.keep [1, 6, 8, 9, 30, 31, 32])) (.seq (.seq 
 (.seqg (.reg [oQ 48 (.ld 4 true (.t 9)), oQ 49 (.call F_tuples_Check [(.t 48)]), oQ 50 (.bin .neq .num (.t 49) (.c (.int .i64 0))), oQ 51 (.mv (.t 50)), oFQ 52 51 (.fa 1 (.t 9)), oFQ 53 51 (.ld 1 false (.t 52)), oFQ 54 51 (.fa 2 (.t 8)), oFQ 55 51 (.ld 1 false (.t 54)), oFQ 56 51 (.bin .neq .num (.t 53) (.t 55)), oQ 57 (.pick (.t 51) (.c (.bool true)) (.t 56)), oQ 58 (.mv (.t 57)), oFQ 59 58 (.fa 0 (.t 9)), oFQ 60 58 (.ld 1 false (.t 59)), oFQ 61 58 (.len (.t 60)), oFQ 62 58 (.fa 1 (.t 8)), oFQ 63 58 (.ld 1 false (.t 62)), oFQ 64 58 (.len (.t 63)), oFQ 65 58 (.bin .neq .num (.t 61) (.t 64)), oQ 66 (.pick (.t 58) (.c (.bool true)) (.t 65))])
  (.keep [1, 6, 8, 9, 30, 31, 32, 66])) 
 (.cond (.t 66) (.seq 
 (.seqg (.reg [oQ 4 (.mv (.c (.nilp))), oQ 5 (.mv (.c (.int .i64 3)))])
  (.keep [4, 5])) .ret) .skip)) (.seq 
 (.seqg (.reg [oQ 67 (.fa 1 (.t 8)), oQ 68 (.ld 1 false (.t 67)), oQ 69 (.len (.t 68)), oQ 70 (.mv (.c (.int .i64 0)))])
  (.keep [1, 6, 9, 30, 31, 32, 68, 69, 70])) 
 (.block 2 
 (.gseq (.keep [1, 6, 9, 30, 31, 32, 68, 69, 70]) (.loop (.seq 
 (.seqg (.reg [oQ 71 (.bin .lss .num (.t 70) (.t 69))])
  (.keep [1, 6, 9, 30, 31, 32, 68, 69, 70, 71])) (.seq 
 (.cond (.t 71) .skip (.exit 2)) (.seq 
 (.block 3 (.seq 
 (.seqg (.reg [oQ 72 (.mv (.t 70)), oQ 73 (.ix 3 (.t 68) (.t 70)), oQ 74 (.ld 3 true (.t 73)), oE 11 (.alloc [.str ⟨#[]⟩, .int .i64 0, .int .i64 0]), oQ 10 (.mv (.t 72)), oN (.st 3 (.t 11) (.t 74))])
  (.keep [1, 6, 9, 10, 11, 30, 31, 32, 68, 69, 70])) (.seq 
 (.seqg (.drw [oQ 75 (.fa 0 (.t 9)), oQ 76 (.ld 1 false (.t 75)), oQ 77 (.mv (.t 10)), oQ 78 (.ix 1 (.t 76) (.t 77)), oQ 79 (.ld 1 false (.t 78)), oQ 80 (.fa 1 (.t 11)), oQ 81 (.ld 1 false (.t 80)), oQ 82 (.bin .neq .num (.t 79) (.t 81))])
  (.keep [1, 6, 9, 30, 31, 32, 68, 69, 70, 82])) 
 (.cond (.t 82) (.seq 
 (.seqg (.reg [oQ 4 (.mv (.c (.nilp))), oQ 5 (.mv (.c (.int .i64 3)))])
  (.keep [4, 5])) .ret) .skip)))) 
 (.seqg (.reg [oQ 83 (.bin .add .num (.t 70) (.c (.int .i64 1))), oQ 70 (.mv (.t 83))])
  (.keep [1, 6, 9, 30, 31, 32, 68, 69, 70])))))))))))))) 
 (.seqg (.reg [oQ 84 (.bin .add .num (.t 32) (.c (.int .i64 1))), oQ 32 (.mv (.t 84))])
  (.keep [1, 6, 30, 31, 32]))))))))) (.seq 
 (.gseq (.freezem 6 1) (.seqg (.reg [oQ 85 (.mv (.t 6)), oQ 4 (.mv (.t 85)), oQ 5 (.mv (.c (.int .i64 0)))])
  (.keep [4, 5]))) .ret)))))
def r_abseval_see : List ARes := [.t 4, .t 5]
theorem w_abseval_see : FnW Tryz.prog F_abseval_see c_abseval_see r_abseval_see 86 := ⟨Tryz.f55, (Tryz.f55).body.get rfl, by kernel_rfl, Tryz.func55, by kernel_rfl, by kernel_rfl, by kernel_rfl, by kernel_rfl⟩
def c_points_Check : ACode := (.seq 
 (.seqg (.reg [oQ 4 (.mv (.c (.int .i64 0)))])
  (.keep [0, 1])) (.seq 
 (.seqg (.reg [oQ 8 (.mv (.t 0)), oQ 9 (.call F_points_Top [(.t 8)]), oQ 7 (.mv (.t 9)), oQ 10 (.ext (.t 7) 0), oQ 11 (.ext (.t 7) 1), oQ 5 (.mv (.t 10)), oQ 6 (.mv (.t 11))])
  (.keep [1, 5, 6])) (.seq (.seq 
 (.seqg (.reg [oQ 12 (.mv (.t 6)), oQ 13 (.bin .eql .num (.t 12) (.c (.int .i64 0))), oQ 14 (.mv (.t 13)), oTQ 15 14 (.mv (.t 1)), oTQ 16 14 (.bin .lss .num (.t 15) (.c (.int .i64 0))), oTQ 17 14 (.mv (.t 16)), oFQ 18 17 (.mv (.t 1)), oFQ 19 17 (.mv (.t 5)), oFQ 20 17 (.bin .gtr .num (.t 18) (.t 19)), oTQ 21 14 (.pick (.t 17) (.c (.bool true)) (.t 20)), oQ 22 (.pick (.t 14) (.t 21) (.c (.bool false)))])
  (.keep [6, 22])) 
 (.cond (.t 22) (.seq 
 (.seqg (.reg [oQ 4 (.mv (.c (.int .i64 2)))])
  (.keep [4])) .ret) .skip)) (.seq 
 (.seqg (.reg [oQ 23 (.mv (.t 6)), oQ 4 (.mv (.t 23))])
  (.keep [4])) .ret))))
def r_points_Check : List ARes := [.t 4]
theorem w_points_Check : FnW Tryz.prog F_points_Check c_points_Check r_points_Check 24 := ⟨Tryz.f56, (Tryz.f56).body.get rfl, by kernel_rfl, Tryz.func56, by kernel_rfl, by kernel_rfl, by kernel_rfl, by kernel_rfl⟩
def c_types_Of : ACode := (.seq 
 (.seqg (.reg [oQ 3 (.box (.t 0)), oQ 5 (.box (.t 2)), oQ 6 (.mv (.c (.int .i64 0))), oQ 7 (.mv (.c (.int .i64 0)))])
  (.keep [1, 3, 5])) (.seq (.seq 
 (.seqg (.reg [oQ 12 (.bsl 1 [(.c (.int .i64 1)), (.c (.int .i64 2)), (.c (.int .i64 3))]), oQ 13 (.len (.t 12)), oQ 14 (.mv (.c (.int .i64 0)))])
  (.keep [1, 3, 5, 12, 13, 14])) 
 (.block 0 
 (.gseq (.keep [1, 3, 5, 12, 13, 14]) (.loop (.seq 
 (.seqg (.reg [oQ 15 (.bin .lss .num (.t 14) (.t 13))])
  (.keep [1, 3, 5, 12, 13, 14, 15])) (.seq 
 (.cond (.t 15) .skip (.exit 0)) (.seq 
 (.block 1 (.seq 
 (.seqg (.reg [oQ 16 (.ix 1 (.t 12) (.t 14)), oQ 17 (.ld 1 false (.t 16)), oQ 9 (.mv (.t 17))])
  (.keep [1, 3, 5, 9, 12, 13, 14])) (.seq 
 (.seqg (.reg [oE 10 (.alloc [.int .i64 0]), oN (.st 1 (.t 10) (.c (.int .i64 0)))])
  (.keep [1, 3, 5, 9, 10, 12, 13, 14])) (.seq 
 (.seqg (.reg [oQ 18 (.ld 1 true (.t 3)), oQ 19 (.mkf F_types_Of_1 [(.t 10)]), oE 20 (.call (.c (.fn F_types_open [])) [(.t 18), (.t 19)]), oQ 11 (.mv (.t 20))])
  (.keep [1, 3, 5, 9, 10, 11, 12, 13, 14])) (.seq 
 (.seqg (.reg [oQ 21 (.mv (.t 11)), oQ 22 (.mv (.t 11)), oQ 23 (.chk (.t 22)), oQ 24 (.fa 2 (.t 23)), oQ 25 (.ld 1 false (.t 24)), oQ 26 (.mv (.t 1)), oE 27 (.appn 3 32 (.t 25) (.t 26)), oQ 28 (.chk (.t 21)), oQ 29 (.fa 2 (.t 28)), oN (.st 1 (.t 29) (.t 27))])
  (.keep [1, 3, 5, 9, 10, 11, 12, 13, 14])) (.seq 
 (.seqg (.reg [oQ 30 (.mv (.t 11)), oQ 31 (.ld 7 true (.t 5)), oQ 32 (.mv (.t 9)), oE 33 (.call (.c (.fn F_types_checker_want [])) [(.t 30), (.t 31), (.t 32)])])
  (.keep [1, 3, 5, 9, 10, 12, 13, 14])) (.seq 
 (.seqg (.reg [oQ 34 (.ld 1 false (.t 10)), oQ 35 (.bin .eql .num (.t 34) (.c (.int .i64 0)))])
  (.keep [1, 3, 5, 9, 12, 13, 14, 35])) 
 (.cond (.t 35) (.seq 
 (.seqg (.reg [oQ 36 (.mv (.t 9)), oQ 6 (.mv (.t 36)), oQ 7 (.mv (.c (.int .i64 0)))])
  (.keep [6, 7])) .ret) .skip)))))))) 
 (.seqg (.reg [oQ 37 (.bin .add .num (.t 14) (.c (.int .i64 1))), oQ 14 (.mv (.t 37))])
  (.keep [1, 3, 5, 12, 13, 14]))))))))) (.seq 
 (.seqg (.reg [oQ 6 (.mv (.c (.int .i64 0))), oQ 7 (.mv (.c (.int .i64 34)))])
  (.keep [6, 7])) .ret)))
def r_types_Of : List ARes := [.t 6, .t 7]
theorem w_types_Of : FnW Tryz.prog F_types_Of c_types_Of r_types_Of 38 := ⟨Tryz.f57, (Tryz.f57).body.get rfl, by kernel_rfl, Tryz.func57, by kernel_rfl, by kernel_rfl, by kernel_rfl, by kernel_rfl⟩
def c_abseval_shallow : ACode := (.seq 
 (.seqg (.reg [oQ 1 (.box (.t 0)), oQ 2 (.mv (.c (.int .i64 0)))])
  (.keep [1])) (.seq (.seq 
 (.seqg (.reg [oQ 3 (.ld 7 true (.t 1)), oQ 4 (.call F_scope_Nest [(.t 3)]), oQ 5 (.bin .gtr .num (.t 4) (.c (.int .i64 6)))])
  (.keep [5])) 
 (.cond (.t 5) (.seq 
 (.seqg (.reg [oQ 2 (.mv (.c (.int .i64 23)))])
  (.keep [2])) .ret) .skip)) (.seq 
 (.seqg (.reg [oQ 2 (.mv (.c (.int .i64 0)))])
  (.keep [2])) .ret)))
def r_abseval_shallow : List ARes := [.t 2]
theorem w_abseval_shallow : FnW Tryz.prog F_abseval_shallow c_abseval_shallow r_abseval_shallow 6 := ⟨Tryz.f58, (Tryz.f58).body.get rfl, by kernel_rfl, Tryz.func58, by kernel_rfl, by kernel_rfl, by kernel_rfl, by kernel_rfl⟩
def c_abseval_sight_point : ACode := (.seq 
 (.seqg (.reg [oQ 4 (.box (.t 1)), oQ 6 (.mv (.c (.int .i64 0)))])
  (.keep [0, 2, 4])) (.seq (.seq 
 (.seqg (.reg [oQ 13 (.fa 0 (.t 4)), oQ 14 (.ld 1 false (.t 13))])
  (.keep [0, 2, 4, 14])) 
 (.block 0 (.seq (.seq 
 (.seqg (.reg [oQ 16 (.bin .eql .num (.t 14) (.c (.int .i64 1))), oQ 15 (.mv (.t 16))])
  (.keep [0, 2, 4, 14, 15])) 
 (.cond (.t 15) .skip (.seq 
 (.seqg (.reg [oQ 17 (.bin .eql .num (.t 14) (.c (.int .i64 2))), oQ 15 (.mv (.t 17))])
  (.keep [0, 2, 4, 14, 15])) 
 (.cond (.t 15) .skip 
 (.seqg (.reg [oQ 18 (.bin .eql .num (.t 14) (.c (.int .i64 3))), oQ 15 (.mv (.t 18))])
  (.keep [0, 2, 4, 14, 15])))))) 
 (.cond (.t 15) (.seq 
 (.seqg (.reg [oQ 6 (.mv (.c (.int .i64 1)))])
  (.keep [6])) .ret) (.seq 
 (.seqg (.reg [oQ 20 (.bin .eql .num (.t 14) (.c (.int .i64 4))), oQ 19 (.mv (.t 20))])
  (.keep [0, 2, 4, 14, 19])) 
 (.cond (.t 19) (.seq 
 (.seqg (.reg [oQ 6 (.mv (.c (.int .i64 3)))])
  (.keep [6])) .ret) (.seq 
 (.seqg (.reg [oQ 22 (.bin .eql .num (.t 14) (.c (.int .i64 5))), oQ 21 (.mv (.t 22))])
  (.keep [0, 2, 4, 14, 21])) 
 (.cond (.t 21) (.seq 
 (.seqg (.reg [oQ 6 (.mv (.c (.int .i64 0)))])
  (.keep [6])) .ret) (.seq 
 (.seqg (.reg [oQ 24 (.bin .eql .num (.t 14) (.c (.int .i64 6))), oQ 23 (.mv (.t 24))])
  (.keep [0, 2, 4, 14, 23])) 
 (.cond (.t 23) (.seq 
 (.seqg (.reg [oQ 25 (.mv (.t 2)), oQ 26 (.fa 1 (.t 4)), oQ 27 (.ld 1 false (.t 26)), oQ 28 (.call F_abseval_names_find [(.t 25), (.t 27)]), oQ 6 (.mv (.t 28))])
  (.keep [6])) .ret) (.seq 
 (.seqg (.reg [oQ 30 (.bin .eql .num (.t 14) (.c (.int .i64 19))), oQ 29 (.mv (.t 30))])
  (.keep [0, 2, 4, 14, 29])) 
 (.cond (.t 29) (.seq (.seq 
 (.seqg (.reg [oQ 31 (.mv (.t 0)), oQ 32 (.fa 5 (.t 4)), oQ 33 (.ld 1 false (.t 32)), oQ 34 (.ix 7 (.t 33) (.c (.int .i64 0))), oQ 35 (.ld 7 true (.t 34)), oQ 36 (.mv (.t 2)), oQ 37 (.call F_abseval_sight_point [(.t 31), (.t 35), (.t 36)]), oQ 38 (.bin .eql .num (.t 37) (.c (.int .i64 0)))])
  (.keep [0, 2, 4, 38])) 
 (.cond (.t 38) (.seq 
 (.seqg (.reg [oQ 6 (.mv (.c (.int .i64 0)))])
  (.keep [6])) .ret) .skip)) (.seq 
 (.seqg (.drw [oQ 39 (.mv (.t 0)), oQ 40 (.fa 5 (.t 4)), oQ 41 (.ld 1 false (.t 40)), oQ 42 (.ix 7 (.t 41) (.c (.int .i64 1))), oQ 43 (.ld 7 true (.t 42)), oQ 44 (.mv (.t 2)), oQ 45 (.call F_abseval_sight_point [(.t 39), (.t 43), (.t 44)]), oQ 46 (.mv (.t 0)), oQ 47 (.fa 5 (.t 4)), oQ 48 (.ld 1 false (.t 47)), oQ 49 (.ix 7 (.t 48) (.c (.int .i64 2))), oQ 50 (.ld 7 true (.t 49)), oQ 51 (.mv (.t 2)), oQ 52 (.call F_abseval_sight_point [(.t 46), (.t 50), (.t 51)]), oQ 53 (.mm true (.t 45) [(.t 52)]), oQ 6 (.mv (.t 53))])
  (.keep [6])) .ret)) (.seq 
 (.seqg (.reg [oQ 55 (.bin .eql .num (.t 14) (.c (.int .i64 20))), oQ 54 (.mv (.t 55))])
  (.keep [0, 2, 4, 14, 54])) 
 (.cond (.t 54) (.seq 
 (.seqg (.reg [oQ 56 (.mv (.t 0)), oQ 57 (.ld 7 true (.t 4)), oQ 58 (.mv (.t 2)), oQ 59 (.call F_abseval_sight_cases [(.t 56), (.t 57), (.t 58)]), oQ 6 (.mv (.t 59))])
  (.keep [6])) .ret) (.seq 
 (.seqg (.reg [oQ 61 (.bin .eql .num (.t 14) (.c (.int .i64 21))), oQ 60 (.mv (.t 61))])
  (.keep [0, 2, 4, 14, 60])) 
 (.cond (.t 60) (.seq 
 (.seqg (.reg [oQ 62 (.fa 1 (.t 4)), oQ 63 (.ld 1 false (.t 62)), oQ 64 (.mv (.t 2)), oQ 65 (.bld [.str ⟨#[]⟩, .int .i64 0, .nilp] [(0, 1, (.t 63)), (2, 1, (.t 64))]), oQ 66 (.box (.t 65)), oQ 7 (.mv (.t 66))])
  (.keep [0, 2, 4, 7])) (.seq (.seq 
 (.seqg (.reg [oQ 67 (.mv (.t 0)), oQ 68 (.fa 5 (.t 4)), oQ 69 (.ld 1 false (.t 68)), oQ 70 (.ix 7 (.t 69) (.c (.int .i64 0))), oQ 71 (.ld 7 true (.t 70)), oQ 72 (.mv (.t 7)), oQ 73 (.call F_abseval_sight_point [(.t 67), (.t 71), (.t 72)]), oQ 8 (.mv (.t 73))])
  (.keep [0, 2, 4, 7, 8])) 
 (.block 1 
 (.gseq (.keep [0, 2, 4, 7, 8]) (.loop (.seq (.seq 
 (.seqg (.reg [oQ 74 (.mv (.t 8)), oQ 75 (.mv (.t 7)), oQ 76 (.chk (.t 75)), oQ 77 (.fa 1 (.t 76)), oQ 78 (.ld 1 false (.t 77)), oQ 79 (.bin .gtr .num (.t 74) (.t 78))])
  (.keep [0, 2, 4, 7, 8, 79])) 
 (.cond (.t 79) .skip (.exit 1))) (.seq 
 (.block 2 
 (.seqg (.reg [oQ 87 (.fa 1 (.t 4)), oQ 88 (.ld 1 false (.t 87)), oQ 89 (.mv (.t 8)), oQ 90 (.mv (.t 2)), oQ 91 (.bld [.str ⟨#[]⟩, .int .i64 0, .nilp] [(0, 1, (.t 88)), (1, 1, (.t 89)), (2, 1, (.t 90))]), oQ 92 (.box (.t 91)), oQ 7 (.mv (.t 92))])
  (.keep [0, 2, 4, 7]))) 
 (.seqg (.reg [oQ 80 (.mv (.t 0)), oQ 81 (.fa 5 (.t 4)), oQ 82 (.ld 1 false (.t 81)), oQ 83 (.ix 7 (.t 82) (.c (.int .i64 0))), oQ 84 (.ld 7 true (.t 83)), oQ 85 (.mv (.t 7)), oQ 86 (.call F_abseval_sight_point [(.t 80), (.t 84), (.t 85)]), oQ 8 (.mv (.t 86))])
  (.keep [0, 2, 4, 7, 8])))))))) (.seq 
 (.seqg (.reg [oQ 93 (.mv (.t 0)), oQ 94 (.fa 5 (.t 4)), oQ 95 (.ld 1 false (.t 94)), oQ 96 (.ix 7 (.t 95) (.c (.int .i64 1))), oQ 97 (.ld 7 true (.t 96)), oQ 98 (.mv (.t 7)), oQ 99 (.call F_abseval_sight_point [(.t 93), (.t 97), (.t 98)]), oQ 6 (.mv (.t 99))])
  (.keep [6])) .ret))) (.seq 
 (.seqg (.reg [oQ 101 (.bin .eql .num (.t 14) (.c (.int .i64 22))), oQ 100 (.mv (.t 101))])
  (.keep [0, 2, 4, 100])) 
 (.cond (.t 100) (.seq (.seq 
 (.seqg (.reg [oQ 102 (.mv (.t 0)), oQ 103 (.fa 5 (.t 4)), oQ 104 (.ld 1 false (.t 103)), oQ 105 (.ix 7 (.t 104) (.c (.int .i64 0))), oQ 106 (.ld 7 true (.t 105)), oQ 107 (.mv (.t 2)), oQ 108 (.call F_abseval_sight_point [(.t 102), (.t 106), (.t 107)]), oQ 9 (.mv (.t 108))])
  (.keep [0, 2, 4, 9])) (.seq 
 (.seqg (.reg [oQ 109 (.mv (.t 9)), oQ 110 (.bin .gtr .num (.t 109) (.c (.int .i64 0)))])
  (.keep [0, 2, 4, 9, 110])) 
 (.cond (.t 110) (.seq 
 (.seqg (.drw [oQ 111 (.mv (.t 0)), oQ 112 (.fa 5 (.t 4)), oQ 113 (.ld 1 false (.t 112)), oQ 114 (.ix 7 (.t 113) (.c (.int .i64 1))), oQ 115 (.ld 7 true (.t 114)), oQ 116 (.fa 1 (.t 4)), oQ 117 (.ld 1 false (.t 116)), oQ 118 (.mv (.t 9)), oQ 119 (.mv (.t 2)), oQ 120 (.bld [.str ⟨#[]⟩, .int .i64 0, .nilp] [(0, 1, (.t 117)), (1, 1, (.t 118)), (2, 1, (.t 119))]), oQ 121 (.box (.t 120)), oQ 122 (.call F_abseval_sight_point [(.t 111), (.t 115), (.t 121)]), oQ 6 (.mv (.t 122))])
  (.keep [6])) .ret) .skip))) (.seq 
 (.seqg (.reg [oQ 6 (.mv (.c (.int .i64 0)))])
  (.keep [6])) .ret)) .skip)))))))))))))))))) (.seq 
 (.seqg (.seqg (.reg [oQ 10 (.mv (.c (.sl .full 1 [])))])
  (.keep [0, 2, 4, 10]))
  (.mint 10)) (.seq (.seq 
 (.seqg (.reg [oQ 123 (.fa 5 (.t 4)), oQ 124 (.ld 1 false (.t 123)), oQ 125 (.len (.t 124)), oQ 126 (.mv (.c (.int .i64 0)))])
  (.keep [0, 2, 4, 10, 124, 125, 126])) 
 (.block 3 
 (.gseq (.keep [0, 2, 4, 10, 124, 125, 126]) (.loop (.seq 
 (.seqg (.reg [oQ 127 (.bin .lss .num (.t 126) (.t 125))])
  (.keep [0, 2, 4, 10, 124, 125, 126, 127])) (.seq 
 (.cond (.t 127) .skip (.exit 3)) (.seq 
 (.block 4 (.seq 
 (.seqg (.reg [oQ 128 (.ix 7 (.t 124) (.t 126)), oQ 129 (.ld 7 true (.t 128)), oE 12 (.alloc [.int .i64 0, .str ⟨#[]⟩, .str ⟨#[]⟩, .int .i64 0, .cpx 0 0, .sl .full 7 [], .int .i64 0]), oN (.st 7 (.t 12) (.t 129))])
  (.keep [0, 2, 4, 10, 12, 124, 125, 126])) 
 (.seqg (.reg [oQ 130 (.mv (.t 10)), oQ 131 (.mv (.t 0)), oQ 132 (.ld 7 true (.t 12)), oQ 133 (.mv (.t 2)), oQ 134 (.call F_abseval_sight_point [(.t 131), (.t 132), (.t 133)]), oQ 135 (.bsl 1 [(.t 134)]), oE 136 (.app 1 8 (.t 130) (.t 135)), oQ 10 (.mv (.t 136))])
  (.keep [0, 2, 4, 10, 124, 125, 126])))) 
 (.seqg (.reg [oQ 137 (.bin .add .num (.t 126) (.c (.int .i64 1))), oQ 126 (.mv (.t 137))])
  (.keep [0, 2, 4, 10, 124, 125, 126]))))))))) (.seq 
 (.seqg (.reg [oQ 138 (.mv (.t 0)), oQ 139 (.ld 7 true (.t 4)), oQ 140 (.mv (.t 10)), oQ 141 (.call F_abseval_sight_join [(.t 138), (.t 139), (.t 140)]), oQ 6 (.mv (.t 141))])
  (.keep [6])) .ret)))))
def r_abseval_sight_point : List ARes := [.t 6]
theorem w_abseval_sight_point : FnW Tryz.prog F_abseval_sight_point c_abseval_sight_point r_abseval_sight_point 142 := ⟨Tryz.f59, (Tryz.f59).body.get rfl, by kernel_rfl, Tryz.func59, by kernel_rfl, by kernel_rfl, by kernel_rfl, by kernel_rfl⟩
def c_fathomref06_Nest : ACode := (.seq 
 (.seqg (.reg [oQ 1 (.box (.t 0)), oQ 2 (.mv (.c (.int .i64 0)))])
  (.keep [1])) (.seq 
 (.seqg (.reg [oQ 3 (.mv (.c (.int .i64 0)))])
  (.keep [1, 3])) (.seq (.seq 
 (.seqg (.reg [oQ 4 (.mv (.c (.int .i64 0)))])
  (.keep [1, 3, 4])) 
 (.block 0 
 (.gseq (.keep [1, 3, 4]) (.loop (.seq (.seq 
 (.seqg (.reg [oQ 6 (.mv (.t 4)), oQ 7 (.fa 5 (.t 1)), oQ 8 (.ld 1 false (.t 7)), oQ 9 (.len (.t 8)), oQ 10 (.bin .lss .num (.t 6) (.t 9))])
  (.keep [1, 3, 4, 10])) 
 (.cond (.t 10) .skip (.exit 0))) (.seq 
 (.block 1 (.seq 
 (.seqg (.reg [oQ 13 (.fa 5 (.t 1)), oQ 14 (.ld 1 false (.t 13)), oQ 15 (.mv (.t 4)), oQ 16 (.ix 7 (.t 14) (.t 15)), oQ 17 (.ld 7 true (.t 16)), oQ 18 (.call F_fathomref06_Nest [(.t 17)]), oQ 5 (.mv (.t 18))])
  (.keep [1, 3, 4, 5])) 
 (.seqg (.reg [oQ 19 (.mv (.t 3)), oQ 20 (.mv (.t 5)), oQ 21 (.mm true (.t 19) [(.t 20)]), oQ 3 (.mv (.t 21))])
  (.keep [1, 3, 4])))) 
 (.seqg (.reg [oQ 11 (.mv (.t 4)), oQ 12 (.bin .add .num (.t 11) (.c (.int .i64 1))), oQ 4 (.mv (.t 12))])
  (.keep [1, 3, 4])))))))) (.seq (.seq 
 (.seqg (.reg [oQ 22 (.fa 0 (.t 1)), oQ 23 (.ld 1 false (.t 22)), oQ 24 (.bin .eql .num (.t 23) (.c (.int .i64 21))), oQ 25 (.mv (.t 24)), oFQ 26 25 (.fa 0 (.t 1)), oFQ 27 25 (.ld 1 false (.t 26)), oFQ 28 25 (.bin .eql .num (.t 27) (.c (.int .i64 22))), oQ 29 (.pick (.t 25) (.c (.bool true)) (.t 28)), oQ 30 (.mv (.t 29)), oFQ 31 30 (.fa 0 (.t 1)), oFQ 32 30 (.ld 1 false (.t 31)), oFQ 33 30 (.bin .eql .num (.t 32) (.c (.int .i64 20))), oQ 34 (.pick (.t 30) (.c (.bool true)) (.t 33))])
  (.keep [3, 34])) 
 (.cond (.t 34) 
 (.seqg (.reg [oQ 35 (.mv (.t 3)), oQ 36 (.bin .add .num (.t 35) (.c (.int .i64 1))), oQ 3 (.mv (.t 36))])
  (.keep [3])) .skip)) (.seq 
 (.seqg (.reg [oQ 37 (.mv (.t 3)), oQ 2 (.mv (.t 37))])
  (.keep [2])) .ret)))))
def r_fathomref06_Nest : List ARes := [.t 2]
theorem w_fathomref06_Nest : FnW Tryz.prog F_fathomref06_Nest c_fathomref06_Nest r_fathomref06_Nest 38 := ⟨Tryz.f62, (Tryz.f62).body.get rfl, by kernel_rfl, Tryz.func62, by kernel_rfl, by kernel_rfl, by kernel_rfl, by kernel_rfl⟩
def c_fathomref17_Sight_Expr : ACode := (.seq 
 (.seqg (.reg [oQ 4 (.box (.t 1)), oQ 6 (.mv (.c (.int .i64 0)))])
  (.keep [0, 2, 4])) (.seq (.seq 
 (.seqg (.reg [oQ 17 (.fa 0 (.t 4)), oQ 18 (.ld 1 false (.t 17))])
  (.keep [0, 2, 4, 18])) 
 (.block 0 (.seq (.seq 
 (.seqg (.reg [oQ 20 (.bin .eql .num (.t 18) (.c (.int .i64 1))), oQ 19 (.mv (.t 20))])
  (.keep [0, 2, 4, 18, 19])) 
 (.cond (.t 19) .skip (.seq 
 (.seqg (.reg [oQ 21 (.bin .eql .num (.t 18) (.c (.int .i64 2))), oQ 19 (.mv (.t 21))])
  (.keep [0, 2, 4, 18, 19])) 
 (.cond (.t 19) .skip 
 (.seqg (.reg [oQ 22 (.bin .eql .num (.t 18) (.c (.int .i64 3))), oQ 19 (.mv (.t 22))])
  (.keep [0, 2, 4, 18, 19])))))) 
 (.cond (.t 19) (.seq 
 (.seqg (.reg [oQ 6 (.mv (.c (.int .i64 1)))])
  (.keep [6])) .ret) (.seq 
 (.seqg (.reg [oQ 24 (.bin .eql .num (.t 18) (.c (.int .i64 4))), oQ 23 (.mv (.t 24))])
  (.keep [0, 2, 4, 18, 23])) 
 (.cond (.t 23) (.seq 
 (.seqg (.reg [oQ 6 (.mv (.c (.int .i64 3)))])
  (.keep [6])) .ret) (.seq 
 (.seqg (.reg [oQ 26 (.bin .eql .num (.t 18) (.c (.int .i64 5))), oQ 25 (.mv (.t 26))])
  (.keep [0, 2, 4, 18, 25])) 
 (.cond (.t 25) (.seq 
 (.seqg (.reg [oQ 6 (.mv (.c (.int .i64 0)))])
  (.keep [6])) .ret) (.seq 
 (.seqg (.reg [oQ 28 (.bin .eql .num (.t 18) (.c (.int .i64 6))), oQ 27 (.mv (.t 28))])
  (.keep [0, 2, 4, 18, 27])) 
 (.cond (.t 27) (.seq 
 (.seqg (.reg [oQ 7 (.mv (.c (.int .i64 0)))])
  (.keep [2, 4, 7])) (.seq (.seq 
 (.seqg (.reg [oQ 8 (.mv (.c (.int .i64 0)))])
  (.keep [2, 4, 7, 8])) 
 (.block 1 
 (.gseq (.keep [2, 4, 7, 8]) (.loop (.seq (.seq 
 (.seqg (.reg [oQ 29 (.mv (.t 8)), oQ 30 (.mv (.t 2)), oQ 31 (.len (.t 30)), oQ 32 (.bin .lss .num (.t 29) (.t 31))])
  (.keep [2, 4, 7, 8, 32])) 
 (.cond (.t 32) .skip (.exit 1))) (.seq 
 (.block 2 (.seq 
 (.seqg (.drw [oQ 35 (.mv (.t 2)), oQ 36 (.mv (.t 8)), oQ 37 (.ix 2 (.t 35) (.t 36)), oQ 38 (.fa 0 (.t 37)), oQ 39 (.ld 1 false (.t 38)), oQ 40 (.fa 1 (.t 4)), oQ 41 (.ld 1 false (.t 40)), oQ 42 (.bin .eql .other (.t 39) (.t 41))])
  (.keep [2, 4, 7, 8, 42])) 
 (.cond (.t 42) 
 (.seqg (.reg [oQ 43 (.mv (.t 2)), oQ 44 (.mv (.t 8)), oQ 45 (.ix 2 (.t 43) (.t 44)), oQ 46 (.fa 1 (.t 45)), oQ 47 (.ld 1 false (.t 46)), oQ 7 (.mv (.t 47))])
  (.keep [2, 4, 7, 8])) .skip))) 
 (.seqg (.reg [oQ 33 (.mv (.t 8)), oQ 34 (.bin .add .num (.t 33) (.c (.int .i64 1))), oQ 8 (.mv (.t 34))])
  (.keep [2, 4, 7, 8])))))))) (.seq 
 (.seqg (.reg [oQ 48 (.mv (.t 7)), oQ 6 (.mv (.t 48))])
  (.keep [6])) .ret))) (.seq 
 (.seqg (.reg [oQ 50 (.bin .eql .num (.t 18) (.c (.int .i64 19))), oQ 49 (.mv (.t 50))])
  (.keep [0, 2, 4, 18, 49])) 
 (.cond (.t 49) (.seq (.seq 
 (.seqg (.reg [oQ 51 (.mv (.t 0)), oQ 52 (.fa 5 (.t 4)), oQ 53 (.ld 1 false (.t 52)), oQ 54 (.ix 7 (.t 53) (.c (.int .i64 0))), oQ 55 (.ld 7 true (.t 54)), oQ 56 (.mv (.t 2)), oE 57 (.call (.c (.fn F_fathomref17_Sight_Expr [])) [(.t 51), (.t 55), (.t 56)]), oQ 58 (.bin .eql .num (.t 57) (.c (.int .i64 0)))])
  (.keep [0, 2, 4, 58])) 
 (.cond (.t 58) (.seq 
 (.seqg (.reg [oQ 6 (.mv (.c (.int .i64 0)))])
  (.keep [6])) .ret) .skip)) (.seq 
 (.seqg (.reg [oQ 59 (.mv (.t 0)), oQ 60 (.fa 5 (.t 4)), oQ 61 (.ld 1 false (.t 60)), oQ 62 (.ix 7 (.t 61) (.c (.int .i64 1))), oQ 63 (.ld 7 true (.t 62)), oQ 64 (.mv (.t 2)), oE 65 (.call (.c (.fn F_fathomref17_Sight_Expr [])) [(.t 59), (.t 63), (.t 64)]), oQ 9 (.mv (.t 65))])
  (.keep [0, 2, 4, 9])) (.seq 
 (.seqg (.reg [oQ 66 (.mv (.t 0)), oQ 67 (.fa 5 (.t 4)), oQ 68 (.ld 1 false (.t 67)), oQ 69 (.ix 7 (.t 68) (.c (.int .i64 2))), oQ 70 (.ld 7 true (.t 69)), oQ 71 (.mv (.t 2)), oE 72 (.call (.c (.fn F_fathomref17_Sight_Expr [])) [(.t 66), (.t 70), (.t 71)]), oQ 10 (.mv (.t 72))])
  (.keep [9, 10])) (.seq 
 (.seqg (.reg [oQ 73 (.mv (.t 9)), oQ 74 (.mv (.t 10)), oQ 75 (.mm true (.t 73) [(.t 74)]), oQ 6 (.mv (.t 75))])
  (.keep [6])) .ret)))) (.seq 
 (.seqg (.reg [oQ 77 (.bin .eql .num (.t 18) (.c (.int .i64 20))), oQ 76 (.mv (.t 77))])
  (.keep [0, 2, 4, 18, 76])) 
 (.cond (.t 76) (.seq 
 (.seqg (.reg [oQ 78 (.mv (.t 0)), oQ 79 (.ld 7 true (.t 4)), oQ 80 (.mv (.t 2)), oE 81 (.call (.c (.fn F_fathomref17_Sight_cases [])) [(.t 78), (.t 79), (.t 80)]), oQ 6 (.mv (.t 81))])
  (.keep [6])) .ret) (.seq 
 (.seqg (.reg [oQ 83 (.bin .eql .num (.t 18) (.c (.int .i64 21))), oQ 82 (.mv (.t 83))])
  (.keep [0, 2, 4, 18, 82])) 
 (.cond (.t 82) (.seq 
 (.seqg (.reg [oQ 11 (.mv (.c (.int .i64 0)))])
  (.keep [0, 2, 4, 11])) 
 (.block 3 
 (.gseq (.keep [0, 2, 4, 11]) (.loop 
 (.block 4 (.seq 
 (.seqg (.drw [oQ 84 (.mv (.t 0)), oQ 85 (.fa 5 (.t 4)), oQ 86 (.ld 1 false (.t 85)), oQ 87 (.ix 7 (.t 86) (.c (.int .i64 0))), oQ 88 (.ld 7 true (.t 87)), oQ 89 (.mv (.t 2)), oQ 90 (.fa 1 (.t 4)), oQ 91 (.ld 1 false (.t 90)), oQ 92 (.mv (.t 11)), oQ 93 (.call F_fathomref17_with [(.t 89), (.t 91), (.t 92)]), oE 94 (.call (.c (.fn F_fathomref17_Sight_Expr [])) [(.t 84), (.t 88), (.t 93)]), oQ 12 (.mv (.t 94))])
  (.keep [0, 2, 4, 11, 12])) (.seq (.seq 
 (.seqg (.reg [oQ 95 (.mv (.t 12)), oQ 96 (.mv (.t 11)), oQ 97 (.bin .leq .num (.t 95) (.t 96))])
  (.keep [0, 2, 4, 11, 12, 97])) 
 (.cond (.t 97) (.seq 
 (.seqg (.drw [oQ 98 (.mv (.t 0)), oQ 99 (.fa 5 (.t 4)), oQ 100 (.ld 1 false (.t 99)), oQ 101 (.ix 7 (.t 100) (.c (.int .i64 1))), oQ 102 (.ld 7 true (.t 101)), oQ 103 (.mv (.t 2)), oQ 104 (.fa 1 (.t 4)), oQ 105 (.ld 1 false (.t 104)), oQ 106 (.mv (.t 11)), oQ 107 (.call F_fathomref17_with [(.t 103), (.t 105), (.t 106)]), oE 108 (.call (.c (.fn F_fathomref17_Sight_Expr [])) [(.t 98), (.t 102), (.t 107)]), oQ 6 (.mv (.t 108))])
  (.keep [6])) .ret) .skip)) 
 (.seqg (.reg [oQ 109 (.mv (.t 12)), oQ 11 (.mv (.t 109))])
  (.keep [0, 2, 4, 11]))))))))) (.seq 
 (.seqg (.reg [oQ 111 (.bin .eql .num (.t 18) (.c (.int .i64 22))), oQ 110 (.mv (.t 111))])
  (.keep [0, 2, 4, 110])) 
 (.cond (.t 110) (.seq 
 (.seqg (.reg [oQ 112 (.mv (.t 0)), oQ 113 (.fa 5 (.t 4)), oQ 114 (.ld 1 false (.t 113)), oQ 115 (.ix 7 (.t 114) (.c (.int .i64 0))), oQ 116 (.ld 7 true (.t 115)), oQ 117 (.mv (.t 2)), oE 118 (.call (.c (.fn F_fathomref17_Sight_Expr [])) [(.t 112), (.t 116), (.t 117)]), oQ 13 (.mv (.t 118))])
  (.keep [0, 2, 4, 13])) (.seq (.seq 
 (.seqg (.reg [oQ 119 (.mv (.t 13)), oQ 120 (.bin .eql .num (.t 119) (.c (.int .i64 0)))])
  (.keep [0, 2, 4, 13, 120])) 
 (.cond (.t 120) (.seq 
 (.seqg (.reg [oQ 6 (.mv (.c (.int .i64 0)))])
  (.keep [6])) .ret) .skip)) (.seq 
 (.seqg (.drw [oQ 121 (.mv (.t 0)), oQ 122 (.fa 5 (.t 4)), oQ 123 (.ld 1 false (.t 122)), oQ 124 (.ix 7 (.t 123) (.c (.int .i64 1))), oQ 125 (.ld 7 true (.t 124)), oQ 126 (.mv (.t 2)), oQ 127 (.fa 1 (.t 4)), oQ 128 (.ld 1 false (.t 127)), oQ 129 (.mv (.t 13)), oQ 130 (.call F_fathomref17_with [(.t 126), (.t 128), (.t 129)]), oE 131 (.call (.c (.fn F_fathomref17_Sight_Expr [])) [(.t 121), (.t 125), (.t 130)]), oQ 6 (.mv (.t 131))])
  (.keep [6])) .ret))) .skip)))))))))))))))))) (.seq 
 (.seqg (.seqg (.reg [oQ 14 (.mv (.c (.sl .full 1 [])))])
  (.keep [0, 2, 4, 14]))
  (.mint 14)) (.seq (.seq 
 (.seqg (.reg [oQ 15 (.mv (.c (.int .i64 0)))])
  (.keep [0, 2, 4, 14, 15])) 
 (.block 5 
 (.gseq (.keep [0, 2, 4, 14, 15]) (.loop (.seq (.seq 
 (.seqg (.reg [oQ 132 (.mv (.t 15)), oQ 133 (.fa 5 (.t 4)), oQ 134 (.ld 1 false (.t 133)), oQ 135 (.len (.t 134)), oQ 136 (.bin .lss .num (.t 132) (.t 135))])
  (.keep [0, 2, 4, 14, 15, 136])) 
 (.cond (.t 136) .skip (.exit 5))) (.seq 
 (.block 6 (.seq 
 (.seqg (.reg [oQ 139 (.mv (.t 0)), oQ 140 (.fa 5 (.t 4)), oQ 141 (.ld 1 false (.t 140)), oQ 142 (.mv (.t 15)), oQ 143 (.ix 7 (.t 141) (.t 142)), oQ 144 (.ld 7 true (.t 143)), oQ 145 (.mv (.t 2)), oE 146 (.call (.c (.fn F_fathomref17_Sight_Expr [])) [(.t 139), (.t 144), (.t 145)]), oQ 16 (.mv (.t 146))])
  (.keep [0, 2, 4, 14, 15, 16])) 
 (.seqg (.reg [oQ 147 (.mv (.t 14)), oQ 148 (.mv (.t 16)), oQ 149 (.bsl 1 [(.t 148)]), oE 150 (.app 1 8 (.t 147) (.t 149)), oQ 14 (.mv (.t 150))])
  (.keep [0, 2, 4, 14, 15])))) 
 (.seqg (.reg [oQ 137 (.mv (.t 15)), oQ 138 (.bin .add .num (.t 137) (.c (.int .i64 1))), oQ 15 (.mv (.t 138))])
  (.keep [0, 2, 4, 14, 15])))))))) (.seq 
 (.seqg (.reg [oQ 151 (.mv (.t 0)), oQ 152 (.ld 7 true (.t 4)), oQ 153 (.mv (.t 14)), oE 154 (.call (.c (.fn F_fathomref17_Sight_parts [])) [(.t 151), (.t 152), (.t 153)]), oQ 6 (.mv (.t 154))])
  (.keep [6])) .ret)))))
def r_fathomref17_Sight_Expr : List ARes := [.t 6]
theorem w_fathomref17_Sight_Expr : FnW Tryz.prog F_fathomref17_Sight_Expr c_fathomref17_Sight_Expr r_fathomref17_Sight_Expr 155 := ⟨Tryz.f63, (Tryz.f63).body.get rfl, by kernel_rfl, Tryz.func63, by kernel_rfl, by kernel_rfl, by kernel_rfl, by kernel_rfl⟩
def c_fathomref02_Cells : ACode := (.seq 
 (.seqg (.reg [oQ 1 (.box (.t 0)), oQ 2 (.mv (.c (.sl .full 1 []))), oQ 3 (.mv (.c (.bool false)))])
  (.keep [1])) (.seq (.seq 
 (.seqg (.reg [oQ 7 (.fa 0 (.t 1)), oQ 8 (.ld 1 false (.t 7)), oQ 9 (.bin .lss .num (.t 8) (.c (.int .i64 0))), oQ 10 (.mv (.t 9)), oFQ 11 10 (.fa 0 (.t 1)), oFQ 12 10 (.ld 1 false (.t 11)), oFQ 13 10 (.bin .gtr .num (.t 12) (.c (.int .i64 4096))), oQ 14 (.pick (.t 10) (.c (.bool true)) (.t 13)), oQ 15 (.mv (.t 14)), oFQ 16 15 (.fa 1 (.t 1)), oFQ 17 15 (.ld 1 false (.t 16)), oFQ 18 15 (.len (.t 17)), oFQ 19 15 (.fa 0 (.t 1)), oFQ 20 15 (.ld 1 false (.t 19)), oFQ 21 15 (.bin .add .num (.t 20) (.c (.int .i64 31))), oFQ 22 15 (.bin .quo .num (.t 21) (.c (.int .i64 32))), oFQ 23 15 (.bin .neq .num (.t 18) (.t 22)), oQ 24 (.pick (.t 15) (.c (.bool true)) (.t 23))])
  (.keep [1, 24])) 
 (.cond (.t 24) (.seq 
 (.seqg (.reg [oQ 2 (.mv (.c (.sl .full 1 []))), oQ 3 (.mv (.c (.bool false)))])
  (.keep [2, 3])) .ret) .skip)) (.seq 
 (.seqg (.seqg (.reg [oQ 4 (.mv (.c (.sl .full 1 [])))])
  (.keep [1, 4]))
  (.mintr 4 1)) (.seq (.seq 
 (.seqg (.reg [oQ 5 (.mv (.c (.int .i64 0)))])
  (.keep [1, 4, 5])) 
 (.block 0 
 (.gseq (.keep [1, 4, 5]) (.loop (.seq (.seq 
 (.seqg (.reg [oQ 25 (.mv (.t 5)), oQ 26 (.fa 1 (.t 1)), oQ 27 (.ld 1 false (.t 26)), oQ 28 (.len (.t 27)), oQ 29 (.bin .mul .num (.c (.int .i64 32)) (.t 28)), oQ 30 (.bin .lss .num (.t 25) (.t 29))])
  (.keep [1, 4, 5, 30])) 
 (.cond (.t 30) .skip (.exit 0))) (.seq 
 (.block 1 (.seq 
 (.seqg (.reg [oQ 33 (.fa 1 (.t 1)), oQ 34 (.ld 1 false (.t 33)), oQ 35 (.mv (.t 5)), oQ 36 (.bin .quo .num (.t 35) (.c (.int .i64 32))), oQ 37 (.ix 1 (.t 34) (.t 36)), oQ 38 (.ld 1 false (.t 37)), oQ 39 (.mv (.t 5)), oQ 40 (.bin .rem .num (.t 39) (.c (.int .i64 32))), oQ 41 (.bin .mul .num (.c (.int .i64 2)) (.t 40)), oQ 42 (.cvi .u64 (.t 41)), oQ 43 (.bin .shr .num (.t 38) (.t 42)), oQ 44 (.bin .and .num (.t 43) (.c (.int .u64 3))), oQ 45 (.cvi .i64 (.t 44)), oQ 6 (.mv (.t 45))])
  (.keep [1, 4, 5, 6])) (.seq 
 (.seqg (.reg [oQ 46 (.mv (.t 5)), oQ 47 (.fa 0 (.t 1)), oQ 48 (.ld 1 false (.t 47)), oQ 49 (.bin .lss .num (.t 46) (.t 48))])
  (.keep [1, 4, 5, 6, 49])) 
 (.cond (.t 49) 
 (.seqg (.reg [oQ 50 (.mv (.t 4)), oQ 51 (.mv (.t 6)), oQ 52 (.bsl 1 [(.t 51)]), oE 53 (.appr 1 8 (.t 50) (.t 52)), oQ 4 (.mv (.t 53))])
  (.keep [1, 4, 5])) (.seq 
 (.seqg (.reg [oQ 54 (.mv (.t 6)), oQ 55 (.bin .neq .num (.t 54) (.c (.int .i64 0)))])
  (.keep [1, 4, 5, 55])) 
 (.cond (.t 55) (.seq 
 (.seqg (.reg [oQ 2 (.mv (.c (.sl .full 1 []))), oQ 3 (.mv (.c (.bool false)))])
  (.keep [2, 3])) .ret) .skip)))))) 
 (.seqg (.reg [oQ 31 (.mv (.t 5)), oQ 32 (.bin .add .num (.t 31) (.c (.int .i64 1))), oQ 5 (.mv (.t 32))])
  (.keep [1, 4, 5])))))))) (.seq 
 (.seqg (.reg [oQ 56 (.mv (.t 4)), oQ 2 (.mv (.t 56)), oQ 3 (.mv (.c (.bool true)))])
  (.keep [2, 3])) .ret)))))
def r_fathomref02_Cells : List ARes := [.t 2, .t 3]
theorem w_fathomref02_Cells : FnW Tryz.prog F_fathomref02_Cells c_fathomref02_Cells r_fathomref02_Cells 57 := ⟨Tryz.f64, (Tryz.f64).body.get rfl, by kernel_rfl, Tryz.func64, by kernel_rfl, by kernel_rfl, by kernel_rfl, by kernel_rfl⟩
def c_fathomref17_Sight_body : ACode := (.seq 
 (.seqg (.reg [oQ 6 (.mv (.c (.int .i64 0)))])
  (.keep [0, 1, 2])) (.seq 
 (.seqg (.reg [oQ 10 (.mv (.t 0)), oQ 11 (.chk (.t 10)), oQ 12 (.fa 0 (.t 11)), oQ 13 (.fa 0 (.t 12)), oQ 14 (.ld 1 false (.t 13)), oQ 15 (.mv (.t 1)), oQ 16 (.ix 11 (.t 14) (.t 15)), oQ 17 (.ld 11 true (.t 16)), oE 7 (.alloc [.str ⟨#[]⟩, .sl .full 3 [], .int .i64 0, .int .i64 0, .str ⟨#[]⟩, .str ⟨#[]⟩, .int .i64 0, .cpx 0 0, .sl .full 7 [], .int .i64 0, .int .i64 0]), oN (.st 11 (.t 7) (.t 17))])
  (.keep [0, 2, 7])) (.seq 
 (.seqg (.seqg (.reg [oQ 8 (.mv (.c (.sl .full 2 [])))])
  (.keep [0, 2, 7, 8]))
  (.mint 8)) (.seq (.seq 
 (.seqg (.reg [oQ 9 (.mv (.c (.int .i64 0)))])
  (.keep [0, 2, 7, 8, 9])) 
 (.block 0 
 (.gseq (.keep [0, 2, 7, 8, 9]) (.loop (.seq (.seq 
 (.seqg (.reg [oQ 18 (.mv (.t 9)), oQ 19 (.mv (.t 2)), oQ 20 (.len (.t 19)), oQ 21 (.bin .lss .num (.t 18) (.t 20))])
  (.keep [0, 2, 7, 8, 9, 21])) 
 (.cond (.t 21) .skip (.exit 0))) (.seq 
 (.block 1 
 (.seqg (.drw [oQ 24 (.mv (.t 8)), oQ 25 (.fa 1 (.t 7)), oQ 26 (.ld 1 false (.t 25)), oQ 27 (.mv (.t 9)), oQ 28 (.ix 3 (.t 26) (.t 27)), oQ 29 (.fa 0 (.t 28)), oQ 30 (.ld 1 false (.t 29)), oQ 31 (.mv (.t 2)), oQ 32 (.mv (.t 9)), oQ 33 (.ix 1 (.t 31) (.t 32)), oQ 34 (.ld 1 false (.t 33)), oQ 35 (.bld [.str ⟨#[]⟩, .int .i64 0] [(0, 1, (.t 30)), (1, 1, (.t 34))]), oQ 36 (.bsl 2 [(.t 35)]), oE 37 (.app 2 24 (.t 24) (.t 36)), oQ 8 (.mv (.t 37))])
  (.keep [0, 2, 7, 8, 9]))) 
 (.seqg (.reg [oQ 22 (.mv (.t 9)), oQ 23 (.bin .add .num (.t 22) (.c (.int .i64 1))), oQ 9 (.mv (.t 23))])
  (.keep [0, 2, 7, 8, 9])))))))) (.seq 
 (.seqg (.reg [oQ 38 (.mv (.t 0)), oQ 39 (.fa 3 (.t 7)), oQ 40 (.ld 7 true (.t 39)), oQ 41 (.mv (.t 8)), oE 42 (.call (.c (.fn F_fathomref17_Sight_Expr [])) [(.t 38), (.t 40), (.t 41)]), oQ 6 (.mv (.t 42))])
  (.keep [6])) .ret)))))
def r_fathomref17_Sight_body : List ARes := [.t 6]
theorem w_fathomref17_Sight_body : FnW Tryz.prog F_fathomref17_Sight_body c_fathomref17_Sight_body r_fathomref17_Sight_body 43 := ⟨Tryz.f67, (Tryz.f67).body.get rfl, by kernel_rfl, Tryz.func67, by kernel_rfl, by kernel_rfl, by kernel_rfl, by kernel_rfl⟩
def c_fathomref03_Blank : ACode := (.seq 
 (.seqg (.reg [oQ 2 (.mv (.c (.bool false)))])
  (.keep [0])) (.seq 
 (.seqg (.reg [oQ 3 (.mv (.t 0)), oQ 4 (.bin .eql .num (.t 3) (.c (.int .u8 9))), oQ 5 (.mv (.t 4)), oFQ 6 5 (.mv (.t 0)), oFQ 7 5 (.bin .eql .num (.t 6) (.c (.int .u8 10))), oQ 8 (.pick (.t 5) (.c (.bool true)) (.t 7)), oQ 9 (.mv (.t 8)), oFQ 10 9 (.mv (.t 0)), oFQ 11 9 (.bin .eql .num (.t 10) (.c (.int .u8 13))), oQ 12 (.pick (.t 9) (.c (.bool true)) (.t 11)), oQ 13 (.mv (.t 12)), oFQ 14 13 (.mv (.t 0)), oFQ 15 13 (.bin .eql .num (.t 14) (.c (.int .u8 32))), oQ 16 (.pick (.t 13) (.c (.bool true)) (.t 15)), oQ 2 (.mv (.t 16))])
  (.keep [2])) .ret))
def r_fathomref03_Blank : List ARes := [.t 2]
theorem w_fathomref03_Blank : FnW Tryz.prog F_fathomref03_Blank c_fathomref03_Blank r_fathomref03_Blank 17 := ⟨Tryz.f68, (Tryz.f68).body.get rfl, by kernel_rfl, Tryz.func68, by kernel_rfl, by kernel_rfl, by kernel_rfl, by kernel_rfl⟩
def c_fathomref03_one : ACode := (.seq 
 (.seqg (.reg [oE 4 (.alloc [.int .i64 0, .str ⟨#[]⟩, .cpx 0 0, .int .i64 0]), oQ 5 (.mv (.c (.bool false)))])
  (.keep [0, 1, 4])) (.seq 
 (.seqg (.reg [oQ 10 (.mv (.t 0)), oQ 11 (.mv (.t 1)), oQ 12 (.call F_fathomref03_run [(.t 10), (.t 11)]), oQ 6 (.mv (.t 12))])
  (.keep [0, 1, 4, 6])) (.seq 
 (.seqg (.reg [oQ 13 (.mv (.t 0)), oQ 14 (.mv (.t 1)), oQ 15 (.mv (.t 1)), oQ 16 (.mv (.t 6)), oQ 17 (.bin .add .num (.t 15) (.t 16)), oQ 18 (.slc 1 (.t 13) (some (.t 14)) (some (.t 17)) none), oQ 19 (.b2s (.t 18)), oQ 20 (.mv (.t 1)), oQ 21 (.bld [.int .i64 0, .str ⟨#[]⟩, .cpx 0 0, .int .i64 0] [(1, 1, (.t 19)), (3, 1, (.t 20))]), oE 7 (.alloc [.int .i64 0, .str ⟨#[]⟩, .cpx 0 0, .int .i64 0]), oN (.st 4 (.t 7) (.t 21))])
  (.keep [0, 1, 4, 6, 7])) (.seq 
 (.block 0 (.seq 
 (.seqg (.reg [oQ 23 (.mv (.t 6)), oQ 24 (.bin .gtr .num (.t 23) (.c (.int .i64 0))), oQ 25 (.mv (.t 24)), oTQ 26 25 (.mv (.t 0)), oTQ 27 25 (.mv (.t 1)), oTQ 28 25 (.ix 1 (.t 26) (.t 27)), oTQ 29 25 (.ld 1 false (.t 28)), oTQ 30 25 (.call F_fathomref03_digit [(.t 29)]), oQ 31 (.pick (.t 25) (.t 30) (.c (.bool false))), oQ 22 (.mv (.t 31))])
  (.keep [0, 1, 4, 6, 7, 22])) 
 (.cond (.t 22) (.seq 
 (.seqg (.reg [oQ 33 (.fa 1 (.t 7)), oQ 34 (.ld 1 false (.t 33)), oQ 35 (.call F_fathomref01_Parse [(.t 34)]), oQ 32 (.mv (.t 35)), oQ 36 (.ext (.t 32) 0), oQ 37 (.ext (.t 32) 1), oE 8 (.alloc [.int .i64 0, .int .i64 0]), oN (.st 2 (.t 8) (.t 36)), oQ 9 (.mv (.t 37))])
  (.keep [4, 7, 8, 9])) (.seq 
 (.seqg (.reg [oQ 38 (.fa 0 (.t 7)), oN (.st 1 (.t 38) (.c (.int .i64 2)))])
  (.keep [4, 7, 8, 9])) (.seq 
 (.seqg (.reg [oQ 39 (.ld 2 true (.t 8)), oQ 40 (.call F_fathomref01_Num_Z [(.t 39)]), oQ 41 (.fa 2 (.t 7)), oN (.st 1 (.t 41) (.t 40))])
  (.keep [4, 7, 9])) (.seq 
 (.seqg (.reg [oQ 42 (.ld 4 true (.t 7)), oQ 43 (.mv (.t 9)), oQ 44 (.bin .eql .num (.t 43) (.c (.int .i64 0))), oN (.st 4 (.t 4) (.t 42)), oQ 5 (.mv (.t 44))])
  (.keep [4, 5])) .ret)))) (.seq 
 (.seqg (.reg [oQ 46 (.mv (.t 6)), oQ 47 (.bin .gtr .num (.t 46) (.c (.int .i64 0))), oQ 48 (.mv (.t 47)), oTQ 49 48 (.mv (.t 0)), oTQ 50 48 (.mv (.t 1)), oTQ 51 48 (.ix 1 (.t 49) (.t 50)), oTQ 52 48 (.ld 1 false (.t 51)), oTQ 53 48 (.bin .eql .num (.t 52) (.c (.int .u8 95))), oQ 54 (.pick (.t 48) (.t 53) (.c (.bool false))), oQ 45 (.mv (.t 54))])
  (.keep [0, 1, 4, 6, 7, 45])) 
 (.cond (.t 45) (.seq 
 (.seqg (.reg [oQ 55 (.ld 4 true (.t 7)), oN (.st 4 (.t 4) (.t 55)), oQ 5 (.mv (.c (.bool false)))])
  (.keep [4, 5])) .ret) (.seq 
 (.seqg (.reg [oQ 57 (.mv (.t 6)), oQ 58 (.bin .gtr .num (.t 57) (.c (.int .i64 0))), oQ 56 (.mv (.t 58))])
  (.keep [0, 1, 4, 7, 56])) 
 (.cond (.t 56) (.seq (.seq 
 (.seqg (.reg [oQ 59 (.fa 1 (.t 7)), oQ 60 (.ld 1 false (.t 59)), oQ 61 (.call F_fathomref03_Reserved [(.t 60)])])
  (.keep [4, 7, 61])) 
 (.cond (.t 61) 
 (.seqg (.reg [oQ 62 (.fa 0 (.t 7)), oN (.st 1 (.t 62) (.c (.int .i64 1)))])
  (.keep [4, 7])) .skip)) (.seq 
 (.seqg (.reg [oQ 63 (.ld 4 true (.t 7)), oN (.st 4 (.t 4) (.t 63)), oQ 5 (.mv (.c (.bool true)))])
  (.keep [4, 5])) .ret)) .skip))))))) (.seq 
 (.seqg (.reg [oQ 64 (.mv (.t 0)), oQ 65 (.mv (.t 1)), oQ 66 (.call F_fathomref03_sign [(.t 64), (.t 65)]), oQ 6 (.mv (.t 66))])
  (.keep [0, 1, 4, 6, 7])) (.seq 
 (.seqg (.reg [oQ 67 (.fa 0 (.t 7)), oN (.st 1 (.t 67) (.c (.int .i64 3)))])
  (.keep [0, 1, 4, 6, 7])) (.seq 
 (.seqg (.reg [oQ 68 (.mv (.t 0)), oQ 69 (.mv (.t 1)), oQ 70 (.mv (.t 1)), oQ 71 (.mv (.t 6)), oQ 72 (.bin .add .num (.t 70) (.t 71)), oQ 73 (.slc 1 (.t 68) (some (.t 69)) (some (.t 72)) none), oQ 74 (.b2s (.t 73)), oQ 75 (.fa 1 (.t 7)), oN (.st 1 (.t 75) (.t 74))])
  (.keep [4, 6, 7])) (.seq 
 (.seqg (.reg [oQ 76 (.ld 4 true (.t 7)), oQ 77 (.mv (.t 6)), oQ 78 (.bin .gtr .num (.t 77) (.c (.int .i64 0))), oN (.st 4 (.t 4) (.t 76)), oQ 5 (.mv (.t 78))])
  (.keep [4, 5])) .ret))))))))
def r_fathomref03_one : List ARes := [.c 4 4 true, .t 5]
theorem w_fathomref03_one : FnW Tryz.prog F_fathomref03_one c_fathomref03_one r_fathomref03_one 79 := ⟨Tryz.f69, (Tryz.f69).body.get rfl, by kernel_rfl, Tryz.func69, by kernel_rfl, by kernel_rfl, by kernel_rfl, by kernel_rfl⟩
def c_fathomref04_reader_next : ACode := (.seq 
 (.seqg (.reg [oE 2 (.alloc [.int .i64 0, .str ⟨#[]⟩, .cpx 0 0, .int .i64 0])])
  (.keep [0, 2])) (.seq 
 (.seqg (.drw [oQ 3 (.mv (.t 0)), oQ 4 (.chk (.t 3)), oQ 5 (.fa 0 (.t 4)), oQ 6 (.ld 1 false (.t 5)), oQ 7 (.mv (.t 0)), oQ 8 (.chk (.t 7)), oQ 9 (.fa 1 (.t 8)), oQ 10 (.ld 1 false (.t 9)), oQ 11 (.ix 4 (.t 6) (.t 10)), oQ 12 (.ld 4 true (.t 11)), oN (.st 4 (.t 2) (.t 12))])
  (.keep [2])) .ret))
def r_fathomref04_reader_next : List ARes := [.c 2 4 true]
theorem w_fathomref04_reader_next : FnW Tryz.prog F_fathomref04_reader_next c_fathomref04_reader_next r_fathomref04_reader_next 13 := ⟨Tryz.f70, (Tryz.f70).body.get rfl, by kernel_rfl, Tryz.func70, by kernel_rfl, by kernel_rfl, by kernel_rfl, by kernel_rfl⟩
def c_fathomref04_reader_def : ACode := (.seq 
 (.seqg (.reg [oE 4 (.alloc [.str ⟨#[]⟩, .sl .full 3 [], .int .i64 0, .int .i64 0, .str ⟨#[]⟩, .str ⟨#[]⟩, .int .i64 0, .cpx 0 0, .sl .full 7 [], .int .i64 0, .int .i64 0])])
  (.keep [0, 1, 4])) (.seq (.seq 
 (.seqg (.reg [oQ 9 (.mv (.t 0)), oE 10 (.call (.c (.fn F_fathomref04_reader_next [])) [(.t 9)]), oQ 11 (.fld 0 1 false (.t 10)), oQ 12 (.bin .eql .num (.t 11) (.c (.int .i64 0))), oQ 13 (.mv (.t 12)), oTQ 14 13 (.mv (.t 1)), oTQ 15 13 (.mv (.t 0)), oTQ 16 13 (.chk (.t 15)), oTQ 17 13 (.fa 4 (.t 16)), oTQ 18 13 (.fa 1 (.t 17)), oTQ 19 13 (.ld 1 false (.t 18)), oTQ 20 13 (.bin .geq .num (.t 14) (.t 19)), oQ 21 (.pick (.t 13) (.t 20) (.c (.bool false)))])
  (.keep [0, 4, 21])) 
 (.cond (.t 21) 
 (.seqg (.reg [oQ 22 (.mv (.t 0)), oE 23 (.call (.c (.fn F_fathomref04_reader_fail [])) [(.t 22), (.c (.int .i64 22))])])
  (.keep [0, 4])) .skip)) (.seq 
 (.seqg (.reg [oQ 24 (.mv (.t 0)), oE 25 (.call (.c (.fn F_fathomref04_reader_name [])) [(.t 24)]), oE 5 (.alloc [.int .i64 0, .str ⟨#[]⟩, .cpx 0 0, .int .i64 0]), oN (.st 4 (.t 5) (.t 25))])
  (.keep [0, 4, 5])) (.seq 
 (.seqg (.reg [oQ 26 (.fa 1 (.t 5)), oQ 27 (.ld 1 false (.t 26)), oQ 28 (.fa 3 (.t 5)), oQ 29 (.ld 1 false (.t 28)), oQ 30 (.bld [.str ⟨#[]⟩, .sl .full 3 [], .int .i64 0, .int .i64 0, .str ⟨#[]⟩, .str ⟨#[]⟩, .int .i64 0, .cpx 0 0, .sl .full 7 [], .int .i64 0, .int .i64 0] [(0, 1, (.t 27)), (10, 1, (.t 29))]), oE 6 (.alloc [.str ⟨#[]⟩, .sl .full 3 [], .int .i64 0, .int .i64 0, .str ⟨#[]⟩, .str ⟨#[]⟩, .int .i64 0, .cpx 0 0, .sl .full 7 [], .int .i64 0, .int .i64 0]), oN (.st 11 (.t 6) (.t 30))])
  (.keep [0, 4, 6])) (.seq 
 (.seqg (.reg [oQ 31 (.mv (.t 0)), oE 32 (.call (.c (.fn F_fathomref04_reader_want [])) [(.t 31), (.c (.str ⟨#[40]⟩))])])
  (.keep [0, 4, 6])) (.seq 
 (.block 0 
 (.gseq (.keep [0, 4, 6]) (.loop (.seq (.seq 
 (.seqg (.reg [oQ 33 (.mv (.t 0)), oQ 34 (.chk (.t 33)), oQ 35 (.fa 2 (.t 34)), oQ 36 (.ld 1 false (.t 35)), oQ 37 (.bin .eql .num (.t 36) (.c (.int .i64 0))), oQ 38 (.mv (.t 37)), oTQ 39 38 (.mv (.t 0)), oTE 40 38 (.call (.c (.fn F_fathomref04_reader_is [])) [(.t 39), (.c (.str ⟨#[41]⟩))]), oTQ 41 38 (.not (.t 40)), oQ 42 (.pick (.t 38) (.t 41) (.c (.bool false)))])
  (.keep [0, 4, 6, 42])) 
 (.cond (.t 42) .skip (.exit 0))) 
 (.block 1 (.seq (.seq 
 (.seqg (.reg [oQ 43 (.fa 1 (.t 6)), oQ 44 (.ld 1 false (.t 43)), oQ 45 (.len (.t 44)), oQ 46 (.bin .gtr .num (.t 45) (.c (.int .i64 0)))])
  (.keep [0, 4, 6, 46])) 
 (.cond (.t 46) 
 (.seqg (.reg [oQ 47 (.mv (.t 0)), oE 48 (.call (.c (.fn F_fathomref04_reader_want [])) [(.t 47), (.c (.str ⟨#[44]⟩))])])
  (.keep [0, 4, 6])) .skip)) (.seq (.seq 
 (.seqg (.drw [oQ 49 (.mv (.t 0)), oQ 50 (.chk (.t 49)), oQ 51 (.fa 2 (.t 50)), oQ 52 (.ld 1 false (.t 51)), oQ 53 (.bin .eql .num (.t 52) (.c (.int .i64 0))), oQ 54 (.mv (.t 53)), oTQ 55 54 (.mv (.t 0)), oTE 56 54 (.call (.c (.fn F_fathomref04_reader_next [])) [(.t 55)]), oTQ 57 54 (.fld 0 1 false (.t 56)), oTQ 58 54 (.bin .eql .num (.t 57) (.c (.int .i64 0))), oQ 59 (.pick (.t 54) (.t 58) (.c (.bool false))), oQ 60 (.mv (.t 59)), oTQ 61 60 (.fa 1 (.t 6)), oTQ 62 60 (.ld 1 false (.t 61)), oTQ 63 60 (.len (.t 62)), oTQ 64 60 (.mv (.t 0)), oTQ 65 60 (.chk (.t 64)), oTQ 66 60 (.fa 4 (.t 65)), oTQ 67 60 (.fa 2 (.t 66)), oTQ 68 60 (.ld 1 false (.t 67)), oTQ 69 60 (.bin .geq .num (.t 63) (.t 68)), oQ 70 (.pick (.t 60) (.t 69) (.c (.bool false)))])
  (.keep [0, 4, 6, 70])) 
 (.cond (.t 70) 
 (.seqg (.reg [oQ 71 (.mv (.t 0)), oE 72 (.call (.c (.fn F_fathomref04_reader_fail [])) [(.t 71), (.c (.int .i64 22))])])
  (.keep [0, 4, 6])) .skip)) (.seq 
 (.seqg (.reg [oQ 73 (.mv (.t 0)), oE 74 (.call (.c (.fn F_fathomref04_reader_name [])) [(.t 73)]), oE 7 (.alloc [.int .i64 0, .str ⟨#[]⟩, .cpx 0 0, .int .i64 0]), oN (.st 4 (.t 7) (.t 74))])
  (.keep [0, 4, 6, 7])) (.seq 
 (.seqg (.reg [oQ 75 (.mv (.t 0)), oE 76 (.call (.c (.fn F_fathomref04_reader_typ [])) [(.t 75)]), oQ 8 (.mv (.t 76))])
  (.keep [0, 4, 6, 7, 8])) 
 (.seqg (.reg [oQ 77 (.fa 1 (.t 6)), oQ 78 (.ld 1 false (.t 77)), oQ 79 (.fa 1 (.t 7)), oQ 80 (.ld 1 false (.t 79)), oQ 81 (.mv (.t 8)), oQ 82 (.fa 3 (.t 7)), oQ 83 (.ld 1 false (.t 82)), oQ 84 (.bld [.str ⟨#[]⟩, .int .i64 0, .int .i64 0] [(0, 1, (.t 80)), (1, 1, (.t 81)), (2, 1, (.t 83))]), oQ 85 (.bsl 3 [(.t 84)]), oE 86 (.app 3 32 (.t 78) (.t 85)), oQ 87 (.fa 1 (.t 6)), oN (.st 1 (.t 87) (.t 86))])
  (.keep [0, 4, 6]))))))))))) (.seq 
 (.seqg (.reg [oQ 88 (.mv (.t 0)), oE 89 (.call (.c (.fn F_fathomref04_reader_want [])) [(.t 88), (.c (.str ⟨#[41]⟩))])])
  (.keep [0, 4, 6])) (.seq 
 (.seqg (.reg [oQ 90 (.mv (.t 0)), oE 91 (.call (.c (.fn F_fathomref04_reader_want [])) [(.t 90), (.c (.str ⟨#[58]⟩))])])
  (.keep [0, 4, 6])) (.seq 
 (.seqg (.reg [oQ 92 (.mv (.t 0)), oE 93 (.call (.c (.fn F_fathomref04_reader_typ [])) [(.t 92)]), oQ 94 (.fa 2 (.t 6)), oN (.st 1 (.t 94) (.t 93))])
  (.keep [0, 4, 6])) (.seq 
 (.seqg (.reg [oQ 95 (.mv (.t 0)), oE 96 (.call (.c (.fn F_fathomref04_reader_want [])) [(.t 95), (.c (.str ⟨#[61]⟩))])])
  (.keep [0, 4, 6])) (.seq 
 (.seqg (.reg [oQ 97 (.mv (.t 0)), oE 98 (.call (.c (.fn F_fathomref04_reader_expr [])) [(.t 97)]), oQ 99 (.fa 3 (.t 6)), oN (.st 7 (.t 99) (.t 98))])
  (.keep [0, 4, 6])) (.seq 
 (.seqg (.reg [oQ 100 (.mv (.t 0)), oE 101 (.call (.c (.fn F_fathomref04_reader_want [])) [(.t 100), (.c (.str ⟨#[59]⟩))])])
  (.keep [4, 6])) (.seq 
 (.seqg (.reg [oQ 102 (.ld 11 true (.t 6)), oN (.st 11 (.t 4) (.t 102))])
  (.keep [4])) .ret)))))))))))))
def r_fathomref04_reader_def : List ARes := [.c 4 11 true]
theorem w_fathomref04_reader_def : FnW Tryz.prog F_fathomref04_reader_def c_fathomref04_reader_def r_fathomref04_reader_def 103 := ⟨Tryz.f71, (Tryz.f71).body.get rfl, by kernel_rfl, Tryz.func71, by kernel_rfl, by kernel_rfl, by kernel_rfl, by kernel_rfl⟩
def c_scope_Check : ACode := (.seq 
 (.seqg (.reg [oE 1 (.boxO (.t 0)), oE 2 (.alloc [.int .i64 0, .int .i64 0])])
  (.keep [1, 2])) (.seq 
 (.seqg (.reg [oE 3 (.alloc [.int .i64 0, .int .i64 0])])
  (.keep [1, 2, 3])) (.seq 
 (.seqg (.reg [oQ 13 (.mkf F_scope_Check_1 [(.t 3)]), oE 4 (.alloc [.nilf]), oN (.st 1 (.t 4) (.t 13))])
  (.keep [1, 2, 3, 4])) (.seq 
 (.seqg (.reg [oE 14 .mkm, oE 5 (.alloc [.nilm]), oN (.st 1 (.t 5) (.t 14))])
  (.keep [1, 2, 3, 4, 5])) (.seq (.seq 
 (.seqg (.reg [oQ 15 (.fa 0 (.t 1)), oQ 16 (.ld 1 false (.t 15)), oQ 17 (.len (.t 16)), oQ 18 (.mv (.c (.int .i64 0)))])
  (.keep [1, 2, 3, 4, 5, 16, 17, 18])) 
 (.block 0 
 (.gseq (.keep [1, 2, 3, 4, 5, 16, 17, 18]) (.loop (.seq 
 (.seqg (.reg [oQ 19 (.bin .lss .num (.t 18) (.t 17))])
  (.keep [1, 2, 3, 4, 5, 16, 17, 18, 19])) (.seq 
 (.cond (.t 19) .skip (.exit 0)) (.seq 
 (.block 1 (.seq 
 (.seqg (.reg [oQ 20 (.mv (.t 18)), oQ 21 (.ix 11 (.t 16) (.t 18)), oQ 22 (.ld 11 true (.t 21)), oE 7 (.alloc [.str ⟨#[]⟩, .sl .full 3 [], .int .i64 0, .int .i64 0, .str ⟨#[]⟩, .str ⟨#[]⟩, .int .i64 0, .cpx 0 0, .sl .full 7 [], .int .i64 0, .int .i64 0]), oQ 6 (.mv (.t 20)), oN (.st 11 (.t 7) (.t 22))])
  (.keep [1, 2, 3, 4, 5, 6, 7, 16, 17, 18])) (.seq 
 (.seqg (.reg [oQ 23 (.ld 1 false (.t 5)), oQ 24 (.fa 0 (.t 7)), oQ 25 (.ld 1 false (.t 24)), oQ 26 (.lk (.t 23) (.t 25)), oQ 27 (.bin .gtr .num (.t 26) (.c (.int .i64 0)))])
  (.keep [1, 2, 3, 4, 5, 6, 7, 16, 17, 18, 27])) 
 (.cond (.t 27) 
 (.seqg (.reg [oQ 28 (.ld 1 false (.t 4)), oQ 29 (.fa 10 (.t 7)), oQ 30 (.ld 1 false (.t 29)), oE 31 (.call (.t 28) [(.c (.int .i64 30)), (.t 30)])])
  (.keep [1, 2, 3, 4, 5, 16, 17, 18])) 
 (.seqg (.reg [oQ 32 (.ld 1 false (.t 5)), oQ 33 (.fa 0 (.t 7)), oQ 34 (.ld 1 false (.t 33)), oQ 35 (.mv (.t 6)), oQ 36 (.bin .add .num (.t 35) (.c (.int .i64 1))), oN (.updm (.t 32) (.t 34) (.t 36))])
  (.keep [1, 2, 3, 4, 5, 16, 17, 18])))))) 
 (.seqg (.reg [oQ 37 (.bin .add .num (.t 18) (.c (.int .i64 1))), oQ 18 (.mv (.t 37))])
  (.keep [1, 2, 3, 4, 5, 16, 17, 18]))))))))) (.seq (.seq 
 (.seqg (.reg [oQ 38 (.fa 0 (.t 1)), oQ 39 (.ld 1 false (.t 38)), oQ 40 (.len (.t 39)), oQ 41 (.mv (.c (.int .i64 0)))])
  (.keep [1, 2, 3, 4, 5, 39, 40, 41])) 
 (.block 2 
 (.gseq (.keep [1, 2, 3, 4, 5, 39, 40, 41]) (.loop (.seq 
 (.seqg (.reg [oQ 42 (.bin .lss .num (.t 41) (.t 40))])
  (.keep [1, 2, 3, 4, 5, 39, 40, 41, 42])) (.seq 
 (.cond (.t 42) .skip (.exit 2)) (.seq 
 (.block 3 (.seq 
 (.seqg (.reg [oQ 43 (.ix 11 (.t 39) (.t 41)), oQ 44 (.ld 11 true (.t 43)), oE 9 (.alloc [.str ⟨#[]⟩, .sl .full 3 [], .int .i64 0, .int .i64 0, .str ⟨#[]⟩, .str ⟨#[]⟩, .int .i64 0, .cpx 0 0, .sl .full 7 [], .int .i64 0, .int .i64 0]), oN (.st 11 (.t 9) (.t 44))])
  (.keep [1, 2, 3, 4, 5, 9, 39, 40, 41])) (.seq 
 (.seqg (.reg [oE 45 .mkm, oQ 10 (.mv (.t 45))])
  (.keep [1, 2, 3, 4, 5, 9, 10, 39, 40, 41])) (.seq (.seq 
 (.seqg (.reg [oQ 46 (.fa 1 (.t 9)), oQ 47 (.ld 1 false (.t 46)), oQ 48 (.len (.t 47)), oQ 49 (.mv (.c (.int .i64 0)))])
  (.keep [1, 2, 3, 4, 5, 9, 10, 39, 40, 41, 47, 48, 49])) 
 (.block 4 
 (.gseq (.keep [1, 2, 3, 4, 5, 9, 10, 39, 40, 41, 47, 48, 49]) (.loop (.seq 
 (.seqg (.reg [oQ 50 (.bin .lss .num (.t 49) (.t 48))])
  (.keep [1, 2, 3, 4, 5, 9, 10, 39, 40, 41, 47, 48, 49, 50])) (.seq 
 (.cond (.t 50) .skip (.exit 4)) (.seq 
 (.block 5 (.seq 
 (.seqg (.reg [oQ 51 (.ix 3 (.t 47) (.t 49)), oQ 52 (.ld 3 true (.t 51)), oE 12 (.alloc [.str ⟨#[]⟩, .int .i64 0, .int .i64 0]), oN (.st 3 (.t 12) (.t 52))])
  (.keep [1, 2, 3, 4, 5, 9, 10, 12, 39, 40, 41, 47, 48, 49])) (.seq (.seq 
 (.seqg (.reg [oQ 53 (.mv (.t 10)), oQ 54 (.fa 0 (.t 12)), oQ 55 (.ld 1 false (.t 54)), oQ 56 (.lk (.t 53) (.t 55)), oQ 57 (.bin .gtr .num (.t 56) (.c (.int .i64 0)))])
  (.keep [1, 2, 3, 4, 5, 9, 10, 12, 39, 40, 41, 47, 48, 49, 57])) 
 (.cond (.t 57) 
 (.seqg (.reg [oQ 58 (.ld 1 false (.t 4)), oQ 59 (.fa 2 (.t 12)), oQ 60 (.ld 1 false (.t 59)), oE 61 (.call (.t 58) [(.c (.int .i64 30)), (.t 60)])])
  (.keep [1, 2, 3, 4, 5, 9, 10, 12, 39, 40, 41, 47, 48, 49])) .skip)) 
 (.seqg (.reg [oQ 62 (.mv (.t 10)), oQ 63 (.fa 0 (.t 12)), oQ 64 (.ld 1 false (.t 63)), oQ 65 (.lk (.t 62) (.t 64)), oQ 66 (.bin .add .num (.t 65) (.c (.int .i64 1))), oN (.updm (.t 62) (.t 64) (.t 66))])
  (.keep [1, 2, 3, 4, 5, 9, 10, 39, 40, 41, 47, 48, 49]))))) 
 (.seqg (.reg [oQ 67 (.bin .add .num (.t 49) (.c (.int .i64 1))), oQ 49 (.mv (.t 67))])
  (.keep [1, 2, 3, 4, 5, 9, 10, 39, 40, 41, 47, 48, 49]))))))))) 
 (.seqg (.reg [oQ 68 (.fa 3 (.t 9)), oQ 69 (.ld 7 true (.t 68)), oQ 70 (.mv (.t 10)), oQ 71 (.mkf F_scope_Check_2 [(.t 5), (.t 4), (.t 1)]), oE 72 (.call (.c (.fn F_scope_walk [])) [(.t 69), (.t 70), (.t 71)])])
  (.keep [1, 2, 3, 4, 5, 39, 40, 41])))))) 
 (.seqg (.reg [oQ 73 (.bin .add .num (.t 41) (.c (.int .i64 1))), oQ 41 (.mv (.t 73))])
  (.keep [1, 2, 3, 4, 5, 39, 40, 41]))))))))) (.seq 
 (.seqg (.reg [oQ 74 (.ld 2 true (.t 3)), oN (.st 2 (.t 2) (.t 74))])
  (.keep [2])) .ret)))))))
def r_scope_Check : List ARes := [.c 2 2 true]
theorem w_scope_Check : FnW Tryz.prog F_scope_Check c_scope_Check r_scope_Check 75 := ⟨Tryz.f72, (Tryz.f72).body.get rfl, by kernel_rfl, Tryz.func72, by kernel_rfl, by kernel_rfl, by kernel_rfl, by kernel_rfl⟩
def c_types_open : ACode := (.seq 
 (.seqg (.reg [oQ 2 (.box (.t 0)), oQ 4 (.mv (.c (.nilp)))])
  (.keep [1, 2])) (.seq 
 (.seqg (.reg [oE 7 .mkm, oQ 8 (.fa 0 (.t 2)), oQ 9 (.ld 1 false (.t 8)), oQ 10 (.mv (.t 1)), oQ 11 (.bld [.nilm, .sl .full 11 [], .sl .full 3 [], .nilf] [(0, 1, (.t 7)), (1, 1, (.t 9)), (3, 1, (.t 10))]), oE 12 (.boxO (.t 11)), oQ 5 (.mv (.t 12))])
  (.keep [2, 5])) (.seq (.seq 
 (.seqg (.reg [oQ 13 (.fa 0 (.t 2)), oQ 14 (.ld 1 false (.t 13)), oQ 15 (.len (.t 14)), oQ 16 (.bin .sub .num (.t 15) (.c (.int .i64 1))), oQ 6 (.mv (.t 16))])
  (.keep [2, 5, 6])) 
 (.block 0 
 (.gseq (.keep [2, 5, 6]) (.loop (.seq (.seq 
 (.seqg (.reg [oQ 17 (.mv (.t 6)), oQ 18 (.bin .geq .num (.t 17) (.c (.int .i64 0)))])
  (.keep [2, 5, 6, 18])) 
 (.cond (.t 18) .skip (.exit 0))) (.seq 
 (.block 1 
 (.seqg (.drw [oQ 21 (.mv (.t 5)), oQ 22 (.chk (.t 21)), oQ 23 (.fa 0 (.t 22)), oQ 24 (.ld 1 false (.t 23)), oQ 25 (.fa 0 (.t 2)), oQ 26 (.ld 1 false (.t 25)), oQ 27 (.mv (.t 6)), oQ 28 (.ix 11 (.t 26) (.t 27)), oQ 29 (.fa 0 (.t 28)), oQ 30 (.ld 1 false (.t 29)), oQ 31 (.mv (.t 6)), oQ 32 (.bin .add .num (.t 31) (.c (.int .i64 1))), oN (.updm (.t 24) (.t 30) (.t 32))])
  (.keep [2, 5, 6]))) 
 (.seqg (.reg [oQ 19 (.mv (.t 6)), oQ 20 (.bin .sub .num (.t 19) (.c (.int .i64 1))), oQ 6 (.mv (.t 20))])
  (.keep [2, 5, 6])))))))) (.seq 
 (.seqg (.reg [oQ 33 (.mv (.t 5)), oQ 4 (.mv (.t 33))])
  (.keep [4])) .ret))))
def r_types_open : List ARes := [.t 4]
theorem w_types_open : FnW Tryz.prog F_types_open c_types_open r_types_open 34 := ⟨Tryz.f73, (Tryz.f73).body.get rfl, by kernel_rfl, Tryz.func73, by kernel_rfl, by kernel_rfl, by kernel_rfl, by kernel_rfl⟩
def c_types_Check_1 : ACode := (.seq 
 (.seqg (.reg [oQ 3 (.fa 0 (.t 1)), oQ 4 (.ld 1 false (.t 3)), oQ 5 (.bin .eql .num (.t 4) (.c (.int .i64 0))), oQ 6 (.mv (.t 5)), oFQ 7 6 (.mv (.t 0)), oFQ 8 6 (.fa 1 (.t 1)), oFQ 9 6 (.ld 1 false (.t 8)), oFQ 10 6 (.bin .lss .num (.t 7) (.t 9)), oQ 11 (.pick (.t 6) (.c (.bool true)) (.t 10))])
  (.keep [0, 1, 11])) 
 (.cond (.t 11) 
 (.seqg (.reg [oQ 12 (.mv (.t 0)), oQ 13 (.bld [.int .i64 0, .int .i64 0] [(0, 1, (.c (.int .i64 34))), (1, 1, (.t 12))]), oN (.st 2 (.t 1) (.t 13))])
  (.keep [])) .skip))
def r_types_Check_1 : List ARes := []
theorem w_types_Check_1 : FnW Tryz.prog F_types_Check_1 c_types_Check_1 r_types_Check_1 14 := ⟨Tryz.f74, (Tryz.f74).body.get rfl, by kernel_rfl, Tryz.func74, by kernel_rfl, by kernel_rfl, by kernel_rfl, by kernel_rfl⟩
def c_types_checker_want : ACode := (.seq 
 (.seqg (.reg [oE 3 (.boxO (.t 0)), oE 4 (.boxO (.t 1)), oE 5 (.boxO (.t 2))])
  (.keep [3, 4, 5])) (.seq 
 (.seqg (.reg [oQ 7 (.ld 1 false (.t 5)), oQ 6 (.mv (.t 7))])
  (.keep [3, 4, 5, 6])) (.seq (.seq 
 (.seqg (.reg [oQ 8 (.fa 0 (.t 4)), oQ 9 (.ld 1 false (.t 8))])
  (.keep [3, 4, 5, 6, 9])) 
 (.block 0 (.seq 
 (.seqg (.reg [oQ 14 (.bin .eql .num (.t 9) (.c (.int .i64 19))), oQ 13 (.mv (.t 14))])
  (.keep [3, 4, 5, 6, 9, 13])) 
 (.cond (.t 13) (.seq 
 (.seqg (.drw [oQ 15 (.ld 1 false (.t 3)), oQ 16 (.fa 5 (.t 4)), oQ 17 (.ld 1 false (.t 16)), oQ 18 (.ix 7 (.t 17) (.c (.int .i64 0))), oQ 19 (.ld 7 true (.t 18)), oE 20 (.call (.c (.fn F_types_checker_want [])) [(.t 15), (.t 19), (.c (.int .i64 2))])])
  (.keep [3, 4, 5, 6])) 
 (.seqg (.drw [oQ 21 (.ld 1 false (.t 3)), oQ 22 (.ld 1 false (.t 5)), oQ 23 (.fa 5 (.t 4)), oQ 24 (.ld 1 false (.t 23)), oQ 25 (.slc 7 (.t 24) (some (.c (.int .i64 1))) none none), oE 26 (.call (.c (.fn F_types_checker_all [])) [(.t 21), (.t 22), (.t 25)])])
  (.keep [3, 4, 5, 6]))) (.seq 
 (.seqg (.reg [oQ 28 (.bin .eql .num (.t 9) (.c (.int .i64 20))), oQ 27 (.mv (.t 28))])
  (.keep [3, 4, 5, 6, 9, 27])) 
 (.cond (.t 27) (.seq 
 (.seqg (.drw [oQ 29 (.ld 1 false (.t 3)), oQ 30 (.fa 5 (.t 4)), oQ 31 (.ld 1 false (.t 30)), oQ 32 (.ix 7 (.t 31) (.c (.int .i64 0))), oQ 33 (.ld 7 true (.t 32)), oE 34 (.call (.c (.fn F_types_checker_want [])) [(.t 29), (.t 33), (.c (.int .i64 3))])])
  (.keep [3, 4, 5, 6])) (.seq 
 (.seqg (.drw [oQ 35 (.ld 1 false (.t 3)), oQ 36 (.fa 5 (.t 4)), oQ 37 (.ld 1 false (.t 36)), oQ 38 (.ix 7 (.t 37) (.c (.int .i64 1))), oQ 39 (.ld 7 true (.t 38)), oQ 40 (.ld 1 false (.t 5)), oE 41 (.call (.c (.fn F_types_checker_want [])) [(.t 35), (.t 39), (.t 40)])])
  (.keep [3, 4, 5, 6])) 
 (.seqg (.reg [oQ 42 (.ld 1 false (.t 3)), oQ 43 (.mkf F_types_checker_want_1 [(.t 3), (.t 4), (.t 5)]), oQ 44 (.fa 1 (.t 4)), oQ 45 (.ld 1 false (.t 44)), oQ 46 (.bld [.str ⟨#[]⟩, .int .i64 0, .int .i64 0] [(0, 1, (.t 45)), (1, 1, (.c (.int .i64 1)))]), oQ 47 (.fa 2 (.t 4)), oQ 48 (.ld 1 false (.t 47)), oQ 49 (.bld [.str ⟨#[]⟩, .int .i64 0, .int .i64 0] [(0, 1, (.t 48)), (1, 1, (.c (.int .i64 3)))]), oQ 50 (.bsl 3 [(.t 46), (.t 49)]), oE 51 (.call (.c (.fn F_types_checker_in [])) [(.t 42), (.t 43), (.t 50)])])
  (.keep [3, 4, 5, 6])))) (.seq 
 (.seqg (.reg [oQ 53 (.bin .eql .num (.t 9) (.c (.int .i64 21))), oQ 52 (.mv (.t 53))])
  (.keep [3, 4, 5, 6, 9, 52])) 
 (.cond (.t 52) 
 (.seqg (.reg [oQ 54 (.ld 1 false (.t 3)), oQ 55 (.mkf F_types_checker_want_2 [(.t 3), (.t 4), (.t 5)]), oQ 56 (.fa 1 (.t 4)), oQ 57 (.ld 1 false (.t 56)), oQ 58 (.fa 3 (.t 4)), oQ 59 (.ld 1 false (.t 58)), oQ 60 (.bld [.str ⟨#[]⟩, .int .i64 0, .int .i64 0] [(0, 1, (.t 57)), (1, 1, (.t 59))]), oQ 61 (.bsl 3 [(.t 60)]), oE 62 (.call (.c (.fn F_types_checker_in [])) [(.t 54), (.t 55), (.t 61)])])
  (.keep [3, 4, 5, 6])) (.seq 
 (.seqg (.reg [oQ 64 (.bin .eql .num (.t 9) (.c (.int .i64 22))), oQ 63 (.mv (.t 64))])
  (.keep [3, 4, 5, 6, 63])) 
 (.cond (.t 63) (.seq 
 (.seqg (.drw [oQ 65 (.ld 1 false (.t 3)), oQ 66 (.fa 5 (.t 4)), oQ 67 (.ld 1 false (.t 66)), oQ 68 (.ix 7 (.t 67) (.c (.int .i64 0))), oQ 69 (.ld 7 true (.t 68)), oQ 70 (.fa 3 (.t 4)), oQ 71 (.ld 1 false (.t 70)), oE 72 (.call (.c (.fn F_types_checker_want [])) [(.t 65), (.t 69), (.t 71)])])
  (.keep [3, 4, 5, 6])) 
 (.seqg (.reg [oQ 73 (.ld 1 false (.t 3)), oQ 74 (.mkf F_types_checker_want_3 [(.t 3), (.t 4), (.t 5)]), oQ 75 (.fa 1 (.t 4)), oQ 76 (.ld 1 false (.t 75)), oQ 77 (.fa 3 (.t 4)), oQ 78 (.ld 1 false (.t 77)), oQ 79 (.bld [.str ⟨#[]⟩, .int .i64 0, .int .i64 0] [(0, 1, (.t 76)), (1, 1, (.t 78))]), oQ 80 (.bsl 3 [(.t 79)]), oE 81 (.call (.c (.fn F_types_checker_in [])) [(.t 73), (.t 74), (.t 80)])])
  (.keep [3, 4, 5, 6]))) 
 (.seqg (.reg [oQ 10 (.ld 1 false (.t 3)), oQ 11 (.ld 7 true (.t 4)), oE 12 (.call (.c (.fn F_types_checker_own [])) [(.t 10), (.t 11)]), oQ 6 (.mv (.t 12))])
  (.keep [3, 4, 5, 6])))))))))))) (.seq 
 (.seqg (.reg [oQ 82 (.mv (.t 6)), oQ 83 (.ld 1 false (.t 5)), oQ 84 (.bin .neq .num (.t 82) (.t 83))])
  (.keep [3, 4, 84])) 
 (.cond (.t 84) 
 (.seqg (.drw [oQ 85 (.ld 1 false (.t 3)), oQ 86 (.chk (.t 85)), oQ 87 (.fa 3 (.t 86)), oQ 88 (.ld 1 false (.t 87)), oQ 89 (.fa 6 (.t 4)), oQ 90 (.ld 1 false (.t 89)), oE 91 (.call (.t 88) [(.t 90)])])
  (.keep [])) .skip)))))
def r_types_checker_want : List ARes := []
theorem w_types_checker_want : FnW Tryz.prog F_types_checker_want c_types_checker_want r_types_checker_want 92 := ⟨Tryz.f75, (Tryz.f75).body.get rfl, by kernel_rfl, Tryz.func75, by kernel_rfl, by kernel_rfl, by kernel_rfl, by kernel_rfl⟩
def c_tuples_Count : ACode := (.seq 
 (.seqg (.reg [oQ 2 (.mv (.c (.int .i64 0))), oQ 3 (.mv (.c (.int .i64 0)))])
  (.keep [0])) (.seq 
 (.seqg (.reg [oQ 4 (.mv (.c (.int .i64 1)))])
  (.keep [0, 4])) (.seq (.seq 
 (.seqg (.reg [oQ 9 (.mv (.t 0)), oQ 10 (.len (.t 9)), oQ 11 (.mv (.c (.int .i64 0)))])
  (.keep [4, 9, 10, 11])) 
 (.block 0 
 (.gseq (.keep [4, 9, 10, 11]) (.loop (.seq 
 (.seqg (.reg [oQ 12 (.bin .lss .num (.t 11) (.t 10))])
  (.keep [4, 9, 10, 11, 12])) (.seq 
 (.cond (.t 12) .skip (.exit 0)) (.seq 
 (.block 1 (.seq 
 (.seqg (.reg [oQ 13 (.ix 1 (.t 9) (.t 11)), oQ 14 (.ld 1 false (.t 13)), oQ 6 (.mv (.t 14))])
  (.keep [4, 6, 9, 10, 11])) (.seq 
 (.seqg (.reg [oQ 16 (.mv (.t 6)), oQ 17 (.call F_tuples_size [(.t 16)]), oQ 15 (.mv (.t 17)), oQ 18 (.ext (.t 15) 0), oQ 19 (.ext (.t 15) 1), oQ 7 (.mv (.t 18)), oQ 8 (.mv (.t 19))])
  (.keep [4, 7, 8, 9, 10, 11])) (.seq (.seq 
 (.seqg (.reg [oQ 20 (.mv (.t 8)), oQ 21 (.bin .neq .num (.t 20) (.c (.int .i64 0)))])
  (.keep [4, 7, 8, 9, 10, 11, 21])) 
 (.cond (.t 21) (.seq 
 (.seqg (.reg [oQ 22 (.mv (.t 8)), oQ 2 (.mv (.c (.int .i64 0))), oQ 3 (.mv (.t 22))])
  (.keep [2, 3])) .ret) .skip)) 
 (.seqg (.reg [oQ 23 (.mv (.t 4)), oQ 24 (.mv (.t 7)), oQ 25 (.bin .mul .num (.t 23) (.t 24)), oQ 26 (.mm false (.t 25) [(.c (.int .i64 4097))]), oQ 4 (.mv (.t 26))])
  (.keep [4, 9, 10, 11])))))) 
 (.seqg (.reg [oQ 27 (.bin .add .num (.t 11) (.c (.int .i64 1))), oQ 11 (.mv (.t 27))])
  (.keep [4, 9, 10, 11]))))))))) (.seq (.seq 
 (.seqg (.reg [oQ 28 (.mv (.t 4)), oQ 29 (.bin .gtr .num (.t 28) (.c (.int .i64 4096)))])
  (.keep [4, 29])) 
 (.cond (.t 29) (.seq 
 (.seqg (.reg [oQ 2 (.mv (.c (.int .i64 0))), oQ 3 (.mv (.c (.int .i64 22)))])
  (.keep [2, 3])) .ret) .skip)) (.seq 
 (.seqg (.reg [oQ 30 (.mv (.t 4)), oQ 2 (.mv (.t 30)), oQ 3 (.mv (.c (.int .i64 0)))])
  (.keep [2, 3])) .ret)))))
def r_tuples_Count : List ARes := [.t 2, .t 3]
theorem w_tuples_Count : FnW Tryz.prog F_tuples_Count c_tuples_Count r_tuples_Count 31 := ⟨Tryz.f76, (Tryz.f76).body.get rfl, by kernel_rfl, Tryz.func76, by kernel_rfl, by kernel_rfl, by kernel_rfl, by kernel_rfl⟩
def c_tuples_size : ACode := (.seq 
 (.seqg (.reg [oQ 2 (.mv (.c (.int .i64 0))), oQ 3 (.mv (.c (.int .i64 0)))])
  (.keep [0])) (.seq 
 (.seqg (.reg [oQ 7 (.mv (.t 0)), oQ 8 (.call F_points_Top [(.t 7)]), oQ 6 (.mv (.t 8)), oQ 9 (.ext (.t 6) 0), oQ 10 (.ext (.t 6) 1), oQ 4 (.mv (.t 9)), oQ 5 (.mv (.t 10))])
  (.keep [4, 5])) (.seq 
 (.seqg (.reg [oQ 11 (.mv (.t 4)), oQ 12 (.bin .add .num (.t 11) (.c (.int .i64 1))), oQ 13 (.mv (.t 5)), oQ 2 (.mv (.t 12)), oQ 3 (.mv (.t 13))])
  (.keep [2, 3])) .ret)))
def r_tuples_size : List ARes := [.t 2, .t 3]
theorem w_tuples_size : FnW Tryz.prog F_tuples_size c_tuples_size r_tuples_size 14 := ⟨Tryz.f77, (Tryz.f77).body.get rfl, by kernel_rfl, Tryz.func77, by kernel_rfl, by kernel_rfl, by kernel_rfl, by kernel_rfl⟩
def c_rows_Check : ACode := (.seq 
 (.seqg (.reg [oQ 1 (.box (.t 0)), oQ 2 (.mv (.c (.int .i64 0)))])
  (.keep [1])) (.seq (.seq 
 (.seqg (.drw [oQ 4 (.fa 0 (.t 1)), oQ 5 (.ld 1 false (.t 4)), oQ 6 (.bin .lss .num (.t 5) (.c (.int .i64 0))), oQ 7 (.mv (.t 6)), oFQ 8 7 (.fa 0 (.t 1)), oFQ 9 7 (.ld 1 false (.t 8)), oFQ 10 7 (.bin .gtr .num (.t 9) (.c (.int .i64 4096))), oQ 11 (.pick (.t 7) (.c (.bool true)) (.t 10)), oQ 12 (.mv (.t 11)), oFQ 13 12 (.fa 1 (.t 1)), oFQ 14 12 (.ld 1 false (.t 13)), oFQ 15 12 (.len (.t 14)), oFQ 16 12 (.fa 0 (.t 1)), oFQ 17 12 (.ld 1 false (.t 16)), oFQ 18 12 (.call F_rows_words [(.t 17)]), oFQ 19 12 (.bin .neq .num (.t 15) (.t 18)), oQ 20 (.pick (.t 12) (.c (.bool true)) (.t 19))])
  (.keep [1, 20])) 
 (.cond (.t 20) (.seq 
 (.seqg (.reg [oQ 2 (.mv (.c (.int .i64 3)))])
  (.keep [2])) .ret) .skip)) (.seq (.seq 
 (.seqg (.reg [oQ 21 (.fa 0 (.t 1)), oQ 22 (.ld 1 false (.t 21)), oQ 23 (.bin .rem .num (.t 22) (.c (.int .i64 32))), oQ 3 (.mv (.t 23))])
  (.keep [1, 3])) (.seq 
 (.seqg (.reg [oQ 24 (.mv (.t 3)), oQ 25 (.bin .gtr .num (.t 24) (.c (.int .i64 0))), oQ 26 (.mv (.t 25)), oTQ 27 26 (.fa 1 (.t 1)), oTQ 28 26 (.ld 1 false (.t 27)), oTQ 29 26 (.fa 1 (.t 1)), oTQ 30 26 (.ld 1 false (.t 29)), oTQ 31 26 (.len (.t 30)), oTQ 32 26 (.bin .sub .num (.t 31) (.c (.int .i64 1))), oTQ 33 26 (.ix 1 (.t 28) (.t 32)), oTQ 34 26 (.ld 1 false (.t 33)), oTQ 35 26 (.mv (.t 3)), oTQ 36 26 (.bin .mul .num (.c (.int .i64 2)) (.t 35)), oTQ 37 26 (.bin .shr .num (.t 34) (.t 36)), oTQ 38 26 (.bin .neq .num (.t 37) (.c (.int .u64 0))), oQ 39 (.pick (.t 26) (.t 38) (.c (.bool false)))])
  (.keep [39])) 
 (.cond (.t 39) (.seq 
 (.seqg (.reg [oQ 2 (.mv (.c (.int .i64 3)))])
  (.keep [2])) .ret) .skip))) (.seq 
 (.seqg (.reg [oQ 2 (.mv (.c (.int .i64 0)))])
  (.keep [2])) .ret))))
def r_rows_Check : List ARes := [.t 2]
theorem w_rows_Check : FnW Tryz.prog F_rows_Check c_rows_Check r_rows_Check 40 := ⟨Tryz.f78, (Tryz.f78).body.get rfl, by kernel_rfl, Tryz.func78, by kernel_rfl, by kernel_rfl, by kernel_rfl, by kernel_rfl⟩
end Go.Proofs.Fathom
