/- A part of the proof of 'Rows.QueryReadUptoSaid': for every text and every seeds (of bulk at most 1048576 together) fathomlaw19.QueryRead returns true and its arguments read afterwards as before. -/
import Derived.Test.YtaikjbfkbijlnaaGreatF15a
set_option maxRecDepth 100000
namespace Go.Proofs.Fathom
open Go Go.Proofs
def c_rows_Count : ACode := (.seq 
 (.seqg (.reg [oQ 2 (.box (.t 0)), oQ 4 (.mv (.c (.int .i64 0))), oQ 5 (.mv (.c (.int .i64 0)))])
  (.keep [1, 2])) (.seq (.seq 
 (.seqg (.reg [oQ 12 (.ld 2 true (.t 2)), oQ 13 (.call F_rows_Check [(.t 12)]), oQ 6 (.mv (.t 13))])
  (.keep [1, 2, 6])) (.seq 
 (.seqg (.reg [oQ 14 (.mv (.t 6)), oQ 15 (.bin .neq .num (.t 14) (.c (.int .i64 0)))])
  (.keep [1, 2, 6, 15])) 
 (.cond (.t 15) (.seq 
 (.seqg (.reg [oQ 16 (.mv (.t 6)), oQ 4 (.mv (.c (.int .i64 0))), oQ 5 (.mv (.t 16))])
  (.keep [4, 5])) .ret) .skip))) (.seq (.seq 
 (.seqg (.reg [oQ 17 (.mv (.t 1)), oQ 18 (.bin .lss .num (.t 17) (.c (.int .i64 0))), oQ 19 (.mv (.t 18)), oFQ 20 19 (.mv (.t 1)), oFQ 21 19 (.bin .gtr .num (.t 20) (.c (.int .i64 3))), oQ 22 (.pick (.t 19) (.c (.bool true)) (.t 21))])
  (.keep [1, 2, 22])) 
 (.cond (.t 22) (.seq 
 (.seqg (.reg [oQ 4 (.mv (.c (.int .i64 0))), oQ 5 (.mv (.c (.int .i64 2)))])
  (.keep [4, 5])) .ret) .skip)) (.seq 
 (.seqg (.reg [oQ 23 (.mv (.t 1)), oQ 24 (.cvi .u64 (.t 23)), oQ 25 (.bin .mul .num (.t 24) (.c (.int .u64 6148914691236517205))), oQ 7 (.mv (.t 25))])
  (.keep [1, 2, 7])) (.seq 
 (.seqg (.reg [oQ 8 (.mv (.c (.int .i64 0)))])
  (.keep [1, 2, 7, 8])) (.seq (.seq 
 (.seqg (.reg [oQ 26 (.fa 1 (.t 2)), oQ 27 (.ld 1 false (.t 26)), oQ 28 (.len (.t 27)), oQ 29 (.mv (.c (.int .i64 0)))])
  (.keep [1, 2, 7, 8, 27, 28, 29])) 
 (.block 0 
 (.gseq (.keep [1, 2, 7, 8, 27, 28, 29]) (.loop (.seq 
 (.seqg (.reg [oQ 30 (.bin .lss .num (.t 29) (.t 28))])
  (.keep [1, 2, 7, 8, 27, 28, 29, 30])) (.seq 
 (.cond (.t 30) .skip (.exit 0)) (.seq 
 (.block 1 (.seq 
 (.seqg (.reg [oQ 31 (.ix 1 (.t 27) (.t 29)), oQ 32 (.ld 1 false (.t 31)), oQ 10 (.mv (.t 32))])
  (.keep [1, 2, 7, 8, 10, 27, 28, 29])) (.seq 
 (.seqg (.reg [oQ 33 (.mv (.t 10)), oQ 34 (.mv (.t 7)), oQ 35 (.bin .xor .num (.t 33) (.t 34)), oQ 11 (.mv (.t 35))])
  (.keep [1, 2, 7, 8, 11, 27, 28, 29])) 
 (.seqg (.reg [oQ 36 (.mv (.t 8)), oQ 37 (.mv (.t 11)), oQ 38 (.mv (.t 11)), oQ 39 (.bin .shr .num (.t 38) (.c (.int .u64 1))), oQ 40 (.bin .or .num (.t 37) (.t 39)), oQ 41 (.com (.t 40)), oQ 42 (.bin .and .num (.t 41) (.c (.int .u64 6148914691236517205))), oQ 43 (.call F_bits_OnesCount64 [(.t 42)]), oQ 44 (.bin .add .num (.t 36) (.t 43)), oQ 8 (.mv (.t 44))])
  (.keep [1, 2, 7, 8, 27, 28, 29]))))) 
 (.seqg (.reg [oQ 45 (.bin .add .num (.t 29) (.c (.int .i64 1))), oQ 29 (.mv (.t 45))])
  (.keep [1, 2, 7, 8, 27, 28, 29]))))))))) (.seq (.seq 
 (.seqg (.reg [oQ 46 (.mv (.t 1)), oQ 47 (.bin .eql .num (.t 46) (.c (.int .i64 0)))])
  (.keep [2, 8, 47])) 
 (.cond (.t 47) 
 (.seqg (.reg [oQ 48 (.mv (.t 8)), oQ 49 (.fa 1 (.t 2)), oQ 50 (.ld 1 false (.t 49)), oQ 51 (.len (.t 50)), oQ 52 (.bin .mul .num (.c (.int .i64 32)) (.t 51)), oQ 53 (.fa 0 (.t 2)), oQ 54 (.ld 1 false (.t 53)), oQ 55 (.bin .sub .num (.t 52) (.t 54)), oQ 56 (.bin .sub .num (.t 48) (.t 55)), oQ 8 (.mv (.t 56))])
  (.keep [8])) .skip)) (.seq 
 (.seqg (.reg [oQ 57 (.mv (.t 8)), oQ 4 (.mv (.t 57)), oQ 5 (.mv (.c (.int .i64 0)))])
  (.keep [4, 5])) .ret))))))))
def r_rows_Count : List ARes := [.t 4, .t 5]
theorem w_rows_Count : FnW Tryz.prog F_rows_Count c_rows_Count r_rows_Count 58 := ⟨Tryz.f79, (Tryz.f79).body.get rfl, by kernel_rfl, Tryz.func79, by kernel_rfl, by kernel_rfl, by kernel_rfl, by kernel_rfl⟩
def c_tuples_place : ACode := (.seq 
 (.seqg (.reg [oQ 2 (.box (.t 0)), oQ 4 (.mv (.c (.int .i64 0))), oQ 5 (.mv (.c (.int .i64 0)))])
  (.keep [1, 2])) (.seq (.seq 
 (.seqg (.reg [oQ 7 (.ld 4 true (.t 2)), oQ 8 (.call F_tuples_Check [(.t 7)]), oQ 6 (.mv (.t 8))])
  (.keep [1, 2, 6])) (.seq 
 (.seqg (.reg [oQ 9 (.mv (.t 6)), oQ 10 (.bin .neq .num (.t 9) (.c (.int .i64 0)))])
  (.keep [1, 2, 6, 10])) 
 (.cond (.t 10) (.seq 
 (.seqg (.reg [oQ 11 (.mv (.t 6)), oQ 4 (.mv (.c (.int .i64 0))), oQ 5 (.mv (.t 11))])
  (.keep [4, 5])) .ret) .skip))) (.seq 
 (.seqg (.reg [oQ 12 (.fa 0 (.t 2)), oQ 13 (.ld 1 false (.t 12)), oQ 14 (.mv (.t 1)), oQ 15 (.call F_tuples_Number [(.t 13), (.t 14)]), oQ 16 (.ext (.t 15) 0), oQ 17 (.ext (.t 15) 1), oQ 4 (.mv (.t 16)), oQ 5 (.mv (.t 17))])
  (.keep [4, 5])) .ret)))
def r_tuples_place : List ARes := [.t 4, .t 5]
theorem w_tuples_place : FnW Tryz.prog F_tuples_place c_tuples_place r_tuples_place 18 := ⟨Tryz.f80, (Tryz.f80).body.get rfl, by kernel_rfl, Tryz.func80, by kernel_rfl, by kernel_rfl, by kernel_rfl, by kernel_rfl⟩
def c_rows_Get : ACode := (.seq 
 (.seqg (.reg [oQ 2 (.box (.t 0)), oQ 4 (.mv (.c (.int .i64 0))), oQ 5 (.mv (.c (.int .i64 0)))])
  (.keep [1, 2])) (.seq (.seq 
 (.seqg (.reg [oQ 7 (.ld 2 true (.t 2)), oQ 8 (.call F_rows_Check [(.t 7)]), oQ 6 (.mv (.t 8))])
  (.keep [1, 2, 6])) (.seq 
 (.seqg (.reg [oQ 9 (.mv (.t 6)), oQ 10 (.bin .neq .num (.t 9) (.c (.int .i64 0)))])
  (.keep [1, 2, 6, 10])) 
 (.cond (.t 10) (.seq 
 (.seqg (.reg [oQ 11 (.mv (.t 6)), oQ 4 (.mv (.c (.int .i64 0))), oQ 5 (.mv (.t 11))])
  (.keep [4, 5])) .ret) .skip))) (.seq (.seq 
 (.seqg (.reg [oQ 12 (.mv (.t 1)), oQ 13 (.bin .lss .num (.t 12) (.c (.int .i64 0))), oQ 14 (.mv (.t 13)), oFQ 15 14 (.mv (.t 1)), oFQ 16 14 (.fa 0 (.t 2)), oFQ 17 14 (.ld 1 false (.t 16)), oFQ 18 14 (.bin .geq .num (.t 15) (.t 17)), oQ 19 (.pick (.t 14) (.c (.bool true)) (.t 18))])
  (.keep [1, 2, 19])) 
 (.cond (.t 19) (.seq 
 (.seqg (.reg [oQ 4 (.mv (.c (.int .i64 0))), oQ 5 (.mv (.c (.int .i64 2)))])
  (.keep [4, 5])) .ret) .skip)) (.seq 
 (.seqg (.reg [oQ 20 (.fa 1 (.t 2)), oQ 21 (.ld 1 false (.t 20)), oQ 22 (.mv (.t 1)), oQ 23 (.bin .quo .num (.t 22) (.c (.int .i64 32))), oQ 24 (.ix 1 (.t 21) (.t 23)), oQ 25 (.ld 1 false (.t 24)), oQ 26 (.mv (.t 1)), oQ 27 (.bin .rem .num (.t 26) (.c (.int .i64 32))), oQ 28 (.bin .mul .num (.c (.int .i64 2)) (.t 27)), oQ 29 (.bin .shr .num (.t 25) (.t 28)), oQ 30 (.bin .and .num (.t 29) (.c (.int .u64 3))), oQ 31 (.cvi .i64 (.t 30)), oQ 4 (.mv (.t 31)), oQ 5 (.mv (.c (.int .i64 0)))])
  (.keep [4, 5])) .ret))))
def r_rows_Get : List ARes := [.t 4, .t 5]
theorem w_rows_Get : FnW Tryz.prog F_rows_Get c_rows_Get r_rows_Get 32 := ⟨Tryz.f81, (Tryz.f81).body.get rfl, by kernel_rfl, Tryz.func81, by kernel_rfl, by kernel_rfl, by kernel_rfl, by kernel_rfl⟩
def c_fathomref06_Check : ACode := (.seq 
 (.seqg (.reg [oQ 1 (.box (.t 0)), oE 2 (.alloc [.int .i64 0, .int .i64 0])])
  (.keep [1, 2])) (.seq 
 (.seqg (.reg [oQ 6 (.ld 1 true (.t 1)), oQ 7 (.call F_fathomref06_faults [(.t 6)]), oQ 3 (.mv (.t 7))])
  (.keep [2, 3])) (.seq 
 (.seqg (.reg [oE 4 (.alloc [.int .i64 0, .int .i64 0])])
  (.keep [2, 3, 4])) (.seq (.seq 
 (.seqg (.reg [oQ 5 (.mv (.c (.int .i64 0)))])
  (.keep [2, 3, 4, 5])) 
 (.block 0 
 (.gseq (.keep [2, 3, 4, 5]) (.loop (.seq (.seq 
 (.seqg (.reg [oQ 8 (.mv (.t 5)), oQ 9 (.mv (.t 3)), oQ 10 (.len (.t 9)), oQ 11 (.bin .lss .num (.t 8) (.t 10))])
  (.keep [2, 3, 4, 5, 11])) 
 (.cond (.t 11) .skip (.exit 0))) (.seq 
 (.block 1 (.seq 
 (.seqg (.drw [oQ 14 (.fa 0 (.t 4)), oQ 15 (.ld 1 false (.t 14)), oQ 16 (.bin .eql .num (.t 15) (.c (.int .i64 0))), oQ 17 (.mv (.t 16)), oFQ 18 17 (.mv (.t 3)), oFQ 19 17 (.mv (.t 5)), oFQ 20 17 (.ix 2 (.t 18) (.t 19)), oFQ 21 17 (.fa 1 (.t 20)), oFQ 22 17 (.ld 1 false (.t 21)), oFQ 23 17 (.fa 1 (.t 4)), oFQ 24 17 (.ld 1 false (.t 23)), oFQ 25 17 (.bin .lss .num (.t 22) (.t 24)), oQ 26 (.pick (.t 17) (.c (.bool true)) (.t 25))])
  (.keep [2, 3, 4, 5, 26])) 
 (.cond (.t 26) 
 (.seqg (.reg [oQ 27 (.mv (.t 3)), oQ 28 (.mv (.t 5)), oQ 29 (.ix 2 (.t 27) (.t 28)), oQ 30 (.ld 2 true (.t 29)), oN (.st 2 (.t 4) (.t 30))])
  (.keep [2, 3, 4, 5])) .skip))) 
 (.seqg (.reg [oQ 12 (.mv (.t 5)), oQ 13 (.bin .add .num (.t 12) (.c (.int .i64 1))), oQ 5 (.mv (.t 13))])
  (.keep [2, 3, 4, 5])))))))) (.seq 
 (.seqg (.reg [oQ 31 (.ld 2 true (.t 4)), oN (.st 2 (.t 2) (.t 31))])
  (.keep [2])) .ret)))))
def r_fathomref06_Check : List ARes := [.c 2 2 true]
theorem w_fathomref06_Check : FnW Tryz.prog F_fathomref06_Check c_fathomref06_Check r_fathomref06_Check 32 := ⟨Tryz.f82, (Tryz.f82).body.get rfl, by kernel_rfl, Tryz.func82, by kernel_rfl, by kernel_rfl, by kernel_rfl, by kernel_rfl⟩
def c_fathomref07_wrong : ACode := (.seq 
 (.seqg (.reg [oQ 4 (.box (.t 0)), oQ 6 (.box (.t 2)), oQ 8 (.mv (.c (.sl .full 1 [])))])
  (.keep [1, 3, 4, 6])) (.seq 
 (.seqg (.seqg (.reg [oQ 9 (.mv (.c (.sl .full 1 [])))])
  (.keep [1, 3, 4, 6, 9]))
  (.mint 9)) (.seq 
 (.seqg (.reg [oQ 15 (.ld 1 true (.t 4)), oQ 16 (.mv (.t 1)), oQ 17 (.ld 7 true (.t 6)), oQ 18 (.call F_fathomref07_own [(.t 15), (.t 16), (.t 17)]), oQ 14 (.mv (.t 18)), oQ 19 (.ext (.t 14) 0), oQ 20 (.ext (.t 14) 1), oQ 10 (.mv (.t 19)), oQ 11 (.mv (.t 20))])
  (.keep [1, 3, 4, 6, 9, 10, 11])) (.seq (.seq 
 (.seqg (.reg [oQ 21 (.mv (.t 11)), oQ 22 (.mv (.t 21)), oTQ 23 22 (.mv (.t 10)), oTQ 24 22 (.mv (.t 3)), oTQ 25 22 (.bin .neq .num (.t 23) (.t 24)), oQ 26 (.pick (.t 22) (.t 25) (.c (.bool false)))])
  (.keep [1, 3, 4, 6, 9, 26])) 
 (.cond (.t 26) 
 (.seqg (.reg [oQ 27 (.mv (.t 9)), oQ 28 (.fa 6 (.t 6)), oQ 29 (.ld 1 false (.t 28)), oQ 30 (.bsl 1 [(.t 29)]), oE 31 (.app 1 8 (.t 27) (.t 30)), oQ 9 (.mv (.t 31))])
  (.keep [1, 3, 4, 6, 9])) .skip)) (.seq (.seq 
 (.seqg (.reg [oQ 12 (.mv (.c (.int .i64 0)))])
  (.keep [1, 3, 4, 6, 9, 12])) 
 (.block 0 
 (.gseq (.keep [1, 3, 4, 6, 9, 12]) (.loop (.seq (.seq 
 (.seqg (.reg [oQ 32 (.mv (.t 12)), oQ 33 (.fa 5 (.t 6)), oQ 34 (.ld 1 false (.t 33)), oQ 35 (.len (.t 34)), oQ 36 (.bin .lss .num (.t 32) (.t 35))])
  (.keep [1, 3, 4, 6, 9, 12, 36])) 
 (.cond (.t 36) .skip (.exit 0))) (.seq 
 (.block 1 (.seq 
 (.seqg (.drw [oQ 39 (.ld 1 true (.t 4)), oQ 40 (.mv (.t 1)), oQ 41 (.ld 7 true (.t 6)), oQ 42 (.mv (.t 12)), oQ 43 (.call F_fathomref07_Within [(.t 40), (.t 41), (.t 42)]), oQ 44 (.fa 5 (.t 6)), oQ 45 (.ld 1 false (.t 44)), oQ 46 (.mv (.t 12)), oQ 47 (.ix 7 (.t 45) (.t 46)), oQ 48 (.ld 7 true (.t 47)), oQ 49 (.ld 1 true (.t 4)), oQ 50 (.ld 7 true (.t 6)), oQ 51 (.mv (.t 12)), oQ 52 (.mv (.t 3)), oQ 53 (.call F_fathomref07_Wanted [(.t 49), (.t 50), (.t 51), (.t 52)]), oQ 54 (.call F_fathomref07_wrong [(.t 39), (.t 43), (.t 48), (.t 53)]), oQ 13 (.mv (.t 54))])
  (.keep [1, 3, 4, 6, 9, 12, 13])) 
 (.seqg (.reg [oQ 55 (.mv (.t 9)), oQ 56 (.mv (.t 13)), oE 57 (.app 1 8 (.t 55) (.t 56)), oQ 9 (.mv (.t 57))])
  (.keep [1, 3, 4, 6, 9, 12])))) 
 (.seqg (.reg [oQ 37 (.mv (.t 12)), oQ 38 (.bin .add .num (.t 37) (.c (.int .i64 1))), oQ 12 (.mv (.t 38))])
  (.keep [1, 3, 4, 6, 9, 12])))))))) (.seq 
 (.seqg (.reg [oQ 58 (.mv (.t 9)), oQ 8 (.mv (.t 58))])
  (.keep [8])) .ret))))))
def r_fathomref07_wrong : List ARes := [.t 8]
theorem w_fathomref07_wrong : FnW Tryz.prog F_fathomref07_wrong c_fathomref07_wrong r_fathomref07_wrong 59 := ⟨Tryz.f83, (Tryz.f83).body.get rfl, by kernel_rfl, Tryz.func83, by kernel_rfl, by kernel_rfl, by kernel_rfl, by kernel_rfl⟩
def c_types_Of_1 : ACode := 
 (.seqg (.reg [oQ 3 (.ld 1 false (.t 1)), oQ 4 (.bin .add .num (.t 3) (.c (.int .i64 1))), oN (.st 1 (.t 1) (.t 4))])
  (.keep []))
def r_types_Of_1 : List ARes := []
theorem w_types_Of_1 : FnW Tryz.prog F_types_Of_1 c_types_Of_1 r_types_Of_1 5 := ⟨Tryz.f84, (Tryz.f84).body.get rfl, by kernel_rfl, Tryz.func84, by kernel_rfl, by kernel_rfl, by kernel_rfl, by kernel_rfl⟩
def c_scope_Nest : ACode := (.seq 
 (.seqg (.reg [oQ 1 (.box (.t 0)), oQ 2 (.mv (.c (.int .i64 0)))])
  (.keep [1])) (.seq 
 (.seqg (.reg [oQ 3 (.mv (.c (.int .i64 0)))])
  (.keep [1, 3])) (.seq (.seq 
 (.seqg (.reg [oQ 6 (.fa 5 (.t 1)), oQ 7 (.ld 1 false (.t 6)), oQ 8 (.len (.t 7)), oQ 9 (.mv (.c (.int .i64 0)))])
  (.keep [1, 3, 7, 8, 9])) 
 (.block 0 
 (.gseq (.keep [1, 3, 7, 8, 9]) (.loop (.seq 
 (.seqg (.reg [oQ 10 (.bin .lss .num (.t 9) (.t 8))])
  (.keep [1, 3, 7, 8, 9, 10])) (.seq 
 (.cond (.t 10) .skip (.exit 0)) (.seq 
 (.block 1 (.seq 
 (.seqg (.reg [oQ 11 (.ix 7 (.t 7) (.t 9)), oQ 12 (.ld 7 true (.t 11)), oE 5 (.alloc [.int .i64 0, .str ⟨#[]⟩, .str ⟨#[]⟩, .int .i64 0, .cpx 0 0, .sl .full 7 [], .int .i64 0]), oN (.st 7 (.t 5) (.t 12))])
  (.keep [1, 3, 5, 7, 8, 9])) 
 (.seqg (.reg [oQ 13 (.mv (.t 3)), oQ 14 (.ld 7 true (.t 5)), oQ 15 (.call F_scope_Nest [(.t 14)]), oQ 16 (.mm true (.t 13) [(.t 15)]), oQ 3 (.mv (.t 16))])
  (.keep [1, 3, 7, 8, 9])))) 
 (.seqg (.reg [oQ 17 (.bin .add .num (.t 9) (.c (.int .i64 1))), oQ 9 (.mv (.t 17))])
  (.keep [1, 3, 7, 8, 9]))))))))) (.seq (.seq 
 (.seqg (.reg [oQ 18 (.fa 0 (.t 1)), oQ 19 (.ld 1 false (.t 18))])
  (.keep [3, 19])) 
 (.block 2 (.seq (.seq 
 (.seqg (.reg [oQ 21 (.bin .eql .num (.t 19) (.c (.int .i64 21))), oQ 20 (.mv (.t 21))])
  (.keep [3, 19, 20])) 
 (.cond (.t 20) .skip (.seq 
 (.seqg (.reg [oQ 22 (.bin .eql .num (.t 19) (.c (.int .i64 22))), oQ 20 (.mv (.t 22))])
  (.keep [3, 19, 20])) 
 (.cond (.t 20) .skip 
 (.seqg (.reg [oQ 23 (.bin .eql .num (.t 19) (.c (.int .i64 20))), oQ 20 (.mv (.t 23))])
  (.keep [3, 20])))))) 
 (.cond (.t 20) 
 (.seqg (.reg [oQ 24 (.mv (.t 3)), oQ 25 (.bin .add .num (.t 24) (.c (.int .i64 1))), oQ 3 (.mv (.t 25))])
  (.keep [3])) .skip)))) (.seq 
 (.seqg (.reg [oQ 26 (.mv (.t 3)), oQ 2 (.mv (.t 26))])
  (.keep [2])) .ret)))))
def r_scope_Nest : List ARes := [.t 2]
theorem w_scope_Nest : FnW Tryz.prog F_scope_Nest c_scope_Nest r_scope_Nest 27 := ⟨Tryz.f85, (Tryz.f85).body.get rfl, by kernel_rfl, Tryz.func85, by kernel_rfl, by kernel_rfl, by kernel_rfl, by kernel_rfl⟩
def c_abseval_names_find : ACode := (.seq 
 (.seqg (.reg [oQ 4 (.mv (.c (.int .i64 0)))])
  (.keep [0, 1])) (.seq 
 (.block 0 
 (.gseq (.keep [0, 1]) (.loop (.seq (.seq 
 (.seqg (.reg [oQ 5 (.mv (.t 0)), oQ 6 (.chk (.t 5)), oQ 7 (.fa 0 (.t 6)), oQ 8 (.ld 1 false (.t 7)), oQ 9 (.mv (.t 1)), oQ 10 (.bin .neq .other (.t 8) (.t 9))])
  (.keep [0, 1, 10])) 
 (.cond (.t 10) .skip (.exit 0))) 
 (.block 1 
 (.seqg (.reg [oQ 11 (.mv (.t 0)), oQ 12 (.chk (.t 11)), oQ 13 (.fa 2 (.t 12)), oQ 14 (.ld 1 false (.t 13)), oQ 0 (.mv (.t 14))])
  (.keep [0, 1]))))))) (.seq 
 (.seqg (.reg [oQ 15 (.mv (.t 0)), oQ 16 (.chk (.t 15)), oQ 17 (.fa 1 (.t 16)), oQ 18 (.ld 1 false (.t 17)), oQ 4 (.mv (.t 18))])
  (.keep [4])) .ret)))
def r_abseval_names_find : List ARes := [.t 4]
theorem w_abseval_names_find : FnW Tryz.prog F_abseval_names_find c_abseval_names_find r_abseval_names_find 19 := ⟨Tryz.f86, (Tryz.f86).body.get rfl, by kernel_rfl, Tryz.func86, by kernel_rfl, by kernel_rfl, by kernel_rfl, by kernel_rfl⟩
def c_abseval_sight_cases : ACode := (.seq 
 (.seqg (.reg [oQ 4 (.box (.t 1)), oQ 6 (.mv (.c (.int .i64 0)))])
  (.keep [0, 2, 4])) (.seq 
 (.seqg (.reg [oQ 7 (.mv (.c (.int .i64 0)))])
  (.keep [0, 2, 4, 7])) (.seq 
 (.seqg (.reg [oQ 14 (.mv (.t 0)), oQ 15 (.fa 5 (.t 4)), oQ 16 (.ld 1 false (.t 15)), oQ 17 (.ix 7 (.t 16) (.c (.int .i64 0))), oQ 18 (.ld 7 true (.t 17)), oQ 19 (.mv (.t 2)), oQ 20 (.call F_abseval_sight_point [(.t 14), (.t 18), (.t 19)]), oQ 21 (.call F_points_Cases [(.t 20)]), oQ 13 (.mv (.t 21)), oQ 22 (.ext (.t 13) 0), oQ 23 (.ext (.t 13) 1), oQ 8 (.mv (.t 22)), oQ 9 (.mv (.t 23))])
  (.keep [0, 2, 4, 7, 8])) (.seq (.seq 
 (.seqg (.reg [oQ 24 (.mv (.t 8)), oQ 25 (.len (.t 24)), oQ 26 (.mv (.c (.int .i64 0)))])
  (.keep [0, 2, 4, 7, 24, 25, 26])) 
 (.block 0 
 (.gseq (.keep [0, 2, 4, 7, 24, 25, 26]) (.loop (.seq 
 (.seqg (.reg [oQ 27 (.bin .lss .num (.t 26) (.t 25))])
  (.keep [0, 2, 4, 7, 24, 25, 26, 27])) (.seq 
 (.cond (.t 27) .skip (.exit 0)) (.seq 
 (.block 1 (.seq 
 (.seqg (.reg [oQ 28 (.ix 3 (.t 24) (.t 26)), oQ 29 (.ld 3 true (.t 28)), oE 11 (.alloc [.bool false, .int .i64 0, .int .i64 0]), oN (.st 3 (.t 11) (.t 29))])
  (.keep [0, 2, 4, 7, 11, 24, 25, 26])) (.seq (.seq 
 (.seqg (.reg [oQ 30 (.fa 0 (.t 11)), oQ 31 (.ld 1 false (.t 30))])
  (.keep [0, 2, 4, 7, 11, 24, 25, 26, 31])) 
 (.cond (.t 31) (.seq 
 (.seqg (.reg [oQ 32 (.mv (.t 7)), oQ 33 (.mv (.t 0)), oQ 34 (.fa 5 (.t 4)), oQ 35 (.ld 1 false (.t 34)), oQ 36 (.ix 7 (.t 35) (.c (.int .i64 1))), oQ 37 (.ld 7 true (.t 36)), oQ 38 (.mv (.t 2)), oQ 39 (.call F_abseval_sight_point [(.t 33), (.t 37), (.t 38)]), oQ 40 (.mm true (.t 32) [(.t 39)]), oQ 7 (.mv (.t 40))])
  (.keep [0, 2, 4, 7, 24, 25, 26])) (.exit 1)) .skip)) (.seq 
 (.seqg (.reg [oQ 41 (.fa 1 (.t 4)), oQ 42 (.ld 1 false (.t 41)), oQ 43 (.fa 1 (.t 11)), oQ 44 (.ld 1 false (.t 43)), oQ 45 (.mv (.t 2)), oQ 46 (.bld [.str ⟨#[]⟩, .int .i64 0, .nilp] [(0, 1, (.t 42)), (1, 1, (.t 44)), (2, 1, (.t 45))]), oQ 47 (.box (.t 46)), oQ 12 (.mv (.t 47))])
  (.keep [0, 2, 4, 7, 11, 12, 24, 25, 26])) 
 (.seqg (.drw [oQ 48 (.mv (.t 7)), oQ 49 (.mv (.t 0)), oQ 50 (.fa 5 (.t 4)), oQ 51 (.ld 1 false (.t 50)), oQ 52 (.ix 7 (.t 51) (.c (.int .i64 2))), oQ 53 (.ld 7 true (.t 52)), oQ 54 (.fa 2 (.t 4)), oQ 55 (.ld 1 false (.t 54)), oQ 56 (.fa 2 (.t 11)), oQ 57 (.ld 1 false (.t 56)), oQ 58 (.mv (.t 12)), oQ 59 (.bld [.str ⟨#[]⟩, .int .i64 0, .nilp] [(0, 1, (.t 55)), (1, 1, (.t 57)), (2, 1, (.t 58))]), oQ 60 (.box (.t 59)), oQ 61 (.call F_abseval_sight_point [(.t 49), (.t 53), (.t 60)]), oQ 62 (.mm true (.t 48) [(.t 61)]), oQ 7 (.mv (.t 62))])
  (.keep [0, 2, 4, 7, 24, 25, 26])))))) 
 (.seqg (.reg [oQ 63 (.bin .add .num (.t 26) (.c (.int .i64 1))), oQ 26 (.mv (.t 63))])
  (.keep [0, 2, 4, 7, 24, 25, 26]))))))))) (.seq 
 (.seqg (.reg [oQ 64 (.mv (.t 7)), oQ 6 (.mv (.t 64))])
  (.keep [6])) .ret)))))
def r_abseval_sight_cases : List ARes := [.t 6]
theorem w_abseval_sight_cases : FnW Tryz.prog F_abseval_sight_cases c_abseval_sight_cases r_abseval_sight_cases 65 := ⟨Tryz.f87, (Tryz.f87).body.get rfl, by kernel_rfl, Tryz.func87, by kernel_rfl, by kernel_rfl, by kernel_rfl, by kernel_rfl⟩
def c_abseval_sight_join : ACode := (.seq 
 (.seqg (.reg [oQ 4 (.box (.t 1)), oQ 6 (.mv (.c (.int .i64 0)))])
  (.keep [0, 2, 4])) (.seq (.seq 
 (.seqg (.reg [oQ 17 (.fa 0 (.t 4)), oQ 18 (.ld 1 false (.t 17))])
  (.keep [0, 2, 4, 18])) 
 (.block 0 (.seq 
 (.seqg (.reg [oQ 20 (.bin .eql .num (.t 18) (.c (.int .i64 18))), oQ 19 (.mv (.t 20))])
  (.keep [0, 2, 4, 18, 19])) 
 (.cond (.t 19) (.seq 
 (.seqg (.drw [oQ 22 (.mv (.t 2)), oQ 23 (.ix 1 (.t 22) (.c (.int .i64 0))), oQ 24 (.ld 1 false (.t 23)), oQ 25 (.mv (.t 2)), oQ 26 (.ix 1 (.t 25) (.c (.int .i64 1))), oQ 27 (.ld 1 false (.t 26)), oQ 28 (.call F_points_Cons [(.t 24), (.t 27)]), oQ 21 (.mv (.t 28)), oQ 29 (.ext (.t 21) 0), oQ 30 (.ext (.t 21) 1), oQ 7 (.mv (.t 29)), oQ 8 (.mv (.t 30))])
  (.keep [7])) (.seq 
 (.seqg (.reg [oQ 31 (.mv (.t 7)), oQ 6 (.mv (.t 31))])
  (.keep [6])) .ret)) (.seq 
 (.seqg (.reg [oQ 33 (.bin .eql .num (.t 18) (.c (.int .i64 7))), oQ 32 (.mv (.t 33))])
  (.keep [0, 2, 4, 32])) 
 (.cond (.t 32) (.seq 
 (.seqg (.drb [oQ 34 (.mv (.t 0)), oQ 35 (.chk (.t 34)), oQ 36 (.fa 2 (.t 35)), oQ 37 (.ld 1 false (.t 36)), oQ 38 (.mv (.t 0)), oQ 39 (.chk (.t 38)), oQ 40 (.fa 1 (.t 39)), oQ 41 (.ld 1 false (.t 40)), oQ 42 (.fa 1 (.t 4)), oQ 43 (.ld 1 false (.t 42)), oQ 44 (.lk (.t 41) (.t 43)), oQ 45 (.ix 4 (.t 37) (.t 44)), oQ 46 (.ld 4 true (.t 45)), oE 9 (.alloc [.sl .full 1 [], .int .i64 0, .int .i64 0, .sl .full 1 []]), oN (.st 4 (.t 9) (.t 46))] [0, 1, 2, 3, 4, 5, 6, 7, 8, 9, 10, 11, 12, 13, 14])
  (.keep [2, 9])) (.seq 
 (.seqg (.reg [oQ 48 (.fa 0 (.t 9)), oQ 49 (.ld 1 false (.t 48)), oQ 50 (.mv (.t 2)), oQ 51 (.call F_tuples_Number [(.t 49), (.t 50)]), oQ 47 (.mv (.t 51)), oQ 52 (.ext (.t 47) 0), oQ 53 (.ext (.t 47) 1), oQ 10 (.mv (.t 52)), oQ 11 (.mv (.t 53))])
  (.keep [9, 10])) (.seq 
 (.seqg (.reg [oQ 55 (.fa 2 (.t 9)), oQ 56 (.ld 2 true (.t 55)), oQ 57 (.mv (.t 10)), oQ 58 (.call F_rows_Get [(.t 56), (.t 57)]), oQ 54 (.mv (.t 58)), oQ 59 (.ext (.t 54) 0), oQ 60 (.ext (.t 54) 1), oQ 12 (.mv (.t 59)), oQ 13 (.mv (.t 60))])
  (.keep [12])) (.seq 
 (.seqg (.reg [oQ 61 (.mv (.t 12)), oQ 6 (.mv (.t 61))])
  (.keep [6])) .ret)))) .skip)))))) (.seq 
 (.seqg (.reg [oQ 14 (.mv (.c (.int .i64 1)))])
  (.keep [2, 14])) (.seq (.seq 
 (.seqg (.reg [oQ 62 (.mv (.t 2)), oQ 63 (.len (.t 62)), oQ 64 (.mv (.c (.int .i64 0)))])
  (.keep [14, 62, 63, 64])) 
 (.block 1 
 (.gseq (.keep [14, 62, 63, 64]) (.loop (.seq 
 (.seqg (.reg [oQ 65 (.bin .lss .num (.t 64) (.t 63))])
  (.keep [14, 62, 63, 64, 65])) (.seq 
 (.cond (.t 65) .skip (.exit 1)) (.seq 
 (.block 2 (.seq 
 (.seqg (.reg [oQ 66 (.ix 1 (.t 62) (.t 64)), oQ 67 (.ld 1 false (.t 66)), oQ 16 (.mv (.t 67))])
  (.keep [14, 16, 62, 63, 64])) 
 (.seqg (.reg [oQ 68 (.mv (.t 14)), oQ 69 (.mv (.t 16)), oQ 70 (.mm false (.t 68) [(.t 69)]), oQ 14 (.mv (.t 70))])
  (.keep [14, 62, 63, 64])))) 
 (.seqg (.reg [oQ 71 (.bin .add .num (.t 64) (.c (.int .i64 1))), oQ 64 (.mv (.t 71))])
  (.keep [14, 62, 63, 64]))))))))) (.seq 
 (.seqg (.reg [oQ 72 (.mv (.t 14)), oQ 6 (.mv (.t 72))])
  (.keep [6])) .ret)))))
def r_abseval_sight_join : List ARes := [.t 6]
theorem w_abseval_sight_join : FnW Tryz.prog F_abseval_sight_join c_abseval_sight_join r_abseval_sight_join 73 := ⟨Tryz.f88, (Tryz.f88).body.get rfl, by kernel_rfl, Tryz.func88, by kernel_rfl, by kernel_rfl, by kernel_rfl, by kernel_rfl⟩
def c_fathomref17_Sight_cases : ACode := (.seq 
 (.seqg (.reg [oQ 4 (.box (.t 1)), oQ 6 (.mv (.c (.int .i64 0)))])
  (.keep [0, 2, 4])) (.seq 
 (.seqg (.reg [oQ 7 (.mv (.c (.int .i64 0)))])
  (.keep [0, 2, 4, 7])) (.seq 
 (.seqg (.reg [oQ 13 (.mv (.t 0)), oQ 14 (.fa 5 (.t 4)), oQ 15 (.ld 1 false (.t 14)), oQ 16 (.ix 7 (.t 15) (.c (.int .i64 0))), oQ 17 (.ld 7 true (.t 16)), oQ 18 (.mv (.t 2)), oE 19 (.call (.c (.fn F_fathomref17_Sight_Expr [])) [(.t 13), (.t 17), (.t 18)]), oQ 20 (.call F_fathomref15_Cases [(.t 19)]), oQ 8 (.mv (.t 20))])
  (.keep [0, 2, 4, 7, 8])) (.seq (.seq 
 (.seqg (.reg [oQ 9 (.mv (.c (.int .i64 0)))])
  (.keep [0, 2, 4, 7, 8, 9])) 
 (.block 0 
 (.gseq (.keep [0, 2, 4, 7, 8, 9]) (.loop (.seq (.seq 
 (.seqg (.reg [oQ 21 (.mv (.t 9)), oQ 22 (.mv (.t 8)), oQ 23 (.len (.t 22)), oQ 24 (.bin .lss .num (.t 21) (.t 23))])
  (.keep [0, 2, 4, 7, 8, 9, 24])) 
 (.cond (.t 24) .skip (.exit 0))) (.seq 
 (.block 1 (.seq 
 (.seqg (.reg [oQ 27 (.mv (.t 8)), oQ 28 (.mv (.t 9)), oQ 29 (.ix 3 (.t 27) (.t 28)), oQ 30 (.ld 3 true (.t 29)), oE 10 (.alloc [.bool false, .int .i64 0, .int .i64 0]), oN (.st 3 (.t 10) (.t 30))])
  (.keep [0, 2, 4, 7, 8, 9, 10])) (.seq 
 (.seqg (.reg [oQ 11 (.mv (.c (.int .i64 0)))])
  (.keep [0, 2, 4, 7, 8, 9, 10])) (.seq (.seq 
 (.seqg (.reg [oQ 31 (.fa 0 (.t 10)), oQ 32 (.ld 1 false (.t 31))])
  (.keep [0, 2, 4, 7, 8, 9, 10, 32])) 
 (.cond (.t 32) 
 (.seqg (.reg [oQ 33 (.mv (.t 0)), oQ 34 (.fa 5 (.t 4)), oQ 35 (.ld 1 false (.t 34)), oQ 36 (.ix 7 (.t 35) (.c (.int .i64 1))), oQ 37 (.ld 7 true (.t 36)), oQ 38 (.mv (.t 2)), oE 39 (.call (.c (.fn F_fathomref17_Sight_Expr [])) [(.t 33), (.t 37), (.t 38)]), oQ 11 (.mv (.t 39))])
  (.keep [0, 2, 4, 7, 8, 9, 11])) (.seq 
 (.seqg (.reg [oQ 40 (.mv (.t 2)), oQ 41 (.fa 1 (.t 4)), oQ 42 (.ld 1 false (.t 41)), oQ 43 (.fa 1 (.t 10)), oQ 44 (.ld 1 false (.t 43)), oQ 45 (.call F_fathomref17_with [(.t 40), (.t 42), (.t 44)]), oQ 12 (.mv (.t 45))])
  (.keep [0, 2, 4, 7, 8, 9, 10, 12])) 
 (.seqg (.drw [oQ 46 (.mv (.t 0)), oQ 47 (.fa 5 (.t 4)), oQ 48 (.ld 1 false (.t 47)), oQ 49 (.ix 7 (.t 48) (.c (.int .i64 2))), oQ 50 (.ld 7 true (.t 49)), oQ 51 (.mv (.t 12)), oQ 52 (.fa 2 (.t 4)), oQ 53 (.ld 1 false (.t 52)), oQ 54 (.fa 2 (.t 10)), oQ 55 (.ld 1 false (.t 54)), oQ 56 (.call F_fathomref17_with [(.t 51), (.t 53), (.t 55)]), oE 57 (.call (.c (.fn F_fathomref17_Sight_Expr [])) [(.t 46), (.t 50), (.t 56)]), oQ 11 (.mv (.t 57))])
  (.keep [0, 2, 4, 7, 8, 9, 11]))))) 
 (.seqg (.reg [oQ 58 (.mv (.t 7)), oQ 59 (.mv (.t 11)), oQ 60 (.mm true (.t 58) [(.t 59)]), oQ 7 (.mv (.t 60))])
  (.keep [0, 2, 4, 7, 8, 9])))))) 
 (.seqg (.reg [oQ 25 (.mv (.t 9)), oQ 26 (.bin .add .num (.t 25) (.c (.int .i64 1))), oQ 9 (.mv (.t 26))])
  (.keep [0, 2, 4, 7, 8, 9])))))))) (.seq 
 (.seqg (.reg [oQ 61 (.mv (.t 7)), oQ 6 (.mv (.t 61))])
  (.keep [6])) .ret)))))
def r_fathomref17_Sight_cases : List ARes := [.t 6]
theorem w_fathomref17_Sight_cases : FnW Tryz.prog F_fathomref17_Sight_cases c_fathomref17_Sight_cases r_fathomref17_Sight_cases 62 := ⟨Tryz.f89, (Tryz.f89).body.get rfl, by kernel_rfl, Tryz.func89, by kernel_rfl, by kernel_rfl, by kernel_rfl, by kernel_rfl⟩
def c_fathomref17_with : ACode := (.seq 
 (.seqg (.reg [oQ 6 (.mv (.c (.sl .full 2 [])))])
  (.keep [0, 1, 2])) (.seq 
 (.seqg (.seqg (.reg [oQ 7 (.mv (.c (.sl .full 2 [])))])
  (.keep [0, 1, 2, 7]))
  (.mint 7)) (.seq 
 (.seqg (.reg [oQ 8 (.mv (.t 7)), oQ 9 (.mv (.t 0)), oE 10 (.app 2 24 (.t 8) (.t 9)), oQ 7 (.mv (.t 10))])
  (.keep [1, 2, 7])) (.seq 
 (.seqg (.reg [oQ 11 (.mv (.t 7)), oQ 12 (.mv (.t 1)), oQ 13 (.mv (.t 2)), oQ 14 (.bld [.str ⟨#[]⟩, .int .i64 0] [(0, 1, (.t 12)), (1, 1, (.t 13))]), oQ 15 (.bsl 2 [(.t 14)]), oE 16 (.app 2 24 (.t 11) (.t 15)), oQ 6 (.mv (.t 16))])
  (.keep [6])) .ret))))
def r_fathomref17_with : List ARes := [.t 6]
theorem w_fathomref17_with : FnW Tryz.prog F_fathomref17_with c_fathomref17_with r_fathomref17_with 17 := ⟨Tryz.f90, (Tryz.f90).body.get rfl, by kernel_rfl, Tryz.func90, by kernel_rfl, by kernel_rfl, by kernel_rfl, by kernel_rfl⟩
def c_fathomref17_Sight_parts : ACode := (.seq 
 (.seqg (.reg [oQ 4 (.box (.t 1)), oQ 6 (.mv (.c (.int .i64 0)))])
  (.keep [0, 2, 4])) (.seq (.seq 
 (.seqg (.reg [oQ 12 (.fa 0 (.t 4)), oQ 13 (.ld 1 false (.t 12))])
  (.keep [0, 2, 4, 13])) 
 (.block 0 (.seq 
 (.seqg (.reg [oQ 15 (.bin .eql .num (.t 13) (.c (.int .i64 18))), oQ 14 (.mv (.t 15))])
  (.keep [0, 2, 4, 13, 14])) 
 (.cond (.t 14) (.seq 
 (.seqg (.drw [oQ 16 (.mv (.t 2)), oQ 17 (.ix 1 (.t 16) (.c (.int .i64 0))), oQ 18 (.ld 1 false (.t 17)), oQ 19 (.mv (.t 2)), oQ 20 (.ix 1 (.t 19) (.c (.int .i64 1))), oQ 21 (.ld 1 false (.t 20)), oQ 22 (.call F_fathomref15_Cons [(.t 18), (.t 21)]), oQ 6 (.mv (.t 22))])
  (.keep [6])) .ret) (.seq 
 (.seqg (.reg [oQ 24 (.bin .eql .num (.t 13) (.c (.int .i64 7))), oQ 23 (.mv (.t 24))])
  (.keep [0, 2, 4, 23])) 
 (.cond (.t 23) (.seq 
 (.seqg (.drw [oQ 25 (.mv (.t 0)), oQ 26 (.chk (.t 25)), oQ 27 (.fa 0 (.t 26)), oQ 28 (.ld 1 true (.t 27)), oQ 29 (.fa 1 (.t 4)), oQ 30 (.ld 1 false (.t 29)), oQ 31 (.call F_fathomref17_number [(.t 28), (.t 30)]), oQ 7 (.mv (.t 31))])
  (.keep [0, 2, 7])) (.seq 
 (.seqg (.reg [oQ 33 (.mv (.t 0)), oQ 34 (.chk (.t 33)), oQ 35 (.fa 0 (.t 34)), oQ 36 (.fa 0 (.t 35)), oQ 37 (.ld 1 false (.t 36)), oQ 38 (.mv (.t 7)), oQ 39 (.ix 11 (.t 37) (.t 38)), oQ 40 (.ld 11 true (.t 39)), oQ 41 (.call F_fathomref17_Types [(.t 40)]), oQ 42 (.mv (.t 2)), oQ 43 (.call F_fathomref16_Number [(.t 41), (.t 42)]), oQ 32 (.mv (.t 43)), oQ 44 (.ext (.t 32) 0), oQ 45 (.ext (.t 32) 1), oQ 8 (.mv (.t 44)), oQ 9 (.mv (.t 45))])
  (.keep [0, 7, 8])) (.seq 
 (.seqg (.reg [oQ 46 (.mv (.t 0)), oQ 47 (.chk (.t 46)), oQ 48 (.fa 1 (.t 47)), oQ 49 (.ld 1 false (.t 48)), oQ 50 (.mv (.t 7)), oQ 51 (.ix 1 (.t 49) (.t 50)), oQ 52 (.ld 1 false (.t 51)), oQ 53 (.mv (.t 8)), oQ 54 (.ix 1 (.t 52) (.t 53)), oQ 55 (.ld 1 false (.t 54)), oQ 6 (.mv (.t 55))])
  (.keep [6])) .ret))) .skip)))))) (.seq 
 (.seqg (.reg [oQ 56 (.mv (.t 2)), oQ 57 (.ix 1 (.t 56) (.c (.int .i64 0))), oQ 58 (.ld 1 false (.t 57)), oQ 10 (.mv (.t 58))])
  (.keep [2, 10])) (.seq (.seq 
 (.seqg (.reg [oQ 11 (.mv (.c (.int .i64 0)))])
  (.keep [2, 10, 11])) 
 (.block 1 
 (.gseq (.keep [2, 10, 11]) (.loop (.seq (.seq 
 (.seqg (.reg [oQ 59 (.mv (.t 11)), oQ 60 (.mv (.t 2)), oQ 61 (.len (.t 60)), oQ 62 (.bin .lss .num (.t 59) (.t 61))])
  (.keep [2, 10, 11, 62])) 
 (.cond (.t 62) .skip (.exit 1))) (.seq 
 (.block 2 
 (.seqg (.reg [oQ 65 (.mv (.t 10)), oQ 66 (.mv (.t 2)), oQ 67 (.mv (.t 11)), oQ 68 (.ix 1 (.t 66) (.t 67)), oQ 69 (.ld 1 false (.t 68)), oQ 70 (.mm false (.t 65) [(.t 69)]), oQ 10 (.mv (.t 70))])
  (.keep [2, 10, 11]))) 
 (.seqg (.reg [oQ 63 (.mv (.t 11)), oQ 64 (.bin .add .num (.t 63) (.c (.int .i64 1))), oQ 11 (.mv (.t 64))])
  (.keep [2, 10, 11])))))))) (.seq 
 (.seqg (.reg [oQ 71 (.mv (.t 10)), oQ 6 (.mv (.t 71))])
  (.keep [6])) .ret)))))
def r_fathomref17_Sight_parts : List ARes := [.t 6]
theorem w_fathomref17_Sight_parts : FnW Tryz.prog F_fathomref17_Sight_parts c_fathomref17_Sight_parts r_fathomref17_Sight_parts 72 := ⟨Tryz.f91, (Tryz.f91).body.get rfl, by kernel_rfl, Tryz.func91, by kernel_rfl, by kernel_rfl, by kernel_rfl, by kernel_rfl⟩
def c_fathomref03_run : ACode := (.seq 
 (.seqg (.reg [oQ 4 (.mv (.c (.int .i64 0)))])
  (.keep [0, 1])) (.seq 
 (.seqg (.reg [oQ 5 (.mv (.c (.int .i64 0)))])
  (.keep [0, 1, 5])) (.seq 
 (.block 0 
 (.gseq (.keep [0, 1, 5]) (.loop (.seq (.seq 
 (.seqg (.reg [oQ 6 (.mv (.t 1)), oQ 7 (.mv (.t 5)), oQ 8 (.bin .add .num (.t 6) (.t 7)), oQ 9 (.mv (.t 0)), oQ 10 (.len (.t 9)), oQ 11 (.bin .lss .num (.t 8) (.t 10)), oQ 12 (.mv (.t 11)), oTQ 13 12 (.mv (.t 0)), oTQ 14 12 (.mv (.t 1)), oTQ 15 12 (.mv (.t 5)), oTQ 16 12 (.bin .add .num (.t 14) (.t 15)), oTQ 17 12 (.ix 1 (.t 13) (.t 16)), oTQ 18 12 (.ld 1 false (.t 17)), oTQ 19 12 (.call F_fathomref03_letter [(.t 18)]), oTQ 20 12 (.mv (.t 19)), oFQ 21 20 (.mv (.t 0)), oFQ 22 20 (.mv (.t 1)), oFQ 23 20 (.mv (.t 5)), oFQ 24 20 (.bin .add .num (.t 22) (.t 23)), oFQ 25 20 (.ix 1 (.t 21) (.t 24)), oFQ 26 20 (.ld 1 false (.t 25)), oFQ 27 20 (.call F_fathomref03_digit [(.t 26)]), oTQ 28 12 (.pick (.t 20) (.c (.bool true)) (.t 27)), oTQ 29 12 (.mv (.t 28)), oFQ 30 29 (.mv (.t 0)), oFQ 31 29 (.mv (.t 1)), oFQ 32 29 (.mv (.t 5)), oFQ 33 29 (.bin .add .num (.t 31) (.t 32)), oFQ 34 29 (.ix 1 (.t 30) (.t 33)), oFQ 35 29 (.ld 1 false (.t 34)), oFQ 36 29 (.bin .eql .num (.t 35) (.c (.int .u8 95))), oTQ 37 12 (.pick (.t 29) (.c (.bool true)) (.t 36)), oQ 38 (.pick (.t 12) (.t 37) (.c (.bool false)))])
  (.keep [0, 1, 5, 38])) 
 (.cond (.t 38) .skip (.exit 0))) 
 (.block 1 
 (.seqg (.reg [oQ 39 (.mv (.t 5)), oQ 40 (.bin .add .num (.t 39) (.c (.int .i64 1))), oQ 5 (.mv (.t 40))])
  (.keep [0, 1, 5]))))))) (.seq 
 (.seqg (.reg [oQ 41 (.mv (.t 5)), oQ 4 (.mv (.t 41))])
  (.keep [4])) .ret))))
def r_fathomref03_run : List ARes := [.t 4]
theorem w_fathomref03_run : FnW Tryz.prog F_fathomref03_run c_fathomref03_run r_fathomref03_run 42 := ⟨Tryz.f92, (Tryz.f92).body.get rfl, by kernel_rfl, Tryz.func92, by kernel_rfl, by kernel_rfl, by kernel_rfl, by kernel_rfl⟩
def c_fathomref03_digit : ACode := (.seq 
 (.seqg (.reg [oQ 2 (.mv (.c (.bool false)))])
  (.keep [0])) (.seq 
 (.seqg (.reg [oQ 3 (.mv (.t 0)), oQ 4 (.bin .geq .num (.t 3) (.c (.int .u8 48))), oQ 5 (.mv (.t 4)), oTQ 6 5 (.mv (.t 0)), oTQ 7 5 (.bin .leq .num (.t 6) (.c (.int .u8 57))), oQ 8 (.pick (.t 5) (.t 7) (.c (.bool false))), oQ 2 (.mv (.t 8))])
  (.keep [2])) .ret))
def r_fathomref03_digit : List ARes := [.t 2]
theorem w_fathomref03_digit : FnW Tryz.prog F_fathomref03_digit c_fathomref03_digit r_fathomref03_digit 9 := ⟨Tryz.f93, (Tryz.f93).body.get rfl, by kernel_rfl, Tryz.func93, by kernel_rfl, by kernel_rfl, by kernel_rfl, by kernel_rfl⟩
def c_fathomref01_Parse : ACode := (.seq 
 (.seqg (.reg [oE 2 (.alloc [.int .i64 0, .int .i64 0]), oQ 3 (.mv (.c (.int .i64 0)))])
  (.keep [0, 2])) (.seq 
 (.seqg (.reg [oQ 13 (.mv (.t 0)), oQ 14 (.call F_fathomref01_whole [(.t 13)]), oQ 12 (.mv (.t 14)), oQ 15 (.ext (.t 12) 0), oQ 16 (.ext (.t 12) 1), oQ 4 (.mv (.t 15)), oQ 5 (.mv (.t 16))])
  (.keep [0, 2, 4, 5])) (.seq (.seq 
 (.seqg (.reg [oQ 17 (.mv (.t 5)), oQ 18 (.bin .eql .num (.t 17) (.c (.int .i64 0)))])
  (.keep [0, 2, 4, 5, 18])) 
 (.cond (.t 18) (.seq 
 (.seqg (.reg [oQ 19 (.bld [.int .i64 0, .int .i64 0] []), oN (.st 2 (.t 2) (.t 19)), oQ 3 (.mv (.c (.int .i64 10)))])
  (.keep [2, 3])) .ret) .skip)) (.seq 
 (.seqg (.reg [oQ 20 (.mv (.t 4)), oQ 21 (.bld [.int .i64 0, .int .i64 0] [(0, 1, (.t 20))]), oE 6 (.alloc [.int .i64 0, .int .i64 0]), oN (.st 2 (.t 6) (.t 21))])
  (.keep [0, 2, 4, 5, 6])) (.seq 
 (.seqg (.reg [oQ 22 (.mv (.t 0)), oQ 23 (.mv (.t 5)), oQ 24 (.slcs (.t 22) (some (.t 23)) none), oQ 7 (.mv (.t 24))])
  (.keep [0, 2, 4, 6, 7])) (.seq (.seq 
 (.seqg (.reg [oQ 25 (.mv (.t 7)), oQ 26 (.bin .eql .other (.t 25) (.c (.str ⟨#[105]⟩)))])
  (.keep [0, 2, 4, 6, 7, 26])) 
 (.cond (.t 26) 
 (.seqg (.reg [oQ 27 (.mv (.t 4)), oQ 28 (.bld [.int .i64 0, .int .i64 0] [(1, 1, (.t 27))]), oN (.st 2 (.t 6) (.t 28))])
  (.keep [0, 2, 6])) (.seq 
 (.seqg (.reg [oQ 29 (.mv (.t 7)), oQ 30 (.bin .neq .other (.t 29) (.c (.str ⟨#[]⟩)))])
  (.keep [0, 2, 6, 7, 30])) 
 (.cond (.t 30) (.seq (.seq 
 (.seqg (.reg [oQ 31 (.mv (.t 7)), oQ 32 (.ixs (.t 31) (.c (.int .i64 0))), oQ 33 (.bin .eql .num (.t 32) (.c (.int .u8 43)))])
  (.keep [0, 2, 6, 7, 33])) 
 (.cond (.t 33) 
 (.seqg (.reg [oQ 34 (.mv (.t 7)), oQ 35 (.slcs (.t 34) (some (.c (.int .i64 1))) none), oQ 7 (.mv (.t 35))])
  (.keep [0, 2, 6, 7])) .skip)) (.seq 
 (.seqg (.reg [oQ 37 (.mv (.t 7)), oQ 38 (.call F_fathomref01_whole [(.t 37)]), oQ 36 (.mv (.t 38)), oQ 39 (.ext (.t 36) 0), oQ 40 (.ext (.t 36) 1), oQ 8 (.mv (.t 39)), oQ 9 (.mv (.t 40))])
  (.keep [0, 2, 6, 8])) 
 (.seqg (.reg [oQ 41 (.mv (.t 8)), oQ 42 (.fa 1 (.t 6)), oN (.st 1 (.t 42) (.t 41))])
  (.keep [0, 2, 6])))) .skip)))) (.seq 
 (.seqg (.reg [oQ 44 (.ld 2 true (.t 6)), oQ 45 (.call F_fathomref01_in [(.t 44)]), oQ 43 (.mv (.t 45)), oQ 46 (.ext (.t 43) 0), oQ 47 (.ext (.t 43) 1), oE 10 (.alloc [.int .i64 0, .int .i64 0]), oN (.st 2 (.t 10) (.t 46)), oQ 11 (.mv (.t 47))])
  (.keep [0, 2, 6, 11])) (.seq (.seq 
 (.seqg (.reg [oQ 48 (.mv (.t 11)), oQ 49 (.bin .neq .num (.t 48) (.c (.int .i64 0))), oQ 50 (.mv (.t 49)), oFQ 51 50 (.ld 2 true (.t 6)), oFQ 52 50 (.call F_fathomref01_Text [(.t 51)]), oFQ 53 50 (.mv (.t 0)), oFQ 54 50 (.bin .neq .other (.t 52) (.t 53)), oQ 55 (.pick (.t 50) (.c (.bool true)) (.t 54))])
  (.keep [2, 6, 55])) 
 (.cond (.t 55) (.seq 
 (.seqg (.reg [oQ 56 (.bld [.int .i64 0, .int .i64 0] []), oN (.st 2 (.t 2) (.t 56)), oQ 3 (.mv (.c (.int .i64 10)))])
  (.keep [2, 3])) .ret) .skip)) (.seq 
 (.seqg (.reg [oQ 57 (.ld 2 true (.t 6)), oN (.st 2 (.t 2) (.t 57)), oQ 3 (.mv (.c (.int .i64 0)))])
  (.keep [2, 3])) .ret)))))))))
def r_fathomref01_Parse : List ARes := [.c 2 2 true, .t 3]
theorem w_fathomref01_Parse : FnW Tryz.prog F_fathomref01_Parse c_fathomref01_Parse r_fathomref01_Parse 58 := ⟨Tryz.f94, (Tryz.f94).body.get rfl, by kernel_rfl, Tryz.func94, by kernel_rfl, by kernel_rfl, by kernel_rfl, by kernel_rfl⟩
def c_fathomref01_Num_Z : ACode := (.seq 
 (.seqg (.reg [oQ 1 (.box (.t 0)), oQ 2 (.mv (.c (.cpx 0 0)))])
  (.keep [1])) (.seq 
 (.seqg (.reg [oQ 3 (.fa 0 (.t 1)), oQ 4 (.ld 1 false (.t 3)), oQ 5 (.cvf (.t 4)), oQ 6 (.fa 1 (.t 1)), oQ 7 (.ld 1 false (.t 6)), oQ 8 (.cvf (.t 7)), oQ 9 (.cpx (.t 5) (.t 8)), oQ 2 (.mv (.t 9))])
  (.keep [2])) .ret))
def r_fathomref01_Num_Z : List ARes := [.t 2]
theorem w_fathomref01_Num_Z : FnW Tryz.prog F_fathomref01_Num_Z c_fathomref01_Num_Z r_fathomref01_Num_Z 10 := ⟨Tryz.f95, (Tryz.f95).body.get rfl, by kernel_rfl, Tryz.func95, by kernel_rfl, by kernel_rfl, by kernel_rfl, by kernel_rfl⟩
def c_fathomref03_Reserved : ACode := (.seq 
 (.seqg (.reg [oQ 2 (.mv (.c (.bool false)))])
  (.keep [0])) (.seq 
 (.seqg (.reg [oQ 5 (.call F_fathomref03_Words []), oQ 3 (.mv (.t 5))])
  (.keep [0, 3])) (.seq (.seq 
 (.seqg (.reg [oQ 4 (.mv (.c (.int .i64 0)))])
  (.keep [0, 3, 4])) 
 (.block 0 
 (.gseq (.keep [0, 3, 4]) (.loop (.seq (.seq 
 (.seqg (.reg [oQ 6 (.mv (.t 4)), oQ 7 (.mv (.t 3)), oQ 8 (.len (.t 7)), oQ 9 (.bin .lss .num (.t 6) (.t 8))])
  (.keep [0, 3, 4, 9])) 
 (.cond (.t 9) .skip (.exit 0))) (.seq 
 (.block 1 (.seq 
 (.seqg (.reg [oQ 12 (.mv (.t 3)), oQ 13 (.mv (.t 4)), oQ 14 (.ix 1 (.t 12) (.t 13)), oQ 15 (.ld 1 false (.t 14)), oQ 16 (.mv (.t 0)), oQ 17 (.bin .eql .other (.t 15) (.t 16))])
  (.keep [0, 3, 4, 17])) 
 (.cond (.t 17) (.seq 
 (.seqg (.reg [oQ 2 (.mv (.c (.bool true)))])
  (.keep [2])) .ret) .skip))) 
 (.seqg (.reg [oQ 10 (.mv (.t 4)), oQ 11 (.bin .add .num (.t 10) (.c (.int .i64 1))), oQ 4 (.mv (.t 11))])
  (.keep [0, 3, 4])))))))) (.seq 
 (.seqg (.reg [oQ 2 (.mv (.c (.bool false)))])
  (.keep [2])) .ret))))
def r_fathomref03_Reserved : List ARes := [.t 2]
theorem w_fathomref03_Reserved : FnW Tryz.prog F_fathomref03_Reserved c_fathomref03_Reserved r_fathomref03_Reserved 18 := ⟨Tryz.f96, (Tryz.f96).body.get rfl, by kernel_rfl, Tryz.func96, by kernel_rfl, by kernel_rfl, by kernel_rfl, by kernel_rfl⟩
def c_fathomref03_sign : ACode := (.seq 
 (.seqg (.reg [oQ 4 (.mv (.c (.int .i64 0)))])
  (.keep [0, 1])) (.seq (.seq 
 (.seqg (.reg [oQ 5 (.mv (.t 1)), oQ 6 (.bin .add .num (.t 5) (.c (.int .i64 1))), oQ 7 (.mv (.t 0)), oQ 8 (.len (.t 7)), oQ 9 (.bin .lss .num (.t 6) (.t 8)), oQ 10 (.mv (.t 9)), oTQ 11 10 (.mv (.t 0)), oTQ 12 10 (.mv (.t 1)), oTQ 13 10 (.ix 1 (.t 11) (.t 12)), oTQ 14 10 (.ld 1 false (.t 13)), oTQ 15 10 (.bin .eql .num (.t 14) (.c (.int .u8 45))), oTQ 16 10 (.mv (.t 15)), oTQ 17 16 (.mv (.t 0)), oTQ 18 16 (.mv (.t 1)), oTQ 19 16 (.bin .add .num (.t 18) (.c (.int .i64 1))), oTQ 20 16 (.ix 1 (.t 17) (.t 19)), oTQ 21 16 (.ld 1 false (.t 20)), oTQ 22 16 (.bin .eql .num (.t 21) (.c (.int .u8 62))), oTQ 23 10 (.pick (.t 16) (.t 22) (.c (.bool false))), oTQ 24 10 (.mv (.t 23)), oFQ 25 24 (.mv (.t 0)), oFQ 26 24 (.mv (.t 1)), oFQ 27 24 (.ix 1 (.t 25) (.t 26)), oFQ 28 24 (.ld 1 false (.t 27)), oFQ 29 24 (.bin .eql .num (.t 28) (.c (.int .u8 61))), oFQ 30 24 (.mv (.t 29)), oTQ 31 30 (.mv (.t 0)), oTQ 32 30 (.mv (.t 1)), oTQ 33 30 (.bin .add .num (.t 32) (.c (.int .i64 1))), oTQ 34 30 (.ix 1 (.t 31) (.t 33)), oTQ 35 30 (.ld 1 false (.t 34)), oTQ 36 30 (.bin .eql .num (.t 35) (.c (.int .u8 61))), oFQ 37 24 (.pick (.t 30) (.t 36) (.c (.bool false))), oTQ 38 10 (.pick (.t 24) (.c (.bool true)) (.t 37)), oQ 39 (.pick (.t 10) (.t 38) (.c (.bool false)))])
  (.keep [0, 1, 39])) 
 (.cond (.t 39) (.seq 
 (.seqg (.reg [oQ 4 (.mv (.c (.int .i64 2)))])
  (.keep [4])) .ret) .skip)) (.seq (.seq 
 (.seqg (.reg [oQ 40 (.mv (.t 0)), oQ 41 (.mv (.t 1)), oQ 42 (.ix 1 (.t 40) (.t 41)), oQ 43 (.ld 1 false (.t 42))])
  (.keep [43])) 
 (.block 0 (.seq (.seq 
 (.seqg (.reg [oQ 45 (.bin .eql .num (.t 43) (.c (.int .u8 40))), oQ 44 (.mv (.t 45))])
  (.keep [43, 44])) 
 (.cond (.t 44) .skip (.seq 
 (.seqg (.reg [oQ 46 (.bin .eql .num (.t 43) (.c (.int .u8 41))), oQ 44 (.mv (.t 46))])
  (.keep [43, 44])) 
 (.cond (.t 44) .skip (.seq 
 (.seqg (.reg [oQ 47 (.bin .eql .num (.t 43) (.c (.int .u8 44))), oQ 44 (.mv (.t 47))])
  (.keep [43, 44])) 
 (.cond (.t 44) .skip (.seq 
 (.seqg (.reg [oQ 48 (.bin .eql .num (.t 43) (.c (.int .u8 58))), oQ 44 (.mv (.t 48))])
  (.keep [43, 44])) 
 (.cond (.t 44) .skip (.seq 
 (.seqg (.reg [oQ 49 (.bin .eql .num (.t 43) (.c (.int .u8 59))), oQ 44 (.mv (.t 49))])
  (.keep [43, 44])) 
 (.cond (.t 44) .skip (.seq 
 (.seqg (.reg [oQ 50 (.bin .eql .num (.t 43) (.c (.int .u8 61))), oQ 44 (.mv (.t 50))])
  (.keep [43, 44])) 
 (.cond (.t 44) .skip (.seq 
 (.seqg (.reg [oQ 51 (.bin .eql .num (.t 43) (.c (.int .u8 43))), oQ 44 (.mv (.t 51))])
  (.keep [43, 44])) 
 (.cond (.t 44) .skip (.seq 
 (.seqg (.reg [oQ 52 (.bin .eql .num (.t 43) (.c (.int .u8 45))), oQ 44 (.mv (.t 52))])
  (.keep [43, 44])) 
 (.cond (.t 44) .skip (.seq 
 (.seqg (.reg [oQ 53 (.bin .eql .num (.t 43) (.c (.int .u8 42))), oQ 44 (.mv (.t 53))])
  (.keep [43, 44])) 
 (.cond (.t 44) .skip (.seq 
 (.seqg (.reg [oQ 54 (.bin .eql .num (.t 43) (.c (.int .u8 47))), oQ 44 (.mv (.t 54))])
  (.keep [43, 44])) 
 (.cond (.t 44) .skip (.seq 
 (.seqg (.reg [oQ 55 (.bin .eql .num (.t 43) (.c (.int .u8 60))), oQ 44 (.mv (.t 55))])
  (.keep [43, 44])) 
 (.cond (.t 44) .skip 
 (.seqg (.reg [oQ 56 (.bin .eql .num (.t 43) (.c (.int .u8 124))), oQ 44 (.mv (.t 56))])
  (.keep [44])))))))))))))))))))))))) 
 (.cond (.t 44) (.seq 
 (.seqg (.reg [oQ 4 (.mv (.c (.int .i64 1)))])
  (.keep [4])) .ret) .skip)))) (.seq 
 (.seqg (.reg [oQ 4 (.mv (.c (.int .i64 0)))])
  (.keep [4])) .ret))))
def r_fathomref03_sign : List ARes := [.t 4]
theorem w_fathomref03_sign : FnW Tryz.prog F_fathomref03_sign c_fathomref03_sign r_fathomref03_sign 57 := ⟨Tryz.f97, (Tryz.f97).body.get rfl, by kernel_rfl, Tryz.func97, by kernel_rfl, by kernel_rfl, by kernel_rfl, by kernel_rfl⟩
def c_fathomref04_reader_fail : ACode := (.seq 
 (.seqg (.reg [oQ 4 (.mv (.t 0)), oQ 5 (.chk (.t 4)), oQ 6 (.fa 2 (.t 5)), oQ 7 (.ld 1 false (.t 6)), oQ 8 (.bin .eql .num (.t 7) (.c (.int .i64 0)))])
  (.keep [0, 1, 8])) 
 (.cond (.t 8) (.seq 
 (.seqg (.reg [oQ 9 (.mv (.t 0)), oQ 10 (.mv (.t 1)), oQ 11 (.chk (.t 9)), oQ 12 (.fa 2 (.t 11)), oN (.st 1 (.t 12) (.t 10))])
  (.keep [0])) 
 (.seqg (.reg [oQ 13 (.mv (.t 0)), oQ 14 (.mv (.t 0)), oE 15 (.call (.c (.fn F_fathomref04_reader_next [])) [(.t 14)]), oQ 16 (.fld 3 1 false (.t 15)), oQ 17 (.chk (.t 13)), oQ 18 (.fa 3 (.t 17)), oN (.st 1 (.t 18) (.t 16))])
  (.keep []))) .skip))
def r_fathomref04_reader_fail : List ARes := []
theorem w_fathomref04_reader_fail : FnW Tryz.prog F_fathomref04_reader_fail c_fathomref04_reader_fail r_fathomref04_reader_fail 19 := ⟨Tryz.f98, (Tryz.f98).body.get rfl, by kernel_rfl, Tryz.func98, by kernel_rfl, by kernel_rfl, by kernel_rfl, by kernel_rfl⟩
def c_fathomref04_reader_name : ACode := (.seq 
 (.seqg (.reg [oE 2 (.alloc [.int .i64 0, .str ⟨#[]⟩, .cpx 0 0, .int .i64 0])])
  (.keep [0, 2])) (.seq 
 (.seqg (.reg [oQ 4 (.mv (.t 0)), oE 5 (.call (.c (.fn F_fathomref04_reader_next [])) [(.t 4)]), oE 3 (.alloc [.int .i64 0, .str ⟨#[]⟩, .cpx 0 0, .int .i64 0]), oN (.st 4 (.t 3) (.t 5))])
  (.keep [0, 2, 3])) (.seq (.seq 
 (.seqg (.reg [oQ 6 (.mv (.t 0)), oQ 7 (.chk (.t 6)), oQ 8 (.fa 2 (.t 7)), oQ 9 (.ld 1 false (.t 8)), oQ 10 (.bin .neq .num (.t 9) (.c (.int .i64 0))), oQ 11 (.mv (.t 10)), oFQ 12 11 (.fa 0 (.t 3)), oFQ 13 11 (.ld 1 false (.t 12)), oFQ 14 11 (.bin .neq .num (.t 13) (.c (.int .i64 0))), oQ 15 (.pick (.t 11) (.c (.bool true)) (.t 14))])
  (.keep [0, 2, 3, 15])) 
 (.cond (.t 15) (.seq 
 (.seqg (.reg [oQ 16 (.mv (.t 0)), oE 17 (.call (.c (.fn F_fathomref04_reader_fail [])) [(.t 16), (.c (.int .i64 21))])])
  (.keep [2])) (.seq 
 (.seqg (.reg [oQ 18 (.bld [.int .i64 0, .str ⟨#[]⟩, .cpx 0 0, .int .i64 0] []), oN (.st 4 (.t 2) (.t 18))])
  (.keep [2])) .ret)) .skip)) (.seq 
 (.seqg (.reg [oQ 19 (.mv (.t 0)), oQ 20 (.chk (.t 19)), oQ 21 (.fa 1 (.t 20)), oQ 22 (.ld 1 false (.t 21)), oQ 23 (.bin .add .num (.t 22) (.c (.int .i64 1))), oQ 24 (.chk (.t 19)), oQ 25 (.fa 1 (.t 24)), oN (.st 1 (.t 25) (.t 23))])
  (.keep [2, 3])) (.seq 
 (.seqg (.reg [oQ 26 (.ld 4 true (.t 3)), oN (.st 4 (.t 2) (.t 26))])
  (.keep [2])) .ret)))))
def r_fathomref04_reader_name : List ARes := [.c 2 4 true]
theorem w_fathomref04_reader_name : FnW Tryz.prog F_fathomref04_reader_name c_fathomref04_reader_name r_fathomref04_reader_name 27 := ⟨Tryz.f99, (Tryz.f99).body.get rfl, by kernel_rfl, Tryz.func99, by kernel_rfl, by kernel_rfl, by kernel_rfl, by kernel_rfl⟩
def c_fathomref04_reader_want : ACode := (.seq 
 (.seqg (.reg [oQ 4 (.mv (.t 0)), oQ 5 (.mv (.t 1)), oE 6 (.call (.c (.fn F_fathomref04_reader_take [])) [(.t 4), (.t 5)]), oQ 7 (.not (.t 6))])
  (.keep [0, 7])) 
 (.cond (.t 7) 
 (.seqg (.reg [oQ 8 (.mv (.t 0)), oE 9 (.call (.c (.fn F_fathomref04_reader_fail [])) [(.t 8), (.c (.int .i64 21))])])
  (.keep [])) .skip))
def r_fathomref04_reader_want : List ARes := []
theorem w_fathomref04_reader_want : FnW Tryz.prog F_fathomref04_reader_want c_fathomref04_reader_want r_fathomref04_reader_want 10 := ⟨Tryz.f100, (Tryz.f100).body.get rfl, by kernel_rfl, Tryz.func100, by kernel_rfl, by kernel_rfl, by kernel_rfl, by kernel_rfl⟩
def c_fathomref04_reader_is : ACode := (.seq 
 (.seqg (.reg [oQ 4 (.mv (.c (.bool false)))])
  (.keep [0, 1])) (.seq 
 (.seqg (.reg [oQ 6 (.mv (.t 0)), oE 7 (.call (.c (.fn F_fathomref04_reader_next [])) [(.t 6)]), oE 5 (.alloc [.int .i64 0, .str ⟨#[]⟩, .cpx 0 0, .int .i64 0]), oN (.st 4 (.t 5) (.t 7))])
  (.keep [0, 1, 5])) (.seq 
 (.seqg (.reg [oQ 8 (.mv (.t 0)), oQ 9 (.chk (.t 8)), oQ 10 (.fa 2 (.t 9)), oQ 11 (.ld 1 false (.t 10)), oQ 12 (.bin .eql .num (.t 11) (.c (.int .i64 0))), oQ 13 (.mv (.t 12)), oTQ 14 13 (.fa 0 (.t 5)), oTQ 15 13 (.ld 1 false (.t 14)), oTQ 16 13 (.bin .eql .num (.t 15) (.c (.int .i64 1))), oTQ 17 13 (.mv (.t 16)), oFQ 18 17 (.fa 0 (.t 5)), oFQ 19 17 (.ld 1 false (.t 18)), oFQ 20 17 (.bin .eql .num (.t 19) (.c (.int .i64 3))), oTQ 21 13 (.pick (.t 17) (.c (.bool true)) (.t 20)), oQ 22 (.pick (.t 13) (.t 21) (.c (.bool false))), oQ 23 (.mv (.t 22)), oTQ 24 23 (.fa 1 (.t 5)), oTQ 25 23 (.ld 1 false (.t 24)), oTQ 26 23 (.mv (.t 1)), oTQ 27 23 (.bin .eql .other (.t 25) (.t 26)), oQ 28 (.pick (.t 23) (.t 27) (.c (.bool false))), oQ 4 (.mv (.t 28))])
  (.keep [4])) .ret)))
def r_fathomref04_reader_is : List ARes := [.t 4]
theorem w_fathomref04_reader_is : FnW Tryz.prog F_fathomref04_reader_is c_fathomref04_reader_is r_fathomref04_reader_is 29 := ⟨Tryz.f101, (Tryz.f101).body.get rfl, by kernel_rfl, Tryz.func101, by kernel_rfl, by kernel_rfl, by kernel_rfl, by kernel_rfl⟩
def c_fathomref04_reader_typ : ACode := (.seq 
 (.seqg (.reg [oQ 2 (.mv (.c (.int .i64 0)))])
  (.keep [0])) (.seq 
 (.seqg (.reg [oQ 5 (.bsl 1 [(.c (.str ⟨#[78]⟩)), (.c (.str ⟨#[66]⟩)), (.c (.str ⟨#[76]⟩))]), oQ 3 (.mv (.t 5))])
  (.keep [0, 3])) (.seq (.seq 
 (.seqg (.reg [oQ 4 (.mv (.c (.int .i64 0)))])
  (.keep [0, 3, 4])) 
 (.block 0 
 (.gseq (.keep [0, 3, 4]) (.loop (.seq (.seq 
 (.seqg (.reg [oQ 6 (.mv (.t 4)), oQ 7 (.mv (.t 3)), oQ 8 (.len (.t 7)), oQ 9 (.bin .lss .num (.t 6) (.t 8))])
  (.keep [0, 3, 4, 9])) 
 (.cond (.t 9) .skip (.exit 0))) (.seq 
 (.block 1 (.seq 
 (.seqg (.reg [oQ 12 (.mv (.t 0)), oQ 13 (.mv (.t 3)), oQ 14 (.mv (.t 4)), oQ 15 (.ix 1 (.t 13) (.t 14)), oQ 16 (.ld 1 false (.t 15)), oE 17 (.call (.c (.fn F_fathomref04_reader_take [])) [(.t 12), (.t 16)])])
  (.keep [0, 3, 4, 17])) 
 (.cond (.t 17) (.seq 
 (.seqg (.reg [oQ 18 (.mv (.t 4)), oQ 19 (.bin .add .num (.t 18) (.c (.int .i64 1))), oQ 2 (.mv (.t 19))])
  (.keep [2])) .ret) .skip))) 
 (.seqg (.reg [oQ 10 (.mv (.t 4)), oQ 11 (.bin .add .num (.t 10) (.c (.int .i64 1))), oQ 4 (.mv (.t 11))])
  (.keep [0, 3, 4])))))))) (.seq 
 (.seqg (.reg [oQ 20 (.mv (.t 0)), oE 21 (.call (.c (.fn F_fathomref04_reader_fail [])) [(.t 20), (.c (.int .i64 21))])])
  (.keep [])) (.seq 
 (.seqg (.reg [oQ 2 (.mv (.c (.int .i64 0)))])
  (.keep [2])) .ret)))))
def r_fathomref04_reader_typ : List ARes := [.t 2]
theorem w_fathomref04_reader_typ : FnW Tryz.prog F_fathomref04_reader_typ c_fathomref04_reader_typ r_fathomref04_reader_typ 22 := ⟨Tryz.f102, (Tryz.f102).body.get rfl, by kernel_rfl, Tryz.func102, by kernel_rfl, by kernel_rfl, by kernel_rfl, by kernel_rfl⟩
def c_fathomref04_reader_expr : ACode := (.seq 
 (.seqg (.reg [oE 2 (.alloc [.int .i64 0, .str ⟨#[]⟩, .str ⟨#[]⟩, .int .i64 0, .cpx 0 0, .sl .full 7 [], .int .i64 0])])
  (.keep [0, 2])) (.seq 
 (.seqg (.reg [oQ 7 (.mv (.t 0)), oE 8 (.call (.c (.fn F_fathomref04_reader_next [])) [(.t 7)]), oE 3 (.alloc [.int .i64 0, .str ⟨#[]⟩, .cpx 0 0, .int .i64 0]), oN (.st 4 (.t 3) (.t 8))])
  (.keep [0, 2, 3])) (.seq 
 (.seqg (.reg [oQ 9 (.mv (.t 0)), oE 10 (.call (.c (.fn F_fathomref04_reader_is [])) [(.t 9), (.c (.str ⟨#[108, 101, 116]⟩))]), oQ 11 (.mv (.t 10)), oFQ 12 11 (.mv (.t 0)), oFE 13 11 (.call (.c (.fn F_fathomref04_reader_is [])) [(.t 12), (.c (.str ⟨#[115, 116, 114, 105, 99, 116]⟩))]), oQ 14 (.pick (.t 11) (.c (.bool true)) (.t 13)), oQ 15 (.mv (.t 14)), oFQ 16 15 (.mv (.t 0)), oFE 17 15 (.call (.c (.fn F_fathomref04_reader_is [])) [(.t 16), (.c (.str ⟨#[99, 97, 115, 101]⟩))]), oQ 18 (.pick (.t 15) (.c (.bool true)) (.t 17)), oQ 4 (.mv (.t 18))])
  (.keep [0, 2, 3, 4])) (.seq (.seq 
 (.seqg (.drw [oQ 19 (.mv (.t 4)), oQ 20 (.mv (.t 19)), oTQ 21 20 (.mv (.t 0)), oTQ 22 20 (.chk (.t 21)), oTQ 23 20 (.fa 8 (.t 22)), oTQ 24 20 (.ld 1 false (.t 23)), oTQ 25 20 (.mv (.t 0)), oTQ 26 20 (.chk (.t 25)), oTQ 27 20 (.fa 4 (.t 26)), oTQ 28 20 (.fa 3 (.t 27)), oTQ 29 20 (.ld 1 false (.t 28)), oTQ 30 20 (.bin .geq .num (.t 24) (.t 29)), oQ 31 (.pick (.t 20) (.t 30) (.c (.bool false)))])
  (.keep [0, 2, 3, 4, 31])) 
 (.cond (.t 31) 
 (.seqg (.reg [oQ 32 (.mv (.t 0)), oE 33 (.call (.c (.fn F_fathomref04_reader_fail [])) [(.t 32), (.c (.int .i64 23))])])
  (.keep [0, 2, 3, 4])) .skip)) (.seq (.seq 
 (.seqg (.reg [oQ 34 (.mv (.t 0)), oQ 35 (.chk (.t 34)), oQ 36 (.fa 2 (.t 35)), oQ 37 (.ld 1 false (.t 36)), oQ 38 (.bin .neq .num (.t 37) (.c (.int .i64 0)))])
  (.keep [0, 2, 3, 4, 38])) 
 (.cond (.t 38) (.seq 
 (.seqg (.reg [oQ 39 (.bld [.int .i64 0, .str ⟨#[]⟩, .str ⟨#[]⟩, .int .i64 0, .cpx 0 0, .sl .full 7 [], .int .i64 0] []), oN (.st 7 (.t 2) (.t 39))])
  (.keep [2])) .ret) .skip)) (.seq (.seq 
 (.seqg (.reg [oQ 40 (.mv (.t 4)), oQ 41 (.not (.t 40)), oQ 42 (.mv (.t 41)), oTQ 43 42 (.mv (.t 0)), oTE 44 42 (.call (.c (.fn F_fathomref04_reader_is [])) [(.t 43), (.c (.str ⟨#[105, 102]⟩))]), oTQ 45 42 (.not (.t 44)), oQ 46 (.pick (.t 42) (.t 45) (.c (.bool false)))])
  (.keep [0, 2, 3, 4, 46])) 
 (.cond (.t 46) (.seq 
 (.seqg (.reg [oQ 47 (.mv (.t 0)), oE 48 (.call (.c (.fn F_fathomref04_reader_cons [])) [(.t 47)]), oN (.st 7 (.t 2) (.t 48))])
  (.keep [2])) .ret) .skip)) (.seq (.seq 
 (.seqg (.reg [oQ 49 (.mv (.t 4))])
  (.keep [0, 2, 3, 4, 49])) 
 (.cond (.t 49) 
 (.seqg (.reg [oQ 50 (.mv (.t 0)), oQ 51 (.chk (.t 50)), oQ 52 (.fa 8 (.t 51)), oQ 53 (.ld 1 false (.t 52)), oQ 54 (.bin .add .num (.t 53) (.c (.int .i64 1))), oQ 55 (.chk (.t 50)), oQ 56 (.fa 8 (.t 55)), oN (.st 1 (.t 56) (.t 54))])
  (.keep [0, 2, 3, 4])) .skip)) (.seq 
 (.seqg (.reg [oQ 57 (.mv (.t 0)), oQ 58 (.chk (.t 57)), oQ 59 (.fa 1 (.t 58)), oQ 60 (.ld 1 false (.t 59)), oQ 61 (.bin .add .num (.t 60) (.c (.int .i64 1))), oQ 62 (.chk (.t 57)), oQ 63 (.fa 1 (.t 62)), oN (.st 1 (.t 63) (.t 61))])
  (.keep [0, 2, 3, 4])) (.seq 
 (.seqg (.reg [oQ 64 (.fa 3 (.t 3)), oQ 65 (.ld 1 false (.t 64)), oQ 66 (.bld [.int .i64 0, .str ⟨#[]⟩, .str ⟨#[]⟩, .int .i64 0, .cpx 0 0, .sl .full 7 [], .int .i64 0] [(6, 1, (.t 65))]), oE 5 (.alloc [.int .i64 0, .str ⟨#[]⟩, .str ⟨#[]⟩, .int .i64 0, .cpx 0 0, .sl .full 7 [], .int .i64 0]), oN (.st 7 (.t 5) (.t 66))])
  (.keep [0, 2, 3, 4, 5])) (.seq (.seq 
 (.seqg (.reg [oQ 67 (.fa 1 (.t 3)), oQ 68 (.ld 1 false (.t 67))])
  (.keep [0, 2, 3, 4, 5, 68])) 
 (.block 0 (.seq 
 (.seqg (.reg [oQ 87 (.bin .eql .other (.t 68) (.c (.str ⟨#[105, 102]⟩))), oQ 86 (.mv (.t 87))])
  (.keep [0, 2, 3, 4, 5, 68, 86])) 
 (.cond (.t 86) (.seq 
 (.seqg (.reg [oQ 88 (.fa 0 (.t 5)), oN (.st 1 (.t 88) (.c (.int .i64 19)))])
  (.keep [0, 2, 4, 5])) 
 (.seqg (.reg [oQ 89 (.mv (.t 0)), oQ 90 (.bsl 1 [(.c (.str ⟨#[]⟩)), (.c (.str ⟨#[116, 104, 101, 110]⟩)), (.c (.str ⟨#[101, 108, 115, 101]⟩))]), oE 91 (.call (.c (.fn F_fathomref04_reader_parts [])) [(.t 89), (.t 90)]), oQ 92 (.fa 5 (.t 5)), oN (.st 1 (.t 92) (.t 91))])
  (.keep [0, 2, 4, 5]))) (.seq 
 (.seqg (.reg [oQ 94 (.bin .eql .other (.t 68) (.c (.str ⟨#[99, 97, 115, 101]⟩))), oQ 93 (.mv (.t 94))])
  (.keep [0, 2, 3, 4, 5, 93])) 
 (.cond (.t 93) 
 (.seqg (.reg [oQ 95 (.mv (.t 0)), oE 96 (.call (.c (.fn F_fathomref04_reader_branches [])) [(.t 95), (.t 5)])])
  (.keep [0, 2, 4, 5])) (.seq 
 (.seqg (.reg [oQ 69 (.fa 0 (.t 5)), oN (.st 1 (.t 69) (.c (.int .i64 21)))])
  (.keep [0, 2, 3, 4, 5])) (.seq (.seq 
 (.seqg (.reg [oQ 70 (.fa 1 (.t 3)), oQ 71 (.ld 1 false (.t 70)), oQ 72 (.bin .eql .other (.t 71) (.c (.str ⟨#[115, 116, 114, 105, 99, 116]⟩)))])
  (.keep [0, 2, 4, 5, 72])) 
 (.cond (.t 72) 
 (.seqg (.reg [oQ 73 (.fa 0 (.t 5)), oN (.st 1 (.t 73) (.c (.int .i64 22)))])
  (.keep [0, 2, 4, 5])) .skip)) (.seq 
 (.seqg (.reg [oQ 74 (.mv (.t 0)), oE 75 (.call (.c (.fn F_fathomref04_reader_name [])) [(.t 74)]), oE 6 (.alloc [.int .i64 0, .str ⟨#[]⟩, .cpx 0 0, .int .i64 0]), oN (.st 4 (.t 6) (.t 75))])
  (.keep [0, 2, 4, 5, 6])) (.seq 
 (.seqg (.reg [oQ 76 (.fa 1 (.t 6)), oQ 77 (.ld 1 false (.t 76)), oQ 78 (.fa 1 (.t 5)), oN (.st 1 (.t 78) (.t 77))])
  (.keep [0, 2, 4, 5])) (.seq 
 (.seqg (.reg [oQ 79 (.mv (.t 0)), oE 80 (.call (.c (.fn F_fathomref04_reader_typ [])) [(.t 79)]), oQ 81 (.fa 3 (.t 5)), oN (.st 1 (.t 81) (.t 80))])
  (.keep [0, 2, 4, 5])) 
 (.seqg (.reg [oQ 82 (.mv (.t 0)), oQ 83 (.bsl 1 [(.c (.str ⟨#[61]⟩)), (.c (.str ⟨#[105, 110]⟩))]), oE 84 (.call (.c (.fn F_fathomref04_reader_parts [])) [(.t 82), (.t 83)]), oQ 85 (.fa 5 (.t 5)), oN (.st 1 (.t 85) (.t 84))])
  (.keep [0, 2, 4, 5]))))))))))))) (.seq (.seq 
 (.seqg (.reg [oQ 97 (.mv (.t 4))])
  (.keep [0, 2, 5, 97])) 
 (.cond (.t 97) 
 (.seqg (.reg [oQ 98 (.mv (.t 0)), oQ 99 (.chk (.t 98)), oQ 100 (.fa 8 (.t 99)), oQ 101 (.ld 1 false (.t 100)), oQ 102 (.bin .sub .num (.t 101) (.c (.int .i64 1))), oQ 103 (.chk (.t 98)), oQ 104 (.fa 8 (.t 103)), oN (.st 1 (.t 104) (.t 102))])
  (.keep [2, 5])) .skip)) (.seq 
 (.seqg (.reg [oQ 105 (.ld 7 true (.t 5)), oN (.st 7 (.t 2) (.t 105))])
  (.keep [2])) .ret))))))))))))
def r_fathomref04_reader_expr : List ARes := [.c 2 7 true]
theorem w_fathomref04_reader_expr : FnW Tryz.prog F_fathomref04_reader_expr c_fathomref04_reader_expr r_fathomref04_reader_expr 106 := ⟨Tryz.f103, (Tryz.f103).body.get rfl, by kernel_rfl, Tryz.func103, by kernel_rfl, by kernel_rfl, by kernel_rfl, by kernel_rfl⟩
def c_scope_Check_1 : ACode := (.seq 
 (.seqg (.reg [oQ 5 (.fa 0 (.t 2)), oQ 6 (.ld 1 false (.t 5)), oQ 7 (.bin .eql .num (.t 6) (.c (.int .i64 0))), oQ 8 (.mv (.t 7)), oFQ 9 8 (.mv (.t 1)), oFQ 10 8 (.fa 1 (.t 2)), oFQ 11 8 (.ld 1 false (.t 10)), oFQ 12 8 (.bin .lss .num (.t 9) (.t 11)), oQ 13 (.pick (.t 8) (.c (.bool true)) (.t 12))])
  (.keep [0, 1, 2, 13])) 
 (.cond (.t 13) 
 (.seqg (.reg [oQ 14 (.mv (.t 0)), oQ 15 (.mv (.t 1)), oQ 16 (.bld [.int .i64 0, .int .i64 0] [(0, 1, (.t 14)), (1, 1, (.t 15))]), oN (.st 2 (.t 2) (.t 16))])
  (.keep [])) .skip))
def r_scope_Check_1 : List ARes := []
theorem w_scope_Check_1 : FnW Tryz.prog F_scope_Check_1 c_scope_Check_1 r_scope_Check_1 17 := ⟨Tryz.f104, (Tryz.f104).body.get rfl, by kernel_rfl, Tryz.func104, by kernel_rfl, by kernel_rfl, by kernel_rfl, by kernel_rfl⟩
def c_scope_walk : ACode := (.seq 
 (.seqg (.reg [oQ 3 (.box (.t 0))])
  (.keep [1, 2, 3])) (.seq 
 (.seqg (.reg [oQ 13 (.mv (.t 2)), oQ 14 (.ld 7 true (.t 3)), oQ 15 (.mv (.t 1)), oE 16 (.call (.t 13) [(.t 14), (.t 15)])])
  (.keep [1, 2, 3])) (.seq 
 (.seqg (.reg [oQ 17 (.fa 5 (.t 3)), oQ 18 (.ld 1 false (.t 17)), oQ 19 (.len (.t 18)), oQ 20 (.mv (.c (.int .i64 0)))])
  (.keep [1, 2, 3, 18, 19, 20])) 
 (.block 0 
 (.gseq (.keep [1, 2, 3, 18, 19, 20]) (.loop (.seq 
 (.seqg (.reg [oQ 21 (.bin .lss .num (.t 20) (.t 19))])
  (.keep [1, 2, 3, 18, 19, 20, 21])) (.seq 
 (.cond (.t 21) .skip (.exit 0)) (.seq 
 (.block 1 (.seq 
 (.seqg (.reg [oQ 22 (.mv (.t 20)), oQ 23 (.ix 7 (.t 18) (.t 20)), oQ 24 (.ld 7 true (.t 23)), oE 7 (.alloc [.int .i64 0, .str ⟨#[]⟩, .str ⟨#[]⟩, .int .i64 0, .cpx 0 0, .sl .full 7 [], .int .i64 0]), oQ 6 (.mv (.t 22)), oN (.st 7 (.t 7) (.t 24))])
  (.keep [1, 2, 3, 6, 7, 18, 19, 20])) (.seq 
 (.seqg (.reg [oQ 25 (.ld 7 true (.t 3)), oQ 26 (.mv (.t 6)), oQ 27 (.call F_scope_bound [(.t 25), (.t 26)]), oQ 8 (.mv (.t 27))])
  (.keep [1, 2, 3, 7, 8, 18, 19, 20])) (.seq (.seq 
 (.seqg (.reg [oQ 28 (.mv (.t 8)), oQ 29 (.len (.t 28)), oQ 30 (.mv (.c (.int .i64 0)))])
  (.keep [1, 2, 3, 7, 8, 18, 19, 20, 28, 29, 30])) 
 (.block 2 
 (.gseq (.keep [1, 2, 3, 7, 8, 18, 19, 20, 28, 29, 30]) (.loop (.seq 
 (.seqg (.reg [oQ 31 (.bin .lss .num (.t 30) (.t 29))])
  (.keep [1, 2, 3, 7, 8, 18, 19, 20, 28, 29, 30, 31])) (.seq 
 (.cond (.t 31) .skip (.exit 2)) (.seq 
 (.block 3 (.seq 
 (.seqg (.reg [oQ 32 (.ix 1 (.t 28) (.t 30)), oQ 33 (.ld 1 false (.t 32)), oQ 10 (.mv (.t 33))])
  (.keep [1, 2, 3, 7, 8, 10, 18, 19, 20, 28, 29, 30])) 
 (.seqg (.reg [oQ 34 (.mv (.t 1)), oQ 35 (.mv (.t 10)), oQ 36 (.lk (.t 34) (.t 35)), oQ 37 (.bin .add .num (.t 36) (.c (.int .i64 1))), oN (.updm (.t 34) (.t 35) (.t 37))])
  (.keep [1, 2, 3, 7, 8, 18, 19, 20, 28, 29, 30])))) 
 (.seqg (.reg [oQ 38 (.bin .add .num (.t 30) (.c (.int .i64 1))), oQ 30 (.mv (.t 38))])
  (.keep [1, 2, 3, 7, 8, 18, 19, 20, 28, 29, 30]))))))))) (.seq 
 (.seqg (.reg [oQ 39 (.ld 7 true (.t 7)), oQ 40 (.mv (.t 1)), oQ 41 (.mv (.t 2)), oE 42 (.call (.c (.fn F_scope_walk [])) [(.t 39), (.t 40), (.t 41)])])
  (.keep [1, 2, 3, 8, 18, 19, 20])) (.seq 
 (.seqg (.reg [oQ 43 (.mv (.t 8)), oQ 44 (.len (.t 43)), oQ 45 (.mv (.c (.int .i64 0)))])
  (.keep [1, 2, 3, 18, 19, 20, 43, 44, 45])) 
 (.block 4 
 (.gseq (.keep [1, 2, 3, 18, 19, 20, 43, 44, 45]) (.loop (.seq 
 (.seqg (.reg [oQ 46 (.bin .lss .num (.t 45) (.t 44))])
  (.keep [1, 2, 3, 18, 19, 20, 43, 44, 45, 46])) (.seq 
 (.cond (.t 46) .skip (.exit 4)) (.seq 
 (.block 5 (.seq 
 (.seqg (.reg [oQ 47 (.ix 1 (.t 43) (.t 45)), oQ 48 (.ld 1 false (.t 47)), oQ 12 (.mv (.t 48))])
  (.keep [1, 2, 3, 12, 18, 19, 20, 43, 44, 45])) 
 (.seqg (.reg [oQ 49 (.mv (.t 1)), oQ 50 (.mv (.t 12)), oQ 51 (.lk (.t 49) (.t 50)), oQ 52 (.bin .sub .num (.t 51) (.c (.int .i64 1))), oN (.updm (.t 49) (.t 50) (.t 52))])
  (.keep [1, 2, 3, 18, 19, 20, 43, 44, 45])))) 
 (.seqg (.reg [oQ 53 (.bin .add .num (.t 45) (.c (.int .i64 1))), oQ 45 (.mv (.t 53))])
  (.keep [1, 2, 3, 18, 19, 20, 43, 44, 45])))))))))))))) 
 (.seqg (.reg [oQ 54 (.bin .add .num (.t 20) (.c (.int .i64 1))), oQ 20 (.mv (.t 54))])
  (.keep [1, 2, 3, 18, 19, 20])))))))))))
def r_scope_walk : List ARes := []
theorem w_scope_walk : FnW Tryz.prog F_scope_walk c_scope_walk r_scope_walk 55 := ⟨Tryz.f105, (Tryz.f105).body.get rfl, by kernel_rfl, Tryz.func105, by kernel_rfl, by kernel_rfl, by kernel_rfl, by kernel_rfl⟩
def c_scope_Check_2 : ACode := (.seq 
 (.seqg (.reg [oQ 5 (.box (.t 0))])
  (.keep [1, 2, 3, 4, 5])) (.seq 
 (.seqg (.reg [oQ 8 (.ld 1 false (.t 2)), oQ 9 (.fa 1 (.t 5)), oQ 10 (.ld 1 false (.t 9)), oQ 11 (.lk (.t 8) (.t 10)), oQ 7 (.mv (.t 11))])
  (.keep [1, 3, 4, 5, 7])) 
 (.block 0 (.seq 
 (.seqg (.reg [oQ 13 (.fa 0 (.t 5)), oQ 14 (.ld 1 false (.t 13)), oQ 15 (.bin .eql .num (.t 14) (.c (.int .i64 6))), oQ 16 (.mv (.t 15)), oTQ 17 16 (.mv (.t 1)), oTQ 18 16 (.fa 1 (.t 5)), oTQ 19 16 (.ld 1 false (.t 18)), oTQ 20 16 (.lk (.t 17) (.t 19)), oTQ 21 16 (.bin .eql .num (.t 20) (.c (.int .i64 0))), oQ 22 (.pick (.t 16) (.t 21) (.c (.bool false))), oQ 12 (.mv (.t 22))])
  (.keep [3, 4, 5, 7, 12])) 
 (.cond (.t 12) 
 (.seqg (.reg [oQ 23 (.ld 1 false (.t 3)), oQ 24 (.fa 6 (.t 5)), oQ 25 (.ld 1 false (.t 24)), oE 26 (.call (.t 23) [(.c (.int .i64 31)), (.t 25)])])
  (.keep [])) (.seq 
 (.seqg (.reg [oQ 28 (.fa 0 (.t 5)), oQ 29 (.ld 1 false (.t 28)), oQ 30 (.bin .eql .num (.t 29) (.c (.int .i64 7))), oQ 31 (.mv (.t 30)), oTQ 32 31 (.mv (.t 7)), oTQ 33 31 (.bin .eql .num (.t 32) (.c (.int .i64 0))), oQ 34 (.pick (.t 31) (.t 33) (.c (.bool false))), oQ 27 (.mv (.t 34))])
  (.keep [3, 4, 5, 7, 27])) 
 (.cond (.t 27) 
 (.seqg (.reg [oQ 35 (.ld 1 false (.t 3)), oQ 36 (.fa 6 (.t 5)), oQ 37 (.ld 1 false (.t 36)), oE 38 (.call (.t 35) [(.c (.int .i64 32)), (.t 37)])])
  (.keep [])) (.seq 
 (.seqg (.drw [oQ 40 (.fa 0 (.t 5)), oQ 41 (.ld 1 false (.t 40)), oQ 42 (.bin .eql .num (.t 41) (.c (.int .i64 7))), oQ 43 (.mv (.t 42)), oTQ 44 43 (.fa 0 (.t 4)), oTQ 45 43 (.ld 1 false (.t 44)), oTQ 46 43 (.mv (.t 7)), oTQ 47 43 (.bin .sub .num (.t 46) (.c (.int .i64 1))), oTQ 48 43 (.ix 11 (.t 45) (.t 47)), oTQ 49 43 (.fa 1 (.t 48)), oTQ 50 43 (.ld 1 false (.t 49)), oTQ 51 43 (.len (.t 50)), oTQ 52 43 (.fa 5 (.t 5)), oTQ 53 43 (.ld 1 false (.t 52)), oTQ 54 43 (.len (.t 53)), oTQ 55 43 (.bin .neq .num (.t 51) (.t 54)), oQ 56 (.pick (.t 43) (.t 55) (.c (.bool false))), oQ 39 (.mv (.t 56))])
  (.keep [3, 5, 39])) 
 (.cond (.t 39) 
 (.seqg (.reg [oQ 57 (.ld 1 false (.t 3)), oQ 58 (.fa 6 (.t 5)), oQ 59 (.ld 1 false (.t 58)), oE 60 (.call (.t 57) [(.c (.int .i64 33)), (.t 59)])])
  (.keep [])) .skip)))))))))
def r_scope_Check_2 : List ARes := []
theorem w_scope_Check_2 : FnW Tryz.prog F_scope_Check_2 c_scope_Check_2 r_scope_Check_2 61 := ⟨Tryz.f106, (Tryz.f106).body.get rfl, by kernel_rfl, Tryz.func106, by kernel_rfl, by kernel_rfl, by kernel_rfl, by kernel_rfl⟩
def c_types_checker_all : ACode := (.seq 
 (.seqg (.reg [oQ 8 (.mv (.t 2)), oQ 9 (.len (.t 8)), oQ 10 (.mv (.c (.int .i64 0)))])
  (.keep [0, 1, 8, 9, 10])) 
 (.block 0 
 (.gseq (.keep [0, 1, 8, 9, 10]) (.loop (.seq 
 (.seqg (.reg [oQ 11 (.bin .lss .num (.t 10) (.t 9))])
  (.keep [0, 1, 8, 9, 10, 11])) (.seq 
 (.cond (.t 11) .skip (.exit 0)) (.seq 
 (.block 1 (.seq 
 (.seqg (.reg [oQ 12 (.ix 7 (.t 8) (.t 10)), oQ 13 (.ld 7 true (.t 12)), oE 7 (.alloc [.int .i64 0, .str ⟨#[]⟩, .str ⟨#[]⟩, .int .i64 0, .cpx 0 0, .sl .full 7 [], .int .i64 0]), oN (.st 7 (.t 7) (.t 13))])
  (.keep [0, 1, 7, 8, 9, 10])) 
 (.seqg (.reg [oQ 14 (.mv (.t 0)), oQ 15 (.ld 7 true (.t 7)), oQ 16 (.mv (.t 1)), oE 17 (.call (.c (.fn F_types_checker_want [])) [(.t 14), (.t 15), (.t 16)])])
  (.keep [0, 1, 8, 9, 10])))) 
 (.seqg (.reg [oQ 18 (.bin .add .num (.t 10) (.c (.int .i64 1))), oQ 10 (.mv (.t 18))])
  (.keep [0, 1, 8, 9, 10])))))))))
def r_types_checker_all : List ARes := []
theorem w_types_checker_all : FnW Tryz.prog F_types_checker_all c_types_checker_all r_types_checker_all 19 := ⟨Tryz.f107, (Tryz.f107).body.get rfl, by kernel_rfl, Tryz.func107, by kernel_rfl, by kernel_rfl, by kernel_rfl, by kernel_rfl⟩
def c_types_checker_in : ACode := (.seq 
 (.seqg (.reg [oQ 7 (.mv (.t 0)), oQ 8 (.chk (.t 7)), oQ 9 (.fa 2 (.t 8)), oQ 10 (.ld 1 false (.t 9)), oQ 11 (.len (.t 10)), oQ 6 (.mv (.t 11))])
  (.keep [0, 1, 2, 6])) (.seq 
 (.seqg (.reg [oQ 12 (.mv (.t 0)), oQ 13 (.mv (.t 0)), oQ 14 (.chk (.t 13)), oQ 15 (.fa 2 (.t 14)), oQ 16 (.ld 1 false (.t 15)), oQ 17 (.mv (.t 2)), oE 18 (.appr 3 32 (.t 16) (.t 17)), oQ 19 (.chk (.t 12)), oQ 20 (.fa 2 (.t 19)), oN (.st 1 (.t 20) (.t 18))])
  (.keep [0, 1, 6])) (.seq 
 (.seqg (.reg [oQ 21 (.mv (.t 1)), oE 22 (.call (.t 21) [])])
  (.keep [0, 6])) 
 (.seqg (.seqg (.reg [oQ 23 (.mv (.t 0)), oQ 24 (.mv (.t 0)), oQ 25 (.chk (.t 24)), oQ 26 (.fa 2 (.t 25)), oQ 27 (.ld 1 false (.t 26)), oQ 28 (.mv (.t 6)), oQ 29 (.slr 3 (.t 27) (.t 28)), oQ 30 (.chk (.t 23)), oQ 31 (.fa 2 (.t 30)), oN (.st 1 (.t 31) (.t 29))])
  (.truncc 0 2))
  (.keep [])))))
def r_types_checker_in : List ARes := []
theorem w_types_checker_in : FnW Tryz.prog F_types_checker_in c_types_checker_in r_types_checker_in 32 := ⟨Tryz.f108, (Tryz.f108).body.get rfl, by kernel_rfl, Tryz.func108, by kernel_rfl, by kernel_rfl, by kernel_rfl, by kernel_rfl⟩
def c_types_checker_want_1 : ACode := 
 (.seqg (.drw [oQ 3 (.ld 1 false (.t 0)), oQ 4 (.fa 5 (.t 1)), oQ 5 (.ld 1 false (.t 4)), oQ 6 (.ix 7 (.t 5) (.c (.int .i64 2))), oQ 7 (.ld 7 true (.t 6)), oQ 8 (.ld 1 false (.t 2)), oE 9 (.call (.c (.fn F_types_checker_want [])) [(.t 3), (.t 7), (.t 8)])])
  (.keep []))
def r_types_checker_want_1 : List ARes := []
theorem w_types_checker_want_1 : FnW Tryz.prog F_types_checker_want_1 c_types_checker_want_1 r_types_checker_want_1 10 := ⟨Tryz.f109, (Tryz.f109).body.get rfl, by kernel_rfl, Tryz.func109, by kernel_rfl, by kernel_rfl, by kernel_rfl, by kernel_rfl⟩
def c_types_checker_want_2 : ACode := (.seq 
 (.seqg (.drw [oQ 3 (.ld 1 false (.t 0)), oQ 4 (.fa 5 (.t 1)), oQ 5 (.ld 1 false (.t 4)), oQ 6 (.ix 7 (.t 5) (.c (.int .i64 0))), oQ 7 (.ld 7 true (.t 6)), oQ 8 (.fa 3 (.t 1)), oQ 9 (.ld 1 false (.t 8)), oE 10 (.call (.c (.fn F_types_checker_want [])) [(.t 3), (.t 7), (.t 9)])])
  (.keep [0, 1, 2])) 
 (.seqg (.drw [oQ 11 (.ld 1 false (.t 0)), oQ 12 (.fa 5 (.t 1)), oQ 13 (.ld 1 false (.t 12)), oQ 14 (.ix 7 (.t 13) (.c (.int .i64 1))), oQ 15 (.ld 7 true (.t 14)), oQ 16 (.ld 1 false (.t 2)), oE 17 (.call (.c (.fn F_types_checker_want [])) [(.t 11), (.t 15), (.t 16)])])
  (.keep [])))
def r_types_checker_want_2 : List ARes := []
theorem w_types_checker_want_2 : FnW Tryz.prog F_types_checker_want_2 c_types_checker_want_2 r_types_checker_want_2 18 := ⟨Tryz.f110, (Tryz.f110).body.get rfl, by kernel_rfl, Tryz.func110, by kernel_rfl, by kernel_rfl, by kernel_rfl, by kernel_rfl⟩
def c_types_checker_want_3 : ACode := 
 (.seqg (.drw [oQ 3 (.ld 1 false (.t 0)), oQ 4 (.fa 5 (.t 1)), oQ 5 (.ld 1 false (.t 4)), oQ 6 (.ix 7 (.t 5) (.c (.int .i64 1))), oQ 7 (.ld 7 true (.t 6)), oQ 8 (.ld 1 false (.t 2)), oE 9 (.call (.c (.fn F_types_checker_want [])) [(.t 3), (.t 7), (.t 8)])])
  (.keep []))
def r_types_checker_want_3 : List ARes := []
theorem w_types_checker_want_3 : FnW Tryz.prog F_types_checker_want_3 c_types_checker_want_3 r_types_checker_want_3 10 := ⟨Tryz.f111, (Tryz.f111).body.get rfl, by kernel_rfl, Tryz.func111, by kernel_rfl, by kernel_rfl, by kernel_rfl, by kernel_rfl⟩
def c_types_checker_own : ACode := (.seq 
 (.seqg (.reg [oQ 3 (.box (.t 1)), oQ 4 (.mv (.c (.int .i64 0)))])
  (.keep [0, 3])) (.seq (.seq 
 (.seqg (.reg [oQ 6 (.fa 0 (.t 3)), oQ 7 (.ld 1 false (.t 6))])
  (.keep [0, 3, 7])) 
 (.block 0 (.seq (.seq 
 (.seqg (.reg [oQ 9 (.bin .eql .num (.t 7) (.c (.int .i64 2))), oQ 8 (.mv (.t 9))])
  (.keep [0, 3, 7, 8])) 
 (.cond (.t 8) .skip 
 (.seqg (.reg [oQ 10 (.bin .eql .num (.t 7) (.c (.int .i64 3))), oQ 8 (.mv (.t 10))])
  (.keep [0, 3, 7, 8])))) 
 (.cond (.t 8) (.seq 
 (.seqg (.reg [oQ 4 (.mv (.c (.int .i64 2)))])
  (.keep [4])) .ret) (.seq 
 (.seqg (.reg [oQ 12 (.bin .eql .num (.t 7) (.c (.int .i64 4))), oQ 11 (.mv (.t 12))])
  (.keep [0, 3, 7, 11])) 
 (.cond (.t 11) (.seq 
 (.seqg (.reg [oQ 4 (.mv (.c (.int .i64 3)))])
  (.keep [4])) .ret) (.seq 
 (.seqg (.reg [oQ 14 (.bin .eql .num (.t 7) (.c (.int .i64 5))), oQ 13 (.mv (.t 14))])
  (.keep [0, 3, 7, 13])) 
 (.cond (.t 13) (.seq 
 (.seqg (.reg [oQ 15 (.fa 3 (.t 3)), oQ 16 (.ld 1 false (.t 15)), oQ 4 (.mv (.t 16))])
  (.keep [4])) .ret) (.seq 
 (.seqg (.reg [oQ 18 (.bin .eql .num (.t 7) (.c (.int .i64 6))), oQ 17 (.mv (.t 18))])
  (.keep [0, 3, 7, 17])) 
 (.cond (.t 17) (.seq (.seq 
 (.seqg (.reg [oQ 19 (.mv (.t 0)), oQ 20 (.chk (.t 19)), oQ 21 (.fa 2 (.t 20)), oQ 22 (.ld 1 false (.t 21)), oQ 23 (.len (.t 22)), oQ 24 (.bin .sub .num (.t 23) (.c (.int .i64 1))), oQ 5 (.mv (.t 24))])
  (.keep [0, 3, 5])) 
 (.block 1 
 (.gseq (.keep [0, 3, 5]) (.loop (.seq (.seq 
 (.seqg (.reg [oQ 25 (.mv (.t 5)), oQ 26 (.bin .geq .num (.t 25) (.c (.int .i64 0)))])
  (.keep [0, 3, 5, 26])) 
 (.cond (.t 26) .skip (.exit 1))) (.seq 
 (.block 2 (.seq 
 (.seqg (.drw [oQ 29 (.mv (.t 0)), oQ 30 (.chk (.t 29)), oQ 31 (.fa 2 (.t 30)), oQ 32 (.ld 1 false (.t 31)), oQ 33 (.mv (.t 5)), oQ 34 (.ix 3 (.t 32) (.t 33)), oQ 35 (.fa 0 (.t 34)), oQ 36 (.ld 1 false (.t 35)), oQ 37 (.fa 1 (.t 3)), oQ 38 (.ld 1 false (.t 37)), oQ 39 (.bin .eql .other (.t 36) (.t 38))])
  (.keep [0, 3, 5, 39])) 
 (.cond (.t 39) (.seq 
 (.seqg (.reg [oQ 40 (.mv (.t 0)), oQ 41 (.chk (.t 40)), oQ 42 (.fa 2 (.t 41)), oQ 43 (.ld 1 false (.t 42)), oQ 44 (.mv (.t 5)), oQ 45 (.ix 3 (.t 43) (.t 44)), oQ 46 (.fa 1 (.t 45)), oQ 47 (.ld 1 false (.t 46)), oQ 4 (.mv (.t 47))])
  (.keep [4])) .ret) .skip))) 
 (.seqg (.reg [oQ 27 (.mv (.t 5)), oQ 28 (.bin .sub .num (.t 27) (.c (.int .i64 1))), oQ 5 (.mv (.t 28))])
  (.keep [0, 3, 5])))))))) (.seq 
 (.seqg (.reg [oQ 4 (.mv (.c (.int .i64 0)))])
  (.keep [4])) .ret)) (.seq 
 (.seqg (.reg [oQ 49 (.bin .eql .num (.t 7) (.c (.int .i64 7))), oQ 48 (.mv (.t 49))])
  (.keep [0, 3, 7, 48])) 
 (.cond (.t 48) (.seq 
 (.seqg (.reg [oQ 50 (.mv (.t 0)), oQ 51 (.ld 7 true (.t 3)), oE 52 (.call (.c (.fn F_types_checker_call [])) [(.t 50), (.t 51)]), oQ 4 (.mv (.t 52))])
  (.keep [4])) .ret) (.seq 
 (.seqg (.reg [oQ 54 (.bin .eql .num (.t 7) (.c (.int .i64 14))), oQ 53 (.mv (.t 54))])
  (.keep [0, 3, 7, 53])) 
 (.cond (.t 53) (.seq 
 (.seqg (.reg [oQ 55 (.mv (.t 0)), oQ 56 (.fa 5 (.t 3)), oQ 57 (.ld 1 false (.t 56)), oE 58 (.call (.c (.fn F_types_checker_all [])) [(.t 55), (.c (.int .i64 2)), (.t 57)])])
  (.keep [])) (.seq 
 (.seqg (.reg [oQ 4 (.mv (.c (.int .i64 2)))])
  (.keep [4])) .ret)) (.seq 
 (.seqg (.reg [oQ 60 (.bin .eql .num (.t 7) (.c (.int .i64 18))), oQ 59 (.mv (.t 60))])
  (.keep [0, 3, 59])) 
 (.cond (.t 59) (.seq 
 (.seqg (.reg [oQ 61 (.mv (.t 0)), oQ 62 (.fa 5 (.t 3)), oQ 63 (.ld 1 false (.t 62)), oQ 64 (.ix 7 (.t 63) (.c (.int .i64 0))), oQ 65 (.ld 7 true (.t 64)), oE 66 (.call (.c (.fn F_types_checker_want [])) [(.t 61), (.t 65), (.c (.int .i64 1))])])
  (.keep [0, 3])) (.seq 
 (.seqg (.reg [oQ 67 (.mv (.t 0)), oQ 68 (.fa 5 (.t 3)), oQ 69 (.ld 1 false (.t 68)), oQ 70 (.ix 7 (.t 69) (.c (.int .i64 1))), oQ 71 (.ld 7 true (.t 70)), oE 72 (.call (.c (.fn F_types_checker_want [])) [(.t 67), (.t 71), (.c (.int .i64 3))])])
  (.keep [])) (.seq 
 (.seqg (.reg [oQ 4 (.mv (.c (.int .i64 3)))])
  (.keep [4])) .ret))) .skip)))))))))))))))) (.seq 
 (.seqg (.reg [oQ 73 (.mv (.t 0)), oQ 74 (.fa 5 (.t 3)), oQ 75 (.ld 1 false (.t 74)), oE 76 (.call (.c (.fn F_types_checker_all [])) [(.t 73), (.c (.int .i64 1)), (.t 75)])])
  (.keep [3])) (.seq (.seq 
 (.seqg (.reg [oQ 77 (.fa 0 (.t 3)), oQ 78 (.ld 1 false (.t 77)), oQ 79 (.bin .eql .num (.t 78) (.c (.int .i64 12))), oQ 80 (.mv (.t 79)), oFQ 81 80 (.fa 0 (.t 3)), oFQ 82 80 (.ld 1 false (.t 81)), oFQ 83 80 (.bin .eql .num (.t 82) (.c (.int .i64 13))), oQ 84 (.pick (.t 80) (.c (.bool true)) (.t 83))])
  (.keep [84])) 
 (.cond (.t 84) (.seq 
 (.seqg (.reg [oQ 4 (.mv (.c (.int .i64 2)))])
  (.keep [4])) .ret) .skip)) (.seq 
 (.seqg (.reg [oQ 4 (.mv (.c (.int .i64 1)))])
  (.keep [4])) .ret)))))
def r_types_checker_own : List ARes := [.t 4]
theorem w_types_checker_own : FnW Tryz.prog F_types_checker_own c_types_checker_own r_types_checker_own 85 := ⟨Tryz.f112, (Tryz.f112).body.get rfl, by kernel_rfl, Tryz.func112, by kernel_rfl, by kernel_rfl, by kernel_rfl, by kernel_rfl⟩
def c_rows_words : ACode := (.seq 
 (.seqg (.reg [oQ 2 (.mv (.c (.int .i64 0)))])
  (.keep [0])) (.seq 
 (.seqg (.reg [oQ 3 (.mv (.t 0)), oQ 4 (.bin .add .num (.t 3) (.c (.int .i64 31))), oQ 5 (.bin .quo .num (.t 4) (.c (.int .i64 32))), oQ 2 (.mv (.t 5))])
  (.keep [2])) .ret))
def r_rows_words : List ARes := [.t 2]
theorem w_rows_words : FnW Tryz.prog F_rows_words c_rows_words r_rows_words 6 := ⟨Tryz.f113, (Tryz.f113).body.get rfl, by kernel_rfl, Tryz.func113, by kernel_rfl, by kernel_rfl, by kernel_rfl, by kernel_rfl⟩
def c_bits_OnesCount64 : ACode := (.seq 
 (.seqg (.reg [oQ 2 (.mv (.c (.int .i64 0)))])
  (.keep [0])) (.seq 
 (.seqg (.reg [oQ 3 (.mv (.t 0)), oQ 4 (.bin .shr .num (.t 3) (.c (.int .u64 1))), oQ 5 (.bin .and .num (.t 4) (.c (.int .u64 6148914691236517205))), oQ 6 (.mv (.t 0)), oQ 7 (.bin .and .num (.t 6) (.c (.int .u64 6148914691236517205))), oQ 8 (.bin .add .num (.t 5) (.t 7)), oQ 0 (.mv (.t 8))])
  (.keep [0])) (.seq 
 (.seqg (.reg [oQ 9 (.mv (.t 0)), oQ 10 (.bin .shr .num (.t 9) (.c (.int .u64 2))), oQ 11 (.bin .and .num (.t 10) (.c (.int .u64 3689348814741910323))), oQ 12 (.mv (.t 0)), oQ 13 (.bin .and .num (.t 12) (.c (.int .u64 3689348814741910323))), oQ 14 (.bin .add .num (.t 11) (.t 13)), oQ 0 (.mv (.t 14))])
  (.keep [0])) (.seq 
 (.seqg (.reg [oQ 15 (.mv (.t 0)), oQ 16 (.bin .shr .num (.t 15) (.c (.int .u64 4))), oQ 17 (.mv (.t 0)), oQ 18 (.bin .add .num (.t 16) (.t 17)), oQ 19 (.bin .and .num (.t 18) (.c (.int .u64 1085102592571150095))), oQ 0 (.mv (.t 19))])
  (.keep [0])) (.seq 
 (.seqg (.reg [oQ 20 (.mv (.t 0)), oQ 21 (.mv (.t 0)), oQ 22 (.bin .shr .num (.t 21) (.c (.int .u64 8))), oQ 23 (.bin .add .num (.t 20) (.t 22)), oQ 0 (.mv (.t 23))])
  (.keep [0])) (.seq 
 (.seqg (.reg [oQ 24 (.mv (.t 0)), oQ 25 (.mv (.t 0)), oQ 26 (.bin .shr .num (.t 25) (.c (.int .u64 16))), oQ 27 (.bin .add .num (.t 24) (.t 26)), oQ 0 (.mv (.t 27))])
  (.keep [0])) (.seq 
 (.seqg (.reg [oQ 28 (.mv (.t 0)), oQ 29 (.mv (.t 0)), oQ 30 (.bin .shr .num (.t 29) (.c (.int .u64 32))), oQ 31 (.bin .add .num (.t 28) (.t 30)), oQ 0 (.mv (.t 31))])
  (.keep [0])) (.seq 
 (.seqg (.reg [oQ 32 (.mv (.t 0)), oQ 33 (.cvi .i64 (.t 32)), oQ 34 (.bin .and .num (.t 33) (.c (.int .i64 127))), oQ 2 (.mv (.t 34))])
  (.keep [2])) .ret))))))))
def r_bits_OnesCount64 : List ARes := [.t 2]
theorem w_bits_OnesCount64 : FnW Tryz.prog F_bits_OnesCount64 c_bits_OnesCount64 r_bits_OnesCount64 35 := ⟨Tryz.f114, (Tryz.f114).body.get rfl, by kernel_rfl, Tryz.func114, by kernel_rfl, by kernel_rfl, by kernel_rfl, by kernel_rfl⟩
def c_tuples_Number : ACode := (.seq 
 (.seqg (.reg [oQ 4 (.mv (.c (.int .i64 0))), oQ 5 (.mv (.c (.int .i64 0)))])
  (.keep [0, 1])) (.seq (.seq 
 (.seqg (.reg [oQ 15 (.mv (.t 0)), oQ 16 (.call F_tuples_Count [(.t 15)]), oQ 14 (.mv (.t 16)), oQ 17 (.ext (.t 14) 0), oQ 18 (.ext (.t 14) 1), oQ 6 (.mv (.t 17)), oQ 7 (.mv (.t 18))])
  (.keep [0, 1, 7])) (.seq 
 (.seqg (.reg [oQ 19 (.mv (.t 7)), oQ 20 (.bin .neq .num (.t 19) (.c (.int .i64 0)))])
  (.keep [0, 1, 7, 20])) 
 (.cond (.t 20) (.seq 
 (.seqg (.reg [oQ 21 (.mv (.t 7)), oQ 4 (.mv (.c (.int .i64 0))), oQ 5 (.mv (.t 21))])
  (.keep [4, 5])) .ret) .skip))) (.seq (.seq 
 (.seqg (.reg [oQ 22 (.mv (.t 1)), oQ 23 (.len (.t 22)), oQ 24 (.mv (.t 0)), oQ 25 (.len (.t 24)), oQ 26 (.bin .neq .num (.t 23) (.t 25))])
  (.keep [0, 1, 26])) 
 (.cond (.t 26) (.seq 
 (.seqg (.reg [oQ 4 (.mv (.c (.int .i64 0))), oQ 5 (.mv (.c (.int .i64 3)))])
  (.keep [4, 5])) .ret) .skip)) (.seq 
 (.seqg (.reg [oQ 8 (.mv (.c (.int .i64 0)))])
  (.keep [0, 1, 8])) (.seq (.seq 
 (.seqg (.reg [oQ 27 (.mv (.t 1)), oQ 28 (.len (.t 27)), oQ 29 (.mv (.c (.int .i64 0)))])
  (.keep [0, 8, 27, 28, 29])) 
 (.block 0 
 (.gseq (.keep [0, 8, 27, 28, 29]) (.loop (.seq 
 (.seqg (.reg [oQ 30 (.bin .lss .num (.t 29) (.t 28))])
  (.keep [0, 8, 27, 28, 29, 30])) (.seq 
 (.cond (.t 30) .skip (.exit 0)) (.seq 
 (.block 1 (.seq 
 (.seqg (.reg [oQ 31 (.mv (.t 29)), oQ 32 (.ix 1 (.t 27) (.t 29)), oQ 33 (.ld 1 false (.t 32)), oQ 9 (.mv (.t 31)), oQ 10 (.mv (.t 33))])
  (.keep [0, 8, 9, 10, 27, 28, 29])) (.seq (.seq 
 (.seqg (.reg [oQ 34 (.mv (.t 0)), oQ 35 (.mv (.t 9)), oQ 36 (.ix 1 (.t 34) (.t 35)), oQ 37 (.ld 1 false (.t 36)), oQ 38 (.mv (.t 10)), oQ 39 (.call F_points_Check [(.t 37), (.t 38)]), oQ 11 (.mv (.t 39))])
  (.keep [0, 8, 9, 10, 11, 27, 28, 29])) (.seq 
 (.seqg (.reg [oQ 40 (.mv (.t 11)), oQ 41 (.bin .neq .num (.t 40) (.c (.int .i64 0)))])
  (.keep [0, 8, 9, 10, 11, 27, 28, 29, 41])) 
 (.cond (.t 41) (.seq 
 (.seqg (.reg [oQ 42 (.mv (.t 11)), oQ 4 (.mv (.c (.int .i64 0))), oQ 5 (.mv (.t 42))])
  (.keep [4, 5])) .ret) .skip))) (.seq 
 (.seqg (.reg [oQ 44 (.mv (.t 0)), oQ 45 (.mv (.t 9)), oQ 46 (.ix 1 (.t 44) (.t 45)), oQ 47 (.ld 1 false (.t 46)), oQ 48 (.call F_tuples_size [(.t 47)]), oQ 43 (.mv (.t 48)), oQ 49 (.ext (.t 43) 0), oQ 50 (.ext (.t 43) 1), oQ 12 (.mv (.t 49)), oQ 13 (.mv (.t 50))])
  (.keep [0, 8, 10, 12, 27, 28, 29])) 
 (.seqg (.reg [oQ 51 (.mv (.t 8)), oQ 52 (.mv (.t 12)), oQ 53 (.bin .mul .num (.t 51) (.t 52)), oQ 54 (.mv (.t 10)), oQ 55 (.bin .add .num (.t 53) (.t 54)), oQ 8 (.mv (.t 55))])
  (.keep [0, 8, 27, 28, 29])))))) 
 (.seqg (.reg [oQ 56 (.bin .add .num (.t 29) (.c (.int .i64 1))), oQ 29 (.mv (.t 56))])
  (.keep [0, 8, 27, 28, 29]))))))))) (.seq 
 (.seqg (.reg [oQ 57 (.mv (.t 8)), oQ 4 (.mv (.t 57)), oQ 5 (.mv (.c (.int .i64 0)))])
  (.keep [4, 5])) .ret))))))
def r_tuples_Number : List ARes := [.t 4, .t 5]
theorem w_tuples_Number : FnW Tryz.prog F_tuples_Number c_tuples_Number r_tuples_Number 58 := ⟨Tryz.f115, (Tryz.f115).body.get rfl, by kernel_rfl, Tryz.func115, by kernel_rfl, by kernel_rfl, by kernel_rfl, by kernel_rfl⟩
def c_fathomref06_faults : ACode := (.seq 
 (.seqg (.reg [oQ 1 (.box (.t 0)), oQ 2 (.mv (.c (.sl .full 2 [])))])
  (.keep [1])) (.seq 
 (.seqg (.seqg (.reg [oQ 3 (.mv (.c (.sl .full 2 [])))])
  (.keep [1, 3]))
  (.mint 3)) (.seq (.seq 
 (.seqg (.reg [oQ 4 (.mv (.c (.int .i64 0)))])
  (.keep [1, 3, 4])) 
 (.block 0 
 (.gseq (.keep [1, 3, 4]) (.loop (.seq (.seq 
 (.seqg (.reg [oQ 12 (.mv (.t 4)), oQ 13 (.fa 0 (.t 1)), oQ 14 (.ld 1 false (.t 13)), oQ 15 (.len (.t 14)), oQ 16 (.bin .lss .num (.t 12) (.t 15))])
  (.keep [1, 3, 4, 16])) 
 (.cond (.t 16) .skip (.exit 0))) (.seq 
 (.block 1 (.seq 
 (.seqg (.reg [oQ 19 (.fa 0 (.t 1)), oQ 20 (.ld 1 false (.t 19)), oQ 21 (.mv (.t 4)), oQ 22 (.ix 11 (.t 20) (.t 21)), oQ 23 (.ld 11 true (.t 22)), oE 5 (.alloc [.str ⟨#[]⟩, .sl .full 3 [], .int .i64 0, .int .i64 0, .str ⟨#[]⟩, .str ⟨#[]⟩, .int .i64 0, .cpx 0 0, .sl .full 7 [], .int .i64 0, .int .i64 0]), oN (.st 11 (.t 5) (.t 23))])
  (.keep [1, 3, 4, 5])) (.seq (.seq 
 (.seqg (.reg [oQ 24 (.ld 1 true (.t 1)), oQ 25 (.fa 0 (.t 5)), oQ 26 (.ld 1 false (.t 25)), oQ 27 (.call F_fathomref06_heads [(.t 24), (.t 26)]), oQ 28 (.mv (.t 4)), oQ 29 (.bin .lss .num (.t 27) (.t 28))])
  (.keep [1, 3, 4, 5, 29])) 
 (.cond (.t 29) 
 (.seqg (.reg [oQ 30 (.mv (.t 3)), oQ 31 (.fa 10 (.t 5)), oQ 32 (.ld 1 false (.t 31)), oQ 33 (.bld [.int .i64 0, .int .i64 0] [(0, 1, (.c (.int .i64 30))), (1, 1, (.t 32))]), oQ 34 (.bsl 2 [(.t 33)]), oE 35 (.app 2 16 (.t 30) (.t 34)), oQ 3 (.mv (.t 35))])
  (.keep [1, 3, 4, 5])) .skip)) (.seq 
 (.seqg (.seqg (.reg [oQ 6 (.mv (.c (.sl .full 1 [])))])
  (.keep [1, 3, 4, 5, 6]))
  (.mint 6)) (.seq (.seq 
 (.seqg (.reg [oQ 7 (.mv (.c (.int .i64 0)))])
  (.keep [1, 3, 4, 5, 6, 7])) 
 (.block 2 
 (.gseq (.keep [1, 3, 4, 5, 6, 7]) (.loop (.seq (.seq 
 (.seqg (.reg [oQ 36 (.mv (.t 7)), oQ 37 (.fa 1 (.t 5)), oQ 38 (.ld 1 false (.t 37)), oQ 39 (.len (.t 38)), oQ 40 (.bin .lss .num (.t 36) (.t 39))])
  (.keep [1, 3, 4, 5, 6, 7, 40])) 
 (.cond (.t 40) .skip (.exit 2))) (.seq 
 (.block 3 (.seq (.seq 
 (.seqg (.reg [oQ 43 (.mv (.t 6)), oQ 44 (.fa 1 (.t 5)), oQ 45 (.ld 1 false (.t 44)), oQ 46 (.mv (.t 7)), oQ 47 (.ix 3 (.t 45) (.t 46)), oQ 48 (.fa 0 (.t 47)), oQ 49 (.ld 1 false (.t 48)), oQ 50 (.call F_fathomref06_Has [(.t 43), (.t 49)])])
  (.keep [1, 3, 4, 5, 6, 7, 50])) 
 (.cond (.t 50) 
 (.seqg (.reg [oQ 51 (.mv (.t 3)), oQ 52 (.fa 1 (.t 5)), oQ 53 (.ld 1 false (.t 52)), oQ 54 (.mv (.t 7)), oQ 55 (.ix 3 (.t 53) (.t 54)), oQ 56 (.fa 2 (.t 55)), oQ 57 (.ld 1 false (.t 56)), oQ 58 (.bld [.int .i64 0, .int .i64 0] [(0, 1, (.c (.int .i64 30))), (1, 1, (.t 57))]), oQ 59 (.bsl 2 [(.t 58)]), oE 60 (.app 2 16 (.t 51) (.t 59)), oQ 3 (.mv (.t 60))])
  (.keep [1, 3, 4, 5, 6, 7])) .skip)) 
 (.seqg (.reg [oQ 61 (.mv (.t 6)), oQ 62 (.fa 1 (.t 5)), oQ 63 (.ld 1 false (.t 62)), oQ 64 (.mv (.t 7)), oQ 65 (.ix 3 (.t 63) (.t 64)), oQ 66 (.fa 0 (.t 65)), oQ 67 (.ld 1 false (.t 66)), oQ 68 (.bsl 1 [(.t 67)]), oE 69 (.app 1 16 (.t 61) (.t 68)), oQ 6 (.mv (.t 69))])
  (.keep [1, 3, 4, 5, 6, 7])))) 
 (.seqg (.reg [oQ 41 (.mv (.t 7)), oQ 42 (.bin .add .num (.t 41) (.c (.int .i64 1))), oQ 7 (.mv (.t 42))])
  (.keep [1, 3, 4, 5, 6, 7])))))))) (.seq 
 (.seqg (.reg [oQ 70 (.fa 3 (.t 5)), oQ 71 (.ld 7 true (.t 70)), oQ 72 (.mv (.t 6)), oQ 73 (.call F_fathomref06_seen [(.t 71), (.t 72)]), oQ 8 (.mv (.t 73))])
  (.keep [1, 3, 4, 8])) (.seq 
 (.seqg (.reg [oQ 9 (.mv (.c (.int .i64 0)))])
  (.keep [1, 3, 4, 8, 9])) 
 (.block 4 
 (.gseq (.keep [1, 3, 4, 8, 9]) (.loop (.seq (.seq 
 (.seqg (.reg [oQ 74 (.mv (.t 9)), oQ 75 (.mv (.t 8)), oQ 76 (.len (.t 75)), oQ 77 (.bin .lss .num (.t 74) (.t 76))])
  (.keep [1, 3, 4, 8, 9, 77])) 
 (.cond (.t 77) .skip (.exit 4))) (.seq 
 (.block 5 (.seq 
 (.seqg (.reg [oQ 80 (.mv (.t 8)), oQ 81 (.mv (.t 9)), oQ 82 (.ix 8 (.t 80) (.t 81)), oQ 83 (.fa 0 (.t 82)), oQ 84 (.ld 7 true (.t 83)), oE 10 (.alloc [.int .i64 0, .str ⟨#[]⟩, .str ⟨#[]⟩, .int .i64 0, .cpx 0 0, .sl .full 7 [], .int .i64 0]), oN (.st 7 (.t 10) (.t 84))])
  (.keep [1, 3, 4, 8, 9, 10])) (.seq (.seq 
 (.seqg (.reg [oQ 85 (.mv (.t 8)), oQ 86 (.mv (.t 9)), oQ 87 (.ix 8 (.t 85) (.t 86)), oQ 88 (.fa 7 (.t 87)), oQ 89 (.ld 1 false (.t 88))])
  (.keep [1, 3, 4, 8, 9, 10, 89])) 
 (.cond (.t 89) 
 (.seqg (.reg [oQ 90 (.mv (.t 3)), oQ 91 (.fa 6 (.t 10)), oQ 92 (.ld 1 false (.t 91)), oQ 93 (.bld [.int .i64 0, .int .i64 0] [(0, 1, (.c (.int .i64 31))), (1, 1, (.t 92))]), oQ 94 (.bsl 2 [(.t 93)]), oE 95 (.app 2 16 (.t 90) (.t 94)), oQ 3 (.mv (.t 95))])
  (.keep [1, 3, 4, 8, 9, 10])) .skip)) (.seq (.seq 
 (.seqg (.reg [oQ 96 (.fa 0 (.t 10)), oQ 97 (.ld 1 false (.t 96)), oQ 98 (.bin .neq .num (.t 97) (.c (.int .i64 7)))])
  (.keep [1, 3, 4, 8, 9, 10, 98])) 
 (.cond (.t 98) (.exit 5) .skip)) (.seq 
 (.seqg (.reg [oQ 99 (.ld 1 true (.t 1)), oQ 100 (.fa 1 (.t 10)), oQ 101 (.ld 1 false (.t 100)), oQ 102 (.call F_fathomref06_heads [(.t 99), (.t 101)]), oQ 11 (.mv (.t 102))])
  (.keep [1, 3, 4, 8, 9, 10, 11])) (.seq 
 (.seqg (.reg [oQ 103 (.mv (.t 11)), oQ 104 (.bin .lss .num (.t 103) (.c (.int .i64 0)))])
  (.keep [1, 3, 4, 8, 9, 10, 11, 104])) 
 (.cond (.t 104) 
 (.seqg (.reg [oQ 105 (.mv (.t 3)), oQ 106 (.fa 6 (.t 10)), oQ 107 (.ld 1 false (.t 106)), oQ 108 (.bld [.int .i64 0, .int .i64 0] [(0, 1, (.c (.int .i64 32))), (1, 1, (.t 107))]), oQ 109 (.bsl 2 [(.t 108)]), oE 110 (.app 2 16 (.t 105) (.t 109)), oQ 3 (.mv (.t 110))])
  (.keep [1, 3, 4, 8, 9])) (.seq 
 (.seqg (.drw [oQ 111 (.fa 0 (.t 1)), oQ 112 (.ld 1 false (.t 111)), oQ 113 (.mv (.t 11)), oQ 114 (.ix 11 (.t 112) (.t 113)), oQ 115 (.fa 1 (.t 114)), oQ 116 (.ld 1 false (.t 115)), oQ 117 (.len (.t 116)), oQ 118 (.fa 5 (.t 10)), oQ 119 (.ld 1 false (.t 118)), oQ 120 (.len (.t 119)), oQ 121 (.bin .neq .num (.t 117) (.t 120))])
  (.keep [1, 3, 4, 8, 9, 10, 121])) 
 (.cond (.t 121) 
 (.seqg (.reg [oQ 122 (.mv (.t 3)), oQ 123 (.fa 6 (.t 10)), oQ 124 (.ld 1 false (.t 123)), oQ 125 (.bld [.int .i64 0, .int .i64 0] [(0, 1, (.c (.int .i64 33))), (1, 1, (.t 124))]), oQ 126 (.bsl 2 [(.t 125)]), oE 127 (.app 2 16 (.t 122) (.t 126)), oQ 3 (.mv (.t 127))])
  (.keep [1, 3, 4, 8, 9])) .skip))))))))) 
 (.seqg (.reg [oQ 78 (.mv (.t 9)), oQ 79 (.bin .add .num (.t 78) (.c (.int .i64 1))), oQ 9 (.mv (.t 79))])
  (.keep [1, 3, 4, 8, 9])))))))))))))) 
 (.seqg (.reg [oQ 17 (.mv (.t 4)), oQ 18 (.bin .add .num (.t 17) (.c (.int .i64 1))), oQ 4 (.mv (.t 18))])
  (.keep [1, 3, 4])))))))) (.seq 
 (.seqg (.reg [oQ 128 (.mv (.t 3)), oQ 2 (.mv (.t 128))])
  (.keep [2])) .ret))))
def r_fathomref06_faults : List ARes := [.t 2]
theorem w_fathomref06_faults : FnW Tryz.prog F_fathomref06_faults c_fathomref06_faults r_fathomref06_faults 129 := ⟨Tryz.f116, (Tryz.f116).body.get rfl, by kernel_rfl, Tryz.func116, by kernel_rfl, by kernel_rfl, by kernel_rfl, by kernel_rfl⟩
def c_fathomref07_own : ACode := (.seq 
 (.seqg (.reg [oQ 3 (.box (.t 0)), oQ 5 (.box (.t 2)), oQ 6 (.mv (.c (.int .i64 0))), oQ 7 (.mv (.c (.bool false)))])
  (.keep [1, 3, 5])) (.seq (.seq 
 (.seqg (.reg [oQ 11 (.fa 0 (.t 5)), oQ 12 (.ld 1 false (.t 11))])
  (.keep [1, 3, 5, 12])) 
 (.block 0 (.seq (.seq 
 (.seqg (.reg [oQ 14 (.bin .eql .num (.t 12) (.c (.int .i64 1))), oQ 13 (.mv (.t 14))])
  (.keep [1, 3, 5, 12, 13])) 
 (.cond (.t 13) .skip (.seq 
 (.seqg (.reg [oQ 15 (.bin .eql .num (.t 12) (.c (.int .i64 8))), oQ 13 (.mv (.t 15))])
  (.keep [1, 3, 5, 12, 13])) 
 (.cond (.t 13) .skip (.seq 
 (.seqg (.reg [oQ 16 (.bin .eql .num (.t 12) (.c (.int .i64 9))), oQ 13 (.mv (.t 16))])
  (.keep [1, 3, 5, 12, 13])) 
 (.cond (.t 13) .skip (.seq 
 (.seqg (.reg [oQ 17 (.bin .eql .num (.t 12) (.c (.int .i64 10))), oQ 13 (.mv (.t 17))])
  (.keep [1, 3, 5, 12, 13])) 
 (.cond (.t 13) .skip (.seq 
 (.seqg (.reg [oQ 18 (.bin .eql .num (.t 12) (.c (.int .i64 11))), oQ 13 (.mv (.t 18))])
  (.keep [1, 3, 5, 12, 13])) 
 (.cond (.t 13) .skip (.seq 
 (.seqg (.reg [oQ 19 (.bin .eql .num (.t 12) (.c (.int .i64 15))), oQ 13 (.mv (.t 19))])
  (.keep [1, 3, 5, 12, 13])) 
 (.cond (.t 13) .skip (.seq 
 (.seqg (.reg [oQ 20 (.bin .eql .num (.t 12) (.c (.int .i64 16))), oQ 13 (.mv (.t 20))])
  (.keep [1, 3, 5, 12, 13])) 
 (.cond (.t 13) .skip 
 (.seqg (.reg [oQ 21 (.bin .eql .num (.t 12) (.c (.int .i64 17))), oQ 13 (.mv (.t 21))])
  (.keep [1, 3, 5, 12, 13])))))))))))))))) 
 (.cond (.t 13) (.seq 
 (.seqg (.reg [oQ 6 (.mv (.c (.int .i64 1))), oQ 7 (.mv (.c (.bool true)))])
  (.keep [6, 7])) .ret) (.seq (.seq 
 (.seqg (.reg [oQ 23 (.bin .eql .num (.t 12) (.c (.int .i64 2))), oQ 22 (.mv (.t 23))])
  (.keep [1, 3, 5, 12, 22])) 
 (.cond (.t 22) .skip (.seq 
 (.seqg (.reg [oQ 24 (.bin .eql .num (.t 12) (.c (.int .i64 3))), oQ 22 (.mv (.t 24))])
  (.keep [1, 3, 5, 12, 22])) 
 (.cond (.t 22) .skip (.seq 
 (.seqg (.reg [oQ 25 (.bin .eql .num (.t 12) (.c (.int .i64 12))), oQ 22 (.mv (.t 25))])
  (.keep [1, 3, 5, 12, 22])) 
 (.cond (.t 22) .skip (.seq 
 (.seqg (.reg [oQ 26 (.bin .eql .num (.t 12) (.c (.int .i64 13))), oQ 22 (.mv (.t 26))])
  (.keep [1, 3, 5, 12, 22])) 
 (.cond (.t 22) .skip 
 (.seqg (.reg [oQ 27 (.bin .eql .num (.t 12) (.c (.int .i64 14))), oQ 22 (.mv (.t 27))])
  (.keep [1, 3, 5, 12, 22])))))))))) 
 (.cond (.t 22) (.seq 
 (.seqg (.reg [oQ 6 (.mv (.c (.int .i64 2))), oQ 7 (.mv (.c (.bool true)))])
  (.keep [6, 7])) .ret) (.seq (.seq 
 (.seqg (.reg [oQ 29 (.bin .eql .num (.t 12) (.c (.int .i64 4))), oQ 28 (.mv (.t 29))])
  (.keep [1, 3, 5, 12, 28])) 
 (.cond (.t 28) .skip 
 (.seqg (.reg [oQ 30 (.bin .eql .num (.t 12) (.c (.int .i64 18))), oQ 28 (.mv (.t 30))])
  (.keep [1, 3, 5, 12, 28])))) 
 (.cond (.t 28) (.seq 
 (.seqg (.reg [oQ 6 (.mv (.c (.int .i64 3))), oQ 7 (.mv (.c (.bool true)))])
  (.keep [6, 7])) .ret) (.seq 
 (.seqg (.reg [oQ 32 (.bin .eql .num (.t 12) (.c (.int .i64 5))), oQ 31 (.mv (.t 32))])
  (.keep [1, 3, 5, 12, 31])) 
 (.cond (.t 31) (.seq 
 (.seqg (.reg [oQ 33 (.fa 3 (.t 5)), oQ 34 (.ld 1 false (.t 33)), oQ 6 (.mv (.t 34)), oQ 7 (.mv (.c (.bool true)))])
  (.keep [6, 7])) .ret) (.seq 
 (.seqg (.reg [oQ 36 (.bin .eql .num (.t 12) (.c (.int .i64 6))), oQ 35 (.mv (.t 36))])
  (.keep [1, 3, 5, 12, 35])) 
 (.cond (.t 35) (.seq (.seq 
 (.seqg (.reg [oQ 37 (.mv (.t 1)), oQ 38 (.len (.t 37)), oQ 39 (.bin .sub .num (.t 38) (.c (.int .i64 1))), oQ 8 (.mv (.t 39))])
  (.keep [1, 5, 8])) 
 (.block 1 
 (.gseq (.keep [1, 5, 8]) (.loop (.seq (.seq 
 (.seqg (.reg [oQ 40 (.mv (.t 8)), oQ 41 (.bin .geq .num (.t 40) (.c (.int .i64 0)))])
  (.keep [1, 5, 8, 41])) 
 (.cond (.t 41) .skip (.exit 1))) (.seq 
 (.block 2 (.seq 
 (.seqg (.drw [oQ 44 (.mv (.t 1)), oQ 45 (.mv (.t 8)), oQ 46 (.ix 3 (.t 44) (.t 45)), oQ 47 (.fa 0 (.t 46)), oQ 48 (.ld 1 false (.t 47)), oQ 49 (.fa 1 (.t 5)), oQ 50 (.ld 1 false (.t 49)), oQ 51 (.bin .eql .other (.t 48) (.t 50))])
  (.keep [1, 5, 8, 51])) 
 (.cond (.t 51) (.seq 
 (.seqg (.reg [oQ 52 (.mv (.t 1)), oQ 53 (.mv (.t 8)), oQ 54 (.ix 3 (.t 52) (.t 53)), oQ 55 (.fa 1 (.t 54)), oQ 56 (.ld 1 false (.t 55)), oQ 6 (.mv (.t 56)), oQ 7 (.mv (.c (.bool true)))])
  (.keep [6, 7])) .ret) .skip))) 
 (.seqg (.reg [oQ 42 (.mv (.t 8)), oQ 43 (.bin .sub .num (.t 42) (.c (.int .i64 1))), oQ 8 (.mv (.t 43))])
  (.keep [1, 5, 8])))))))) (.seq 
 (.seqg (.reg [oQ 6 (.mv (.c (.int .i64 (-1)))), oQ 7 (.mv (.c (.bool true)))])
  (.keep [6, 7])) .ret)) (.seq 
 (.seqg (.reg [oQ 58 (.bin .eql .num (.t 12) (.c (.int .i64 7))), oQ 57 (.mv (.t 58))])
  (.keep [3, 5, 57])) 
 (.cond (.t 57) (.seq 
 (.seqg (.reg [oQ 60 (.ld 1 true (.t 3)), oQ 61 (.fa 1 (.t 5)), oQ 62 (.ld 1 false (.t 61)), oQ 63 (.call F_fathomref07_Head [(.t 60), (.t 62)]), oQ 59 (.mv (.t 63)), oQ 64 (.ext (.t 59) 0), oQ 65 (.ext (.t 59) 1), oE 9 (.alloc [.str ⟨#[]⟩, .sl .full 3 [], .int .i64 0, .int .i64 0, .str ⟨#[]⟩, .str ⟨#[]⟩, .int .i64 0, .cpx 0 0, .sl .full 7 [], .int .i64 0, .int .i64 0]), oN (.st 11 (.t 9) (.t 64)), oQ 10 (.mv (.t 65))])
  (.keep [5, 9, 10])) (.seq (.seq 
 (.seqg (.reg [oQ 66 (.mv (.t 10)), oQ 67 (.not (.t 66)), oQ 68 (.mv (.t 67)), oFQ 69 68 (.fa 1 (.t 9)), oFQ 70 68 (.ld 1 false (.t 69)), oFQ 71 68 (.len (.t 70)), oFQ 72 68 (.fa 5 (.t 5)), oFQ 73 68 (.ld 1 false (.t 72)), oFQ 74 68 (.len (.t 73)), oFQ 75 68 (.bin .neq .num (.t 71) (.t 74)), oQ 76 (.pick (.t 68) (.c (.bool true)) (.t 75))])
  (.keep [9, 76])) 
 (.cond (.t 76) (.seq 
 (.seqg (.reg [oQ 6 (.mv (.c (.int .i64 (-1)))), oQ 7 (.mv (.c (.bool true)))])
  (.keep [6, 7])) .ret) .skip)) (.seq 
 (.seqg (.reg [oQ 77 (.fa 2 (.t 9)), oQ 78 (.ld 1 false (.t 77)), oQ 6 (.mv (.t 78)), oQ 7 (.mv (.c (.bool true)))])
  (.keep [6, 7])) .ret))) .skip)))))))))))))) (.seq 
 (.seqg (.reg [oQ 6 (.mv (.c (.int .i64 0))), oQ 7 (.mv (.c (.bool false)))])
  (.keep [6, 7])) .ret)))
def r_fathomref07_own : List ARes := [.t 6, .t 7]
theorem w_fathomref07_own : FnW Tryz.prog F_fathomref07_own c_fathomref07_own r_fathomref07_own 79 := ⟨Tryz.f117, (Tryz.f117).body.get rfl, by kernel_rfl, Tryz.func117, by kernel_rfl, by kernel_rfl, by kernel_rfl, by kernel_rfl⟩
def c_fathomref07_Within : ACode := (.seq 
 (.seqg (.reg [oQ 4 (.box (.t 1)), oQ 6 (.mv (.c (.sl .full 3 [])))])
  (.keep [0, 2, 4])) (.seq 
 (.block 0 (.seq (.seq 
 (.seqg (.reg [oQ 9 (.fa 0 (.t 4)), oQ 10 (.ld 1 false (.t 9)), oQ 11 (.bin .eql .num (.t 10) (.c (.int .i64 21))), oQ 8 (.mv (.t 11))])
  (.keep [0, 2, 4, 8])) 
 (.cond (.t 8) .skip 
 (.seqg (.reg [oQ 12 (.fa 0 (.t 4)), oQ 13 (.ld 1 false (.t 12)), oQ 14 (.bin .eql .num (.t 13) (.c (.int .i64 22))), oQ 15 (.mv (.t 14)), oTQ 16 15 (.mv (.t 2)), oTQ 17 15 (.bin .eql .num (.t 16) (.c (.int .i64 1))), oQ 18 (.pick (.t 15) (.t 17) (.c (.bool false))), oQ 8 (.mv (.t 18))])
  (.keep [0, 2, 4, 8])))) 
 (.cond (.t 8) (.seq 
 (.seqg (.reg [oQ 19 (.mv (.t 0)), oQ 20 (.fa 1 (.t 4)), oQ 21 (.ld 1 false (.t 20)), oQ 22 (.fa 3 (.t 4)), oQ 23 (.ld 1 false (.t 22)), oQ 24 (.call F_fathomref07_with [(.t 19), (.t 21), (.t 23)]), oQ 6 (.mv (.t 24))])
  (.keep [6])) .ret) (.seq 
 (.seqg (.reg [oQ 26 (.fa 0 (.t 4)), oQ 27 (.ld 1 false (.t 26)), oQ 28 (.bin .eql .num (.t 27) (.c (.int .i64 20))), oQ 29 (.mv (.t 28)), oTQ 30 29 (.mv (.t 2)), oTQ 31 29 (.bin .eql .num (.t 30) (.c (.int .i64 2))), oQ 32 (.pick (.t 29) (.t 31) (.c (.bool false))), oQ 25 (.mv (.t 32))])
  (.keep [0, 4, 25])) 
 (.cond (.t 25) (.seq 
 (.seqg (.reg [oQ 33 (.mv (.t 0)), oQ 34 (.fa 1 (.t 4)), oQ 35 (.ld 1 false (.t 34)), oQ 36 (.call F_fathomref07_with [(.t 33), (.t 35), (.c (.int .i64 1))]), oQ 7 (.mv (.t 36))])
  (.keep [4, 7])) (.seq 
 (.seqg (.reg [oQ 37 (.mv (.t 7)), oQ 38 (.fa 2 (.t 4)), oQ 39 (.ld 1 false (.t 38)), oQ 40 (.call F_fathomref07_with [(.t 37), (.t 39), (.c (.int .i64 3))]), oQ 6 (.mv (.t 40))])
  (.keep [6])) .ret)) .skip))))) (.seq 
 (.seqg (.reg [oQ 41 (.mv (.t 0)), oQ 6 (.mv (.t 41))])
  (.keep [6])) .ret)))
def r_fathomref07_Within : List ARes := [.t 6]
theorem w_fathomref07_Within : FnW Tryz.prog F_fathomref07_Within c_fathomref07_Within r_fathomref07_Within 42 := ⟨Tryz.f118, (Tryz.f118).body.get rfl, by kernel_rfl, Tryz.func118, by kernel_rfl, by kernel_rfl, by kernel_rfl, by kernel_rfl⟩
def c_fathomref07_Wanted : ACode := (.seq 
 (.seqg (.reg [oQ 4 (.box (.t 0)), oQ 5 (.box (.t 1)), oQ 8 (.mv (.c (.int .i64 0)))])
  (.keep [2, 3, 4, 5])) (.seq (.seq 
 (.seqg (.reg [oQ 11 (.fa 0 (.t 5)), oQ 12 (.ld 1 false (.t 11))])
  (.keep [2, 3, 4, 5, 12])) 
 (.block 0 (.seq 
 (.seqg (.reg [oQ 14 (.bin .eql .num (.t 12) (.c (.int .i64 14))), oQ 13 (.mv (.t 14))])
  (.keep [2, 3, 4, 5, 12, 13])) 
 (.cond (.t 13) (.seq 
 (.seqg (.reg [oQ 8 (.mv (.c (.int .i64 2)))])
  (.keep [8])) .ret) (.seq 
 (.seqg (.reg [oQ 16 (.bin .eql .num (.t 12) (.c (.int .i64 18))), oQ 15 (.mv (.t 16))])
  (.keep [2, 3, 4, 5, 12, 15])) 
 (.cond (.t 15) (.seq 
 (.seqg (.reg [oQ 17 (.mv (.t 2)), oQ 18 (.bin .eql .num (.t 17) (.c (.int .i64 1)))])
  (.keep [18])) 
 (.cond (.t 18) (.seq 
 (.seqg (.reg [oQ 8 (.mv (.c (.int .i64 3)))])
  (.keep [8])) .ret) .skip)) (.seq 
 (.seqg (.reg [oQ 20 (.bin .eql .num (.t 12) (.c (.int .i64 7))), oQ 19 (.mv (.t 20))])
  (.keep [2, 3, 4, 5, 12, 19])) 
 (.cond (.t 19) (.seq 
 (.seqg (.reg [oQ 22 (.ld 1 true (.t 4)), oQ 23 (.fa 1 (.t 5)), oQ 24 (.ld 1 false (.t 23)), oQ 25 (.call F_fathomref07_Head [(.t 22), (.t 24)]), oQ 21 (.mv (.t 25)), oQ 26 (.ext (.t 21) 0), oQ 27 (.ext (.t 21) 1), oE 9 (.alloc [.str ⟨#[]⟩, .sl .full 3 [], .int .i64 0, .int .i64 0, .str ⟨#[]⟩, .str ⟨#[]⟩, .int .i64 0, .cpx 0 0, .sl .full 7 [], .int .i64 0, .int .i64 0]), oN (.st 11 (.t 9) (.t 26)), oQ 10 (.mv (.t 27))])
  (.keep [2, 9, 10])) (.seq 
 (.seqg (.reg [oQ 28 (.mv (.t 10)), oQ 29 (.mv (.t 28)), oTQ 30 29 (.mv (.t 2)), oTQ 31 29 (.fa 1 (.t 9)), oTQ 32 29 (.ld 1 false (.t 31)), oTQ 33 29 (.len (.t 32)), oTQ 34 29 (.bin .lss .num (.t 30) (.t 33)), oQ 35 (.pick (.t 29) (.t 34) (.c (.bool false)))])
  (.keep [2, 9, 35])) 
 (.cond (.t 35) (.seq 
 (.seqg (.reg [oQ 36 (.fa 1 (.t 9)), oQ 37 (.ld 1 false (.t 36)), oQ 38 (.mv (.t 2)), oQ 39 (.ix 3 (.t 37) (.t 38)), oQ 40 (.fa 1 (.t 39)), oQ 41 (.ld 1 false (.t 40)), oQ 8 (.mv (.t 41))])
  (.keep [8])) .ret) .skip))) (.seq 
 (.seqg (.reg [oQ 43 (.bin .eql .num (.t 12) (.c (.int .i64 19))), oQ 42 (.mv (.t 43))])
  (.keep [2, 3, 5, 12, 42])) 
 (.cond (.t 42) (.seq (.seq 
 (.seqg (.reg [oQ 44 (.mv (.t 2)), oQ 45 (.bin .eql .num (.t 44) (.c (.int .i64 0)))])
  (.keep [3, 45])) 
 (.cond (.t 45) (.seq 
 (.seqg (.reg [oQ 8 (.mv (.c (.int .i64 2)))])
  (.keep [8])) .ret) .skip)) (.seq 
 (.seqg (.reg [oQ 46 (.mv (.t 3)), oQ 8 (.mv (.t 46))])
  (.keep [8])) .ret)) (.seq 
 (.seqg (.reg [oQ 48 (.bin .eql .num (.t 12) (.c (.int .i64 20))), oQ 47 (.mv (.t 48))])
  (.keep [2, 3, 5, 12, 47])) 
 (.cond (.t 47) (.seq (.seq 
 (.seqg (.reg [oQ 49 (.mv (.t 2)), oQ 50 (.bin .eql .num (.t 49) (.c (.int .i64 0)))])
  (.keep [3, 50])) 
 (.cond (.t 50) (.seq 
 (.seqg (.reg [oQ 8 (.mv (.c (.int .i64 3)))])
  (.keep [8])) .ret) .skip)) (.seq 
 (.seqg (.reg [oQ 51 (.mv (.t 3)), oQ 8 (.mv (.t 51))])
  (.keep [8])) .ret)) (.seq (.seq 
 (.seqg (.reg [oQ 53 (.bin .eql .num (.t 12) (.c (.int .i64 21))), oQ 52 (.mv (.t 53))])
  (.keep [2, 3, 5, 12, 52])) 
 (.cond (.t 52) .skip 
 (.seqg (.reg [oQ 54 (.bin .eql .num (.t 12) (.c (.int .i64 22))), oQ 52 (.mv (.t 54))])
  (.keep [2, 3, 5, 52])))) 
 (.cond (.t 52) (.seq (.seq 
 (.seqg (.reg [oQ 55 (.mv (.t 2)), oQ 56 (.bin .eql .num (.t 55) (.c (.int .i64 0)))])
  (.keep [3, 5, 56])) 
 (.cond (.t 56) (.seq 
 (.seqg (.reg [oQ 57 (.fa 3 (.t 5)), oQ 58 (.ld 1 false (.t 57)), oQ 8 (.mv (.t 58))])
  (.keep [8])) .ret) .skip)) (.seq 
 (.seqg (.reg [oQ 59 (.mv (.t 3)), oQ 8 (.mv (.t 59))])
  (.keep [8])) .ret)) .skip)))))))))))))) (.seq 
 (.seqg (.reg [oQ 8 (.mv (.c (.int .i64 1)))])
  (.keep [8])) .ret)))
def r_fathomref07_Wanted : List ARes := [.t 8]
theorem w_fathomref07_Wanted : FnW Tryz.prog F_fathomref07_Wanted c_fathomref07_Wanted r_fathomref07_Wanted 60 := ⟨Tryz.f119, (Tryz.f119).body.get rfl, by kernel_rfl, Tryz.func119, by kernel_rfl, by kernel_rfl, by kernel_rfl, by kernel_rfl⟩
def c_points_Cases : ACode := (.seq 
 (.seqg (.reg [oQ 2 (.mv (.c (.sl .full 3 []))), oQ 3 (.mv (.c (.int .i64 0)))])
  (.keep [0])) (.seq (.seq 
 (.seqg (.reg [oQ 4 (.mv (.t 0)), oQ 5 (.call F_points_Check [(.c (.int .i64 3)), (.t 4)]), oQ 6 (.bin .neq .num (.t 5) (.c (.int .i64 0)))])
  (.keep [0, 6])) 
 (.cond (.t 6) (.seq 
 (.seqg (.reg [oQ 2 (.mv (.c (.sl .full 3 []))), oQ 3 (.mv (.c (.int .i64 2)))])
  (.keep [2, 3])) .ret) .skip)) (.seq (.seq 
 (.seqg (.reg [oQ 7 (.mv (.t 0))])
  (.keep [7])) 
 (.block 0 (.seq 
 (.seqg (.reg [oQ 9 (.bin .eql .num (.t 7) (.c (.int .i64 0))), oQ 8 (.mv (.t 9))])
  (.keep [7, 8])) 
 (.cond (.t 8) (.seq 
 (.seqg (.reg [oQ 2 (.mv (.c (.sl .full 3 []))), oQ 3 (.mv (.c (.int .i64 0)))])
  (.keep [2, 3])) .ret) (.seq 
 (.seqg (.reg [oQ 11 (.bin .eql .num (.t 7) (.c (.int .i64 2))), oQ 10 (.mv (.t 11))])
  (.keep [7, 10])) 
 (.cond (.t 10) (.seq 
 (.seqg (.reg [oQ 12 (.bld [.bool false, .int .i64 0, .int .i64 0] [(2, 1, (.c (.int .i64 3)))]), oQ 13 (.bld [.bool false, .int .i64 0, .int .i64 0] [(1, 1, (.c (.int .i64 1))), (2, 1, (.c (.int .i64 2)))]), oQ 14 (.bsl 3 [(.t 12), (.t 13)]), oQ 2 (.mv (.t 14)), oQ 3 (.mv (.c (.int .i64 0)))])
  (.keep [2, 3])) .ret) (.seq 
 (.seqg (.reg [oQ 16 (.bin .eql .num (.t 7) (.c (.int .i64 3))), oQ 15 (.mv (.t 16))])
  (.keep [15])) 
 (.cond (.t 15) (.seq 
 (.seqg (.reg [oQ 17 (.bld [.bool false, .int .i64 0, .int .i64 0] [(0, 1, (.c (.bool true)))]), oQ 18 (.bld [.bool false, .int .i64 0, .int .i64 0] [(1, 1, (.c (.int .i64 1))), (2, 1, (.c (.int .i64 3)))]), oQ 19 (.bsl 3 [(.t 17), (.t 18)]), oQ 2 (.mv (.t 19)), oQ 3 (.mv (.c (.int .i64 0)))])
  (.keep [2, 3])) .ret) .skip)))))))) (.seq 
 (.seqg (.reg [oQ 20 (.bld [.bool false, .int .i64 0, .int .i64 0] [(1, 1, (.c (.int .i64 1))), (2, 1, (.c (.int .i64 1)))]), oQ 21 (.bsl 3 [(.t 20)]), oQ 2 (.mv (.t 21)), oQ 3 (.mv (.c (.int .i64 0)))])
  (.keep [2, 3])) .ret))))
def r_points_Cases : List ARes := [.t 2, .t 3]
theorem w_points_Cases : FnW Tryz.prog F_points_Cases c_points_Cases r_points_Cases 22 := ⟨Tryz.f120, (Tryz.f120).body.get rfl, by kernel_rfl, Tryz.func120, by kernel_rfl, by kernel_rfl, by kernel_rfl, by kernel_rfl⟩
def c_points_Cons : ACode := (.seq 
 (.seqg (.reg [oQ 4 (.mv (.c (.int .i64 0))), oQ 5 (.mv (.c (.int .i64 0)))])
  (.keep [0, 1])) (.seq (.seq 
 (.seqg (.reg [oQ 6 (.mv (.t 0)), oQ 7 (.call F_points_Check [(.c (.int .i64 1)), (.t 6)]), oQ 8 (.bin .neq .num (.t 7) (.c (.int .i64 0))), oQ 9 (.mv (.t 8)), oFQ 10 9 (.mv (.t 1)), oFQ 11 9 (.call F_points_Check [(.c (.int .i64 3)), (.t 10)]), oFQ 12 9 (.bin .neq .num (.t 11) (.c (.int .i64 0))), oQ 13 (.pick (.t 9) (.c (.bool true)) (.t 12))])
  (.keep [0, 1, 13])) 
 (.cond (.t 13) (.seq 
 (.seqg (.reg [oQ 4 (.mv (.c (.int .i64 0))), oQ 5 (.mv (.c (.int .i64 2)))])
  (.keep [4, 5])) .ret) .skip)) (.seq 
 (.seqg (.reg [oQ 14 (.mv (.t 1)), oQ 15 (.mv (.t 0)), oQ 16 (.bin .add .num (.c (.int .i64 2)) (.t 15)), oQ 17 (.mm false (.t 14) [(.t 16)]), oQ 18 (.mm true (.c (.int .i64 1)) [(.t 17)]), oQ 4 (.mv (.t 18)), oQ 5 (.mv (.c (.int .i64 0)))])
  (.keep [4, 5])) .ret)))
def r_points_Cons : List ARes := [.t 4, .t 5]
theorem w_points_Cons : FnW Tryz.prog F_points_Cons c_points_Cons r_points_Cons 19 := ⟨Tryz.f121, (Tryz.f121).body.get rfl, by kernel_rfl, Tryz.func121, by kernel_rfl, by kernel_rfl, by kernel_rfl, by kernel_rfl⟩
def c_fathomref15_Cases : ACode := (.seq 
 (.seqg (.reg [oQ 2 (.mv (.c (.sl .full 3 [])))])
  (.keep [0])) (.seq (.seq 
 (.seqg (.reg [oQ 3 (.mv (.t 0))])
  (.keep [3])) 
 (.block 0 (.seq 
 (.seqg (.reg [oQ 5 (.bin .eql .num (.t 3) (.c (.int .i64 1))), oQ 4 (.mv (.t 5))])
  (.keep [3, 4])) 
 (.cond (.t 4) (.seq 
 (.seqg (.reg [oQ 6 (.bld [.bool false, .int .i64 0, .int .i64 0] [(1, 1, (.c (.int .i64 1))), (2, 1, (.c (.int .i64 1)))]), oQ 7 (.bsl 3 [(.t 6)]), oQ 2 (.mv (.t 7))])
  (.keep [2])) .ret) (.seq 
 (.seqg (.reg [oQ 9 (.bin .eql .num (.t 3) (.c (.int .i64 2))), oQ 8 (.mv (.t 9))])
  (.keep [3, 8])) 
 (.cond (.t 8) (.seq 
 (.seqg (.reg [oQ 10 (.bld [.bool false, .int .i64 0, .int .i64 0] [(2, 1, (.c (.int .i64 3)))]), oQ 11 (.bld [.bool false, .int .i64 0, .int .i64 0] [(1, 1, (.c (.int .i64 1))), (2, 1, (.c (.int .i64 2)))]), oQ 12 (.bsl 3 [(.t 10), (.t 11)]), oQ 2 (.mv (.t 12))])
  (.keep [2])) .ret) (.seq 
 (.seqg (.reg [oQ 14 (.bin .eql .num (.t 3) (.c (.int .i64 3))), oQ 13 (.mv (.t 14))])
  (.keep [13])) 
 (.cond (.t 13) (.seq 
 (.seqg (.reg [oQ 15 (.bld [.bool false, .int .i64 0, .int .i64 0] [(0, 1, (.c (.bool true)))]), oQ 16 (.bld [.bool false, .int .i64 0, .int .i64 0] [(1, 1, (.c (.int .i64 1))), (2, 1, (.c (.int .i64 3)))]), oQ 17 (.bsl 3 [(.t 15), (.t 16)]), oQ 2 (.mv (.t 17))])
  (.keep [2])) .ret) .skip)))))))) (.seq 
 (.seqg (.reg [oQ 2 (.mv (.c (.sl .full 3 [])))])
  (.keep [2])) .ret)))
def r_fathomref15_Cases : List ARes := [.t 2]
theorem w_fathomref15_Cases : FnW Tryz.prog F_fathomref15_Cases c_fathomref15_Cases r_fathomref15_Cases 18 := ⟨Tryz.f122, (Tryz.f122).body.get rfl, by kernel_rfl, Tryz.func122, by kernel_rfl, by kernel_rfl, by kernel_rfl, by kernel_rfl⟩
def c_fathomref15_Cons : ACode := (.seq 
 (.seqg (.reg [oQ 4 (.mv (.c (.int .i64 0)))])
  (.keep [0, 1])) (.seq (.seq 
 (.seqg (.reg [oQ 5 (.mv (.t 1)), oQ 6 (.bin .eql .num (.t 5) (.c (.int .i64 0)))])
  (.keep [0, 1, 6])) 
 (.cond (.t 6) (.seq 
 (.seqg (.reg [oQ 4 (.mv (.c (.int .i64 1)))])
  (.keep [4])) .ret) .skip)) (.seq (.seq 
 (.seqg (.reg [oQ 7 (.mv (.t 1)), oQ 8 (.bin .eql .num (.t 7) (.c (.int .i64 3))), oQ 9 (.mv (.t 8)), oTQ 10 9 (.mv (.t 0)), oTQ 11 9 (.bin .eql .num (.t 10) (.c (.int .i64 0))), oQ 12 (.pick (.t 9) (.t 11) (.c (.bool false)))])
  (.keep [1, 12])) 
 (.cond (.t 12) (.seq 
 (.seqg (.reg [oQ 4 (.mv (.c (.int .i64 2)))])
  (.keep [4])) .ret) .skip)) (.seq 
 (.seqg (.reg [oQ 13 (.mv (.t 1)), oQ 4 (.mv (.t 13))])
  (.keep [4])) .ret))))
def r_fathomref15_Cons : List ARes := [.t 4]
theorem w_fathomref15_Cons : FnW Tryz.prog F_fathomref15_Cons c_fathomref15_Cons r_fathomref15_Cons 14 := ⟨Tryz.f123, (Tryz.f123).body.get rfl, by kernel_rfl, Tryz.func123, by kernel_rfl, by kernel_rfl, by kernel_rfl, by kernel_rfl⟩
def c_fathomref17_number : ACode := (.seq 
 (.seqg (.reg [oQ 2 (.box (.t 0)), oQ 4 (.mv (.c (.int .i64 0)))])
  (.keep [1, 2])) (.seq 
 (.seqg (.reg [oQ 5 (.mv (.c (.int .i64 0)))])
  (.keep [1, 2, 5])) (.seq 
 (.block 0 
 (.gseq (.keep [1, 2, 5]) (.loop (.seq (.seq 
 (.seqg (.reg [oQ 6 (.fa 0 (.t 2)), oQ 7 (.ld 1 false (.t 6)), oQ 8 (.mv (.t 5)), oQ 9 (.ix 11 (.t 7) (.t 8)), oQ 10 (.fa 0 (.t 9)), oQ 11 (.ld 1 false (.t 10)), oQ 12 (.mv (.t 1)), oQ 13 (.bin .neq .other (.t 11) (.t 12))])
  (.keep [1, 2, 5, 13])) 
 (.cond (.t 13) .skip (.exit 0))) 
 (.block 1 
 (.seqg (.reg [oQ 14 (.mv (.t 5)), oQ 15 (.bin .add .num (.t 14) (.c (.int .i64 1))), oQ 5 (.mv (.t 15))])
  (.keep [1, 2, 5]))))))) (.seq 
 (.seqg (.reg [oQ 16 (.mv (.t 5)), oQ 4 (.mv (.t 16))])
  (.keep [4])) .ret))))
def r_fathomref17_number : List ARes := [.t 4]
theorem w_fathomref17_number : FnW Tryz.prog F_fathomref17_number c_fathomref17_number r_fathomref17_number 17 := ⟨Tryz.f124, (Tryz.f124).body.get rfl, by kernel_rfl, Tryz.func124, by kernel_rfl, by kernel_rfl, by kernel_rfl, by kernel_rfl⟩
def c_fathomref03_letter : ACode := (.seq 
 (.seqg (.reg [oQ 2 (.mv (.c (.bool false)))])
  (.keep [0])) (.seq 
 (.seqg (.reg [oQ 3 (.mv (.t 0)), oQ 4 (.bin .geq .num (.t 3) (.c (.int .u8 65))), oQ 5 (.mv (.t 4)), oTQ 6 5 (.mv (.t 0)), oTQ 7 5 (.bin .leq .num (.t 6) (.c (.int .u8 90))), oQ 8 (.pick (.t 5) (.t 7) (.c (.bool false))), oQ 9 (.mv (.t 8)), oFQ 10 9 (.mv (.t 0)), oFQ 11 9 (.bin .geq .num (.t 10) (.c (.int .u8 97))), oFQ 12 9 (.mv (.t 11)), oTQ 13 12 (.mv (.t 0)), oTQ 14 12 (.bin .leq .num (.t 13) (.c (.int .u8 122))), oFQ 15 9 (.pick (.t 12) (.t 14) (.c (.bool false))), oQ 16 (.pick (.t 9) (.c (.bool true)) (.t 15)), oQ 2 (.mv (.t 16))])
  (.keep [2])) .ret))
def r_fathomref03_letter : List ARes := [.t 2]
theorem w_fathomref03_letter : FnW Tryz.prog F_fathomref03_letter c_fathomref03_letter r_fathomref03_letter 17 := ⟨Tryz.f125, (Tryz.f125).body.get rfl, by kernel_rfl, Tryz.func125, by kernel_rfl, by kernel_rfl, by kernel_rfl, by kernel_rfl⟩
def c_fathomref01_whole : ACode := (.seq 
 (.seqg (.reg [oQ 2 (.mv (.c (.int .i64 0))), oQ 3 (.mv (.c (.int .i64 0)))])
  (.keep [0])) (.seq 
 (.seqg (.reg [oQ 4 (.mv (.c (.int .i64 0)))])
  (.keep [0, 4])) (.seq (.seq 
 (.seqg (.reg [oQ 7 (.mv (.t 0)), oQ 8 (.lens (.t 7)), oQ 9 (.bin .gtr .num (.t 8) (.c (.int .i64 0))), oQ 10 (.mv (.t 9)), oTQ 11 10 (.mv (.t 0)), oTQ 12 10 (.ixs (.t 11) (.c (.int .i64 0))), oTQ 13 10 (.bin .eql .num (.t 12) (.c (.int .u8 45))), oQ 14 (.pick (.t 10) (.t 13) (.c (.bool false)))])
  (.keep [0, 4, 14])) 
 (.cond (.t 14) 
 (.seqg (.reg [oQ 4 (.mv (.c (.int .i64 1)))])
  (.keep [0, 4])) .skip)) (.seq 
 (.seqg (.reg [oQ 5 (.mv (.c (.int .i64 0)))])
  (.keep [0, 4, 5])) (.seq 
 (.seqg (.reg [oQ 15 (.mv (.t 4)), oQ 6 (.mv (.t 15))])
  (.keep [0, 4, 5, 6])) (.seq 
 (.block 0 
 (.gseq (.keep [0, 4, 5, 6]) (.loop (.seq (.seq 
 (.seqg (.reg [oQ 16 (.mv (.t 6)), oQ 17 (.mv (.t 0)), oQ 18 (.lens (.t 17)), oQ 19 (.bin .lss .num (.t 16) (.t 18)), oQ 20 (.mv (.t 19)), oTQ 21 20 (.mv (.t 0)), oTQ 22 20 (.mv (.t 6)), oTQ 23 20 (.ixs (.t 21) (.t 22)), oTQ 24 20 (.bin .geq .num (.t 23) (.c (.int .u8 48))), oQ 25 (.pick (.t 20) (.t 24) (.c (.bool false))), oQ 26 (.mv (.t 25)), oTQ 27 26 (.mv (.t 0)), oTQ 28 26 (.mv (.t 6)), oTQ 29 26 (.ixs (.t 27) (.t 28)), oTQ 30 26 (.bin .leq .num (.t 29) (.c (.int .u8 57))), oQ 31 (.pick (.t 26) (.t 30) (.c (.bool false)))])
  (.keep [0, 4, 5, 6, 31])) 
 (.cond (.t 31) .skip (.exit 0))) 
 (.block 1 (.seq 
 (.seqg (.reg [oQ 32 (.mv (.t 5)), oQ 33 (.bin .mul .num (.c (.int .i64 10)) (.t 32)), oQ 34 (.mv (.t 0)), oQ 35 (.mv (.t 6)), oQ 36 (.ixs (.t 34) (.t 35)), oQ 37 (.bin .sub .num (.t 36) (.c (.int .u8 48))), oQ 38 (.cvi .i64 (.t 37)), oQ 39 (.bin .add .num (.t 33) (.t 38)), oQ 40 (.mm false (.t 39) [(.c (.int .i64 16777217))]), oQ 5 (.mv (.t 40))])
  (.keep [0, 4, 5, 6])) 
 (.seqg (.reg [oQ 41 (.mv (.t 6)), oQ 42 (.bin .add .num (.t 41) (.c (.int .i64 1))), oQ 6 (.mv (.t 42))])
  (.keep [0, 4, 5, 6])))))))) (.seq (.seq 
 (.seqg (.reg [oQ 43 (.mv (.t 6)), oQ 44 (.mv (.t 4)), oQ 45 (.bin .eql .num (.t 43) (.t 44))])
  (.keep [4, 5, 6, 45])) 
 (.cond (.t 45) (.seq 
 (.seqg (.reg [oQ 2 (.mv (.c (.int .i64 0))), oQ 3 (.mv (.c (.int .i64 0)))])
  (.keep [2, 3])) .ret) .skip)) (.seq (.seq 
 (.seqg (.reg [oQ 46 (.mv (.t 4)), oQ 47 (.bin .eql .num (.t 46) (.c (.int .i64 1)))])
  (.keep [5, 6, 47])) 
 (.cond (.t 47) 
 (.seqg (.reg [oQ 48 (.mv (.t 5)), oQ 49 (.neg (.t 48)), oQ 5 (.mv (.t 49))])
  (.keep [5, 6])) .skip)) (.seq 
 (.seqg (.reg [oQ 50 (.mv (.t 5)), oQ 51 (.mv (.t 6)), oQ 2 (.mv (.t 50)), oQ 3 (.mv (.t 51))])
  (.keep [2, 3])) .ret)))))))))
def r_fathomref01_whole : List ARes := [.t 2, .t 3]
theorem w_fathomref01_whole : FnW Tryz.prog F_fathomref01_whole c_fathomref01_whole r_fathomref01_whole 52 := ⟨Tryz.f126, (Tryz.f126).body.get rfl, by kernel_rfl, Tryz.func126, by kernel_rfl, by kernel_rfl, by kernel_rfl, by kernel_rfl⟩
def c_fathomref01_in : ACode := (.seq 
 (.seqg (.reg [oQ 1 (.box (.t 0)), oE 2 (.alloc [.int .i64 0, .int .i64 0]), oQ 3 (.mv (.c (.int .i64 0)))])
  (.keep [1, 2])) (.seq (.seq 
 (.seqg (.reg [oQ 4 (.fa 0 (.t 1)), oQ 5 (.ld 1 false (.t 4)), oQ 6 (.bin .lss .num (.t 5) (.c (.int .i64 (-16777216)))), oQ 7 (.mv (.t 6)), oFQ 8 7 (.fa 0 (.t 1)), oFQ 9 7 (.ld 1 false (.t 8)), oFQ 10 7 (.bin .gtr .num (.t 9) (.c (.int .i64 16777216))), oQ 11 (.pick (.t 7) (.c (.bool true)) (.t 10)), oQ 12 (.mv (.t 11)), oFQ 13 12 (.fa 1 (.t 1)), oFQ 14 12 (.ld 1 false (.t 13)), oFQ 15 12 (.bin .lss .num (.t 14) (.c (.int .i64 (-16777216)))), oQ 16 (.pick (.t 12) (.c (.bool true)) (.t 15)), oQ 17 (.mv (.t 16)), oFQ 18 17 (.fa 1 (.t 1)), oFQ 19 17 (.ld 1 false (.t 18)), oFQ 20 17 (.bin .gtr .num (.t 19) (.c (.int .i64 16777216))), oQ 21 (.pick (.t 17) (.c (.bool true)) (.t 20))])
  (.keep [1, 2, 21])) 
 (.cond (.t 21) (.seq 
 (.seqg (.reg [oQ 22 (.bld [.int .i64 0, .int .i64 0] []), oN (.st 2 (.t 2) (.t 22)), oQ 3 (.mv (.c (.int .i64 50)))])
  (.keep [2, 3])) .ret) .skip)) (.seq 
 (.seqg (.reg [oQ 23 (.ld 2 true (.t 1)), oN (.st 2 (.t 2) (.t 23)), oQ 3 (.mv (.c (.int .i64 0)))])
  (.keep [2, 3])) .ret)))
def r_fathomref01_in : List ARes := [.c 2 2 true, .t 3]
theorem w_fathomref01_in : FnW Tryz.prog F_fathomref01_in c_fathomref01_in r_fathomref01_in 24 := ⟨Tryz.f127, (Tryz.f127).body.get rfl, by kernel_rfl, Tryz.func127, by kernel_rfl, by kernel_rfl, by kernel_rfl, by kernel_rfl⟩
def c_fathomref01_Text : ACode := (.seq 
 (.seqg (.reg [oQ 1 (.box (.t 0)), oQ 2 (.mv (.c (.str ⟨#[]⟩)))])
  (.keep [1])) (.seq 
 (.block 0 (.seq 
 (.seqg (.reg [oQ 4 (.fa 1 (.t 1)), oQ 5 (.ld 1 false (.t 4)), oQ 6 (.bin .eql .num (.t 5) (.c (.int .i64 0))), oQ 3 (.mv (.t 6))])
  (.keep [1, 3])) 
 (.cond (.t 3) (.seq 
 (.seqg (.reg [oQ 7 (.fa 0 (.t 1)), oQ 8 (.ld 1 false (.t 7)), oQ 9 (.call F_fathomref01_digits [(.t 8)]), oQ 2 (.mv (.t 9))])
  (.keep [2])) .ret) (.seq 
 (.seqg (.reg [oQ 11 (.fa 0 (.t 1)), oQ 12 (.ld 1 false (.t 11)), oQ 13 (.bin .eql .num (.t 12) (.c (.int .i64 0))), oQ 10 (.mv (.t 13))])
  (.keep [1, 10])) 
 (.cond (.t 10) (.seq 
 (.seqg (.reg [oQ 14 (.fa 1 (.t 1)), oQ 15 (.ld 1 false (.t 14)), oQ 16 (.call F_fathomref01_digits [(.t 15)]), oQ 17 (.bin .add .other (.t 16) (.c (.str ⟨#[105]⟩))), oQ 2 (.mv (.t 17))])
  (.keep [2])) .ret) (.seq 
 (.seqg (.reg [oQ 19 (.fa 1 (.t 1)), oQ 20 (.ld 1 false (.t 19)), oQ 21 (.bin .gtr .num (.t 20) (.c (.int .i64 0))), oQ 18 (.mv (.t 21))])
  (.keep [1, 18])) 
 (.cond (.t 18) (.seq 
 (.seqg (.drw [oQ 22 (.fa 0 (.t 1)), oQ 23 (.ld 1 false (.t 22)), oQ 24 (.call F_fathomref01_digits [(.t 23)]), oQ 25 (.bin .add .other (.t 24) (.c (.str ⟨#[43]⟩))), oQ 26 (.fa 1 (.t 1)), oQ 27 (.ld 1 false (.t 26)), oQ 28 (.call F_fathomref01_digits [(.t 27)]), oQ 29 (.bin .add .other (.t 25) (.t 28)), oQ 30 (.bin .add .other (.t 29) (.c (.str ⟨#[105]⟩))), oQ 2 (.mv (.t 30))])
  (.keep [2])) .ret) .skip))))))) (.seq 
 (.seqg (.drw [oQ 31 (.fa 0 (.t 1)), oQ 32 (.ld 1 false (.t 31)), oQ 33 (.call F_fathomref01_digits [(.t 32)]), oQ 34 (.fa 1 (.t 1)), oQ 35 (.ld 1 false (.t 34)), oQ 36 (.call F_fathomref01_digits [(.t 35)]), oQ 37 (.bin .add .other (.t 33) (.t 36)), oQ 38 (.bin .add .other (.t 37) (.c (.str ⟨#[105]⟩))), oQ 2 (.mv (.t 38))])
  (.keep [2])) .ret)))
def r_fathomref01_Text : List ARes := [.t 2]
theorem w_fathomref01_Text : FnW Tryz.prog F_fathomref01_Text c_fathomref01_Text r_fathomref01_Text 39 := ⟨Tryz.f128, (Tryz.f128).body.get rfl, by kernel_rfl, Tryz.func128, by kernel_rfl, by kernel_rfl, by kernel_rfl, by kernel_rfl⟩
def c_fathomref03_Words : ACode := (.seq 
 (.seqg (.reg [oQ 0 (.mv (.c (.sl .full 1 [])))])
  (.keep [])) (.seq 
 (.seqg (.reg [oQ 1 (.bsl 1 [(.c (.str ⟨#[66]⟩)), (.c (.str ⟨#[76]⟩)), (.c (.str ⟨#[78]⟩)), (.c (.str ⟨#[99, 97, 115, 101]⟩)), (.c (.str ⟨#[99, 111, 110, 106]⟩)), (.c (.str ⟨#[101, 108, 115, 101]⟩)), (.c (.str ⟨#[102, 97, 105, 108]⟩)), (.c (.str ⟨#[102, 97, 108, 115, 101]⟩)), (.c (.str ⟨#[105, 102]⟩)), (.c (.str ⟨#[105, 109]⟩)), (.c (.str ⟨#[105, 110]⟩)), (.c (.str ⟨#[108, 101, 116]⟩)), (.c (.str ⟨#[110, 105, 108]⟩)), (.c (.str ⟨#[110, 111, 116]⟩)), (.c (.str ⟨#[111, 102]⟩)), (.c (.str ⟨#[114, 101]⟩)), (.c (.str ⟨#[115, 116, 114, 105, 99, 116]⟩)), (.c (.str ⟨#[116, 104, 101, 110]⟩)), (.c (.str ⟨#[116, 114, 117, 101]⟩))]), oQ 0 (.mv (.t 1))])
  (.keep [0])) .ret))
def r_fathomref03_Words : List ARes := [.t 0]
theorem w_fathomref03_Words : FnW Tryz.prog F_fathomref03_Words c_fathomref03_Words r_fathomref03_Words 2 := ⟨Tryz.f129, (Tryz.f129).body.get rfl, by kernel_rfl, Tryz.func129, by kernel_rfl, by kernel_rfl, by kernel_rfl, by kernel_rfl⟩
def c_fathomref04_reader_take : ACode := (.seq 
 (.seqg (.reg [oQ 4 (.mv (.c (.bool false)))])
  (.keep [0, 1])) (.seq (.seq 
 (.seqg (.reg [oQ 5 (.mv (.t 0)), oQ 6 (.mv (.t 1)), oE 7 (.call (.c (.fn F_fathomref04_reader_is [])) [(.t 5), (.t 6)]), oQ 8 (.not (.t 7))])
  (.keep [0, 8])) 
 (.cond (.t 8) (.seq 
 (.seqg (.reg [oQ 4 (.mv (.c (.bool false)))])
  (.keep [4])) .ret) .skip)) (.seq 
 (.seqg (.reg [oQ 9 (.mv (.t 0)), oQ 10 (.chk (.t 9)), oQ 11 (.fa 1 (.t 10)), oQ 12 (.ld 1 false (.t 11)), oQ 13 (.bin .add .num (.t 12) (.c (.int .i64 1))), oQ 14 (.chk (.t 9)), oQ 15 (.fa 1 (.t 14)), oN (.st 1 (.t 15) (.t 13))])
  (.keep [])) (.seq 
 (.seqg (.reg [oQ 4 (.mv (.c (.bool true)))])
  (.keep [4])) .ret))))
def r_fathomref04_reader_take : List ARes := [.t 4]
theorem w_fathomref04_reader_take : FnW Tryz.prog F_fathomref04_reader_take c_fathomref04_reader_take r_fathomref04_reader_take 16 := ⟨Tryz.f130, (Tryz.f130).body.get rfl, by kernel_rfl, Tryz.func130, by kernel_rfl, by kernel_rfl, by kernel_rfl, by kernel_rfl⟩
def c_fathomref04_reader_cons : ACode := (.seq 
 (.seqg (.reg [oE 2 (.alloc [.int .i64 0, .str ⟨#[]⟩, .str ⟨#[]⟩, .int .i64 0, .cpx 0 0, .sl .full 7 [], .int .i64 0])])
  (.keep [0, 2])) (.seq 
 (.seqg (.reg [oQ 6 (.mv (.t 0)), oE 7 (.call (.c (.fn F_fathomref04_reader_comp [])) [(.t 6)]), oE 3 (.alloc [.int .i64 0, .str ⟨#[]⟩, .str ⟨#[]⟩, .int .i64 0, .cpx 0 0, .sl .full 7 [], .int .i64 0]), oN (.st 7 (.t 3) (.t 7))])
  (.keep [0, 2, 3])) (.seq 
 (.seqg (.reg [oQ 8 (.mv (.t 0)), oE 9 (.call (.c (.fn F_fathomref04_reader_next [])) [(.t 8)]), oE 4 (.alloc [.int .i64 0, .str ⟨#[]⟩, .cpx 0 0, .int .i64 0]), oN (.st 4 (.t 4) (.t 9))])
  (.keep [0, 2, 3, 4])) (.seq (.seq 
 (.seqg (.reg [oQ 10 (.mv (.t 0)), oE 11 (.call (.c (.fn F_fathomref04_reader_take [])) [(.t 10), (.c (.str ⟨#[58]⟩))]), oQ 12 (.not (.t 11))])
  (.keep [0, 2, 3, 4, 12])) 
 (.cond (.t 12) (.seq 
 (.seqg (.reg [oQ 13 (.ld 7 true (.t 3)), oN (.st 7 (.t 2) (.t 13))])
  (.keep [2])) .ret) .skip)) (.seq 
 (.seqg (.reg [oQ 14 (.mv (.t 0)), oE 15 (.call (.c (.fn F_fathomref04_reader_cons [])) [(.t 14)]), oE 5 (.alloc [.int .i64 0, .str ⟨#[]⟩, .str ⟨#[]⟩, .int .i64 0, .cpx 0 0, .sl .full 7 [], .int .i64 0]), oN (.st 7 (.t 5) (.t 15))])
  (.keep [2, 3, 4, 5])) (.seq 
 (.seqg (.reg [oQ 16 (.ld 7 true (.t 3)), oQ 17 (.ld 7 true (.t 5)), oQ 18 (.ld 4 true (.t 4)), oQ 19 (.call F_fathomref04_two [(.c (.int .i64 18)), (.t 16), (.t 17), (.t 18)]), oN (.st 7 (.t 2) (.t 19))])
  (.keep [2])) .ret))))))
def r_fathomref04_reader_cons : List ARes := [.c 2 7 true]
theorem w_fathomref04_reader_cons : FnW Tryz.prog F_fathomref04_reader_cons c_fathomref04_reader_cons r_fathomref04_reader_cons 20 := ⟨Tryz.f131, (Tryz.f131).body.get rfl, by kernel_rfl, Tryz.func131, by kernel_rfl, by kernel_rfl, by kernel_rfl, by kernel_rfl⟩
def c_fathomref04_reader_parts : ACode := (.seq 
 (.seqg (.reg [oQ 4 (.mv (.c (.sl .full 7 [])))])
  (.keep [0, 1])) (.seq 
 (.seqg (.seqg (.reg [oQ 5 (.mv (.c (.sl .full 7 [])))])
  (.keep [0, 1, 5]))
  (.mint 5)) (.seq (.seq 
 (.seqg (.reg [oQ 6 (.mv (.c (.int .i64 0)))])
  (.keep [0, 1, 5, 6])) 
 (.block 0 
 (.gseq (.keep [0, 1, 5, 6]) (.loop (.seq (.seq 
 (.seqg (.reg [oQ 8 (.mv (.t 6)), oQ 9 (.mv (.t 1)), oQ 10 (.len (.t 9)), oQ 11 (.bin .lss .num (.t 8) (.t 10))])
  (.keep [0, 1, 5, 6, 11])) 
 (.cond (.t 11) .skip (.exit 0))) (.seq 
 (.block 1 (.seq (.seq 
 (.seqg (.reg [oQ 14 (.mv (.t 1)), oQ 15 (.mv (.t 6)), oQ 16 (.ix 1 (.t 14) (.t 15)), oQ 17 (.ld 1 false (.t 16)), oQ 18 (.bin .neq .other (.t 17) (.c (.str ⟨#[]⟩)))])
  (.keep [0, 1, 5, 6, 18])) 
 (.cond (.t 18) 
 (.seqg (.reg [oQ 19 (.mv (.t 0)), oQ 20 (.mv (.t 1)), oQ 21 (.mv (.t 6)), oQ 22 (.ix 1 (.t 20) (.t 21)), oQ 23 (.ld 1 false (.t 22)), oE 24 (.call (.c (.fn F_fathomref04_reader_want [])) [(.t 19), (.t 23)])])
  (.keep [0, 1, 5, 6])) .skip)) (.seq 
 (.seqg (.reg [oQ 25 (.mv (.t 0)), oE 26 (.call (.c (.fn F_fathomref04_reader_expr [])) [(.t 25)]), oE 7 (.alloc [.int .i64 0, .str ⟨#[]⟩, .str ⟨#[]⟩, .int .i64 0, .cpx 0 0, .sl .full 7 [], .int .i64 0]), oN (.st 7 (.t 7) (.t 26))])
  (.keep [0, 1, 5, 6, 7])) 
 (.seqg (.reg [oQ 27 (.mv (.t 5)), oQ 28 (.ld 7 true (.t 7)), oQ 29 (.bsl 7 [(.t 28)]), oE 30 (.app 7 96 (.t 27) (.t 29)), oQ 5 (.mv (.t 30))])
  (.keep [0, 1, 5, 6]))))) 
 (.seqg (.reg [oQ 12 (.mv (.t 6)), oQ 13 (.bin .add .num (.t 12) (.c (.int .i64 1))), oQ 6 (.mv (.t 13))])
  (.keep [0, 1, 5, 6])))))))) (.seq 
 (.seqg (.reg [oQ 31 (.mv (.t 5)), oQ 4 (.mv (.t 31))])
  (.keep [4])) .ret))))
def r_fathomref04_reader_parts : List ARes := [.t 4]
theorem w_fathomref04_reader_parts : FnW Tryz.prog F_fathomref04_reader_parts c_fathomref04_reader_parts r_fathomref04_reader_parts 32 := ⟨Tryz.f132, (Tryz.f132).body.get rfl, by kernel_rfl, Tryz.func132, by kernel_rfl, by kernel_rfl, by kernel_rfl, by kernel_rfl⟩
def c_fathomref04_reader_branches : ACode := (.seq 
 (.seqg (.reg [oQ 9 (.mv (.t 1)), oQ 10 (.chk (.t 9)), oQ 11 (.fa 0 (.t 10)), oN (.st 1 (.t 11) (.c (.int .i64 20)))])
  (.keep [0, 1])) (.seq 
 (.seqg (.reg [oQ 12 (.mv (.t 0)), oE 13 (.call (.c (.fn F_fathomref04_reader_expr [])) [(.t 12)]), oE 4 (.alloc [.int .i64 0, .str ⟨#[]⟩, .str ⟨#[]⟩, .int .i64 0, .cpx 0 0, .sl .full 7 [], .int .i64 0]), oN (.st 7 (.t 4) (.t 13))])
  (.keep [0, 1, 4])) (.seq 
 (.seqg (.reg [oQ 14 (.mv (.t 0)), oE 15 (.call (.c (.fn F_fathomref04_reader_want [])) [(.t 14), (.c (.str ⟨#[111, 102]⟩))])])
  (.keep [0, 1, 4])) (.seq 
 (.seqg (.reg [oQ 16 (.mv (.t 0)), oE 17 (.call (.c (.fn F_fathomref04_reader_want [])) [(.t 16), (.c (.str ⟨#[110, 105, 108]⟩))])])
  (.keep [0, 1, 4])) (.seq 
 (.seqg (.reg [oQ 18 (.mv (.t 0)), oE 19 (.call (.c (.fn F_fathomref04_reader_want [])) [(.t 18), (.c (.str ⟨#[45, 62]⟩))])])
  (.keep [0, 1, 4])) (.seq 
 (.seqg (.reg [oQ 20 (.mv (.t 0)), oE 21 (.call (.c (.fn F_fathomref04_reader_expr [])) [(.t 20)]), oE 5 (.alloc [.int .i64 0, .str ⟨#[]⟩, .str ⟨#[]⟩, .int .i64 0, .cpx 0 0, .sl .full 7 [], .int .i64 0]), oN (.st 7 (.t 5) (.t 21))])
  (.keep [0, 1, 4, 5])) (.seq 
 (.seqg (.reg [oQ 22 (.mv (.t 0)), oE 23 (.call (.c (.fn F_fathomref04_reader_want [])) [(.t 22), (.c (.str ⟨#[124]⟩))])])
  (.keep [0, 1, 4, 5])) (.seq 
 (.seqg (.reg [oQ 24 (.mv (.t 0)), oE 25 (.call (.c (.fn F_fathomref04_reader_name [])) [(.t 24)]), oE 6 (.alloc [.int .i64 0, .str ⟨#[]⟩, .cpx 0 0, .int .i64 0]), oN (.st 4 (.t 6) (.t 25))])
  (.keep [0, 1, 4, 5, 6])) (.seq 
 (.seqg (.reg [oQ 26 (.mv (.t 0)), oE 27 (.call (.c (.fn F_fathomref04_reader_want [])) [(.t 26), (.c (.str ⟨#[58]⟩))])])
  (.keep [0, 1, 4, 5, 6])) (.seq 
 (.seqg (.reg [oQ 28 (.mv (.t 0)), oE 29 (.call (.c (.fn F_fathomref04_reader_name [])) [(.t 28)]), oE 7 (.alloc [.int .i64 0, .str ⟨#[]⟩, .cpx 0 0, .int .i64 0]), oN (.st 4 (.t 7) (.t 29))])
  (.keep [0, 1, 4, 5, 6, 7])) (.seq 
 (.seqg (.reg [oQ 30 (.mv (.t 0)), oE 31 (.call (.c (.fn F_fathomref04_reader_want [])) [(.t 30), (.c (.str ⟨#[45, 62]⟩))])])
  (.keep [0, 1, 4, 5, 6, 7])) (.seq 
 (.seqg (.reg [oQ 32 (.mv (.t 0)), oE 33 (.call (.c (.fn F_fathomref04_reader_expr [])) [(.t 32)]), oE 8 (.alloc [.int .i64 0, .str ⟨#[]⟩, .str ⟨#[]⟩, .int .i64 0, .cpx 0 0, .sl .full 7 [], .int .i64 0]), oN (.st 7 (.t 8) (.t 33))])
  (.keep [1, 4, 5, 6, 7, 8])) (.seq 
 (.seqg (.reg [oQ 34 (.mv (.t 1)), oQ 35 (.fa 1 (.t 6)), oQ 36 (.ld 1 false (.t 35)), oQ 37 (.chk (.t 34)), oQ 38 (.fa 1 (.t 37)), oN (.st 1 (.t 38) (.t 36))])
  (.keep [1, 4, 5, 7, 8])) (.seq 
 (.seqg (.reg [oQ 39 (.mv (.t 1)), oQ 40 (.fa 1 (.t 7)), oQ 41 (.ld 1 false (.t 40)), oQ 42 (.chk (.t 39)), oQ 43 (.fa 2 (.t 42)), oN (.st 1 (.t 43) (.t 41))])
  (.keep [1, 4, 5, 8])) 
 (.seqg (.reg [oQ 44 (.mv (.t 1)), oQ 45 (.ld 7 true (.t 4)), oQ 46 (.ld 7 true (.t 5)), oQ 47 (.ld 7 true (.t 8)), oQ 48 (.bsl 7 [(.t 45), (.t 46), (.t 47)]), oQ 49 (.chk (.t 44)), oQ 50 (.fa 5 (.t 49)), oN (.st 1 (.t 50) (.t 48))])
  (.keep []))))))))))))))))
def r_fathomref04_reader_branches : List ARes := []
theorem w_fathomref04_reader_branches : FnW Tryz.prog F_fathomref04_reader_branches c_fathomref04_reader_branches r_fathomref04_reader_branches 51 := ⟨Tryz.f133, (Tryz.f133).body.get rfl, by kernel_rfl, Tryz.func133, by kernel_rfl, by kernel_rfl, by kernel_rfl, by kernel_rfl⟩
def c_scope_bound : ACode := (.seq 
 (.seqg (.reg [oQ 2 (.box (.t 0)), oQ 4 (.mv (.c (.sl .full 1 [])))])
  (.keep [1, 2])) (.seq 
 (.block 0 (.seq (.seq 
 (.seqg (.reg [oQ 6 (.fa 0 (.t 2)), oQ 7 (.ld 1 false (.t 6)), oQ 8 (.bin .eql .num (.t 7) (.c (.int .i64 21))), oQ 5 (.mv (.t 8))])
  (.keep [1, 2, 5])) 
 (.cond (.t 5) .skip 
 (.seqg (.reg [oQ 9 (.fa 0 (.t 2)), oQ 10 (.ld 1 false (.t 9)), oQ 11 (.bin .eql .num (.t 10) (.c (.int .i64 22))), oQ 12 (.mv (.t 11)), oTQ 13 12 (.mv (.t 1)), oTQ 14 12 (.bin .eql .num (.t 13) (.c (.int .i64 1))), oQ 15 (.pick (.t 12) (.t 14) (.c (.bool false))), oQ 5 (.mv (.t 15))])
  (.keep [1, 2, 5])))) 
 (.cond (.t 5) (.seq 
 (.seqg (.reg [oQ 16 (.fa 1 (.t 2)), oQ 17 (.ld 1 false (.t 16)), oQ 18 (.bsl 1 [(.t 17)]), oQ 4 (.mv (.t 18))])
  (.keep [4])) .ret) (.seq 
 (.seqg (.reg [oQ 20 (.fa 0 (.t 2)), oQ 21 (.ld 1 false (.t 20)), oQ 22 (.bin .eql .num (.t 21) (.c (.int .i64 20))), oQ 23 (.mv (.t 22)), oTQ 24 23 (.mv (.t 1)), oTQ 25 23 (.bin .eql .num (.t 24) (.c (.int .i64 2))), oQ 26 (.pick (.t 23) (.t 25) (.c (.bool false))), oQ 19 (.mv (.t 26))])
  (.keep [2, 19])) 
 (.cond (.t 19) (.seq 
 (.seqg (.reg [oQ 27 (.fa 1 (.t 2)), oQ 28 (.ld 1 false (.t 27)), oQ 29 (.fa 2 (.t 2)), oQ 30 (.ld 1 false (.t 29)), oQ 31 (.bsl 1 [(.t 28), (.t 30)]), oQ 4 (.mv (.t 31))])
  (.keep [4])) .ret) .skip))))) (.seq 
 (.seqg (.reg [oQ 4 (.mv (.c (.sl .full 1 [])))])
  (.keep [4])) .ret)))
def r_scope_bound : List ARes := [.t 4]
theorem w_scope_bound : FnW Tryz.prog F_scope_bound c_scope_bound r_scope_bound 32 := ⟨Tryz.f134, (Tryz.f134).body.get rfl, by kernel_rfl, Tryz.func134, by kernel_rfl, by kernel_rfl, by kernel_rfl, by kernel_rfl⟩
def c_types_checker_call : ACode := (.seq 
 (.seqg (.reg [oQ 3 (.box (.t 1)), oQ 4 (.mv (.c (.int .i64 0)))])
  (.keep [0, 3])) (.seq 
 (.seqg (.drw [oQ 8 (.mv (.t 0)), oQ 9 (.chk (.t 8)), oQ 10 (.fa 0 (.t 9)), oQ 11 (.ld 1 false (.t 10)), oQ 12 (.fa 1 (.t 3)), oQ 13 (.ld 1 false (.t 12)), oQ 14 (.lk (.t 11) (.t 13)), oQ 5 (.mv (.t 14))])
  (.keep [0, 3, 5])) (.seq (.seq 
 (.seqg (.drw [oQ 15 (.mv (.t 5)), oQ 16 (.bin .eql .num (.t 15) (.c (.int .i64 0))), oQ 17 (.mv (.t 16)), oFQ 18 17 (.mv (.t 0)), oFQ 19 17 (.chk (.t 18)), oFQ 20 17 (.fa 1 (.t 19)), oFQ 21 17 (.ld 1 false (.t 20)), oFQ 22 17 (.mv (.t 5)), oFQ 23 17 (.bin .sub .num (.t 22) (.c (.int .i64 1))), oFQ 24 17 (.ix 11 (.t 21) (.t 23)), oFQ 25 17 (.fa 1 (.t 24)), oFQ 26 17 (.ld 1 false (.t 25)), oFQ 27 17 (.len (.t 26)), oFQ 28 17 (.fa 5 (.t 3)), oFQ 29 17 (.ld 1 false (.t 28)), oFQ 30 17 (.len (.t 29)), oFQ 31 17 (.bin .neq .num (.t 27) (.t 30)), oQ 32 (.pick (.t 17) (.c (.bool true)) (.t 31))])
  (.keep [0, 3, 5, 32])) 
 (.cond (.t 32) (.seq 
 (.seqg (.reg [oQ 4 (.mv (.c (.int .i64 0)))])
  (.keep [4])) .ret) .skip)) (.seq (.seq 
 (.seqg (.reg [oQ 33 (.mv (.t 0)), oQ 34 (.chk (.t 33)), oQ 35 (.fa 1 (.t 34)), oQ 36 (.ld 1 false (.t 35)), oQ 37 (.mv (.t 5)), oQ 38 (.bin .sub .num (.t 37) (.c (.int .i64 1))), oQ 39 (.ix 11 (.t 36) (.t 38)), oQ 40 (.fa 1 (.t 39)), oQ 41 (.ld 1 false (.t 40)), oQ 42 (.len (.t 41)), oQ 43 (.mv (.c (.int .i64 0)))])
  (.keep [0, 3, 5, 41, 42, 43])) 
 (.block 0 
 (.gseq (.keep [0, 3, 5, 41, 42, 43]) (.loop (.seq 
 (.seqg (.reg [oQ 44 (.bin .lss .num (.t 43) (.t 42))])
  (.keep [0, 3, 5, 41, 42, 43, 44])) (.seq 
 (.cond (.t 44) .skip (.exit 0)) (.seq 
 (.block 1 (.seq 
 (.seqg (.reg [oQ 45 (.mv (.t 43)), oQ 46 (.ix 3 (.t 41) (.t 43)), oQ 47 (.ld 3 true (.t 46)), oE 7 (.alloc [.str ⟨#[]⟩, .int .i64 0, .int .i64 0]), oQ 6 (.mv (.t 45)), oN (.st 3 (.t 7) (.t 47))])
  (.keep [0, 3, 5, 6, 7, 41, 42, 43])) 
 (.seqg (.drw [oQ 48 (.mv (.t 0)), oQ 49 (.fa 5 (.t 3)), oQ 50 (.ld 1 false (.t 49)), oQ 51 (.mv (.t 6)), oQ 52 (.ix 7 (.t 50) (.t 51)), oQ 53 (.ld 7 true (.t 52)), oQ 54 (.fa 1 (.t 7)), oQ 55 (.ld 1 false (.t 54)), oE 56 (.call (.c (.fn F_types_checker_want [])) [(.t 48), (.t 53), (.t 55)])])
  (.keep [0, 3, 5, 41, 42, 43])))) 
 (.seqg (.reg [oQ 57 (.bin .add .num (.t 43) (.c (.int .i64 1))), oQ 43 (.mv (.t 57))])
  (.keep [0, 3, 5, 41, 42, 43]))))))))) (.seq 
 (.seqg (.reg [oQ 58 (.mv (.t 0)), oQ 59 (.chk (.t 58)), oQ 60 (.fa 1 (.t 59)), oQ 61 (.ld 1 false (.t 60)), oQ 62 (.mv (.t 5)), oQ 63 (.bin .sub .num (.t 62) (.c (.int .i64 1))), oQ 64 (.ix 11 (.t 61) (.t 63)), oQ 65 (.fa 2 (.t 64)), oQ 66 (.ld 1 false (.t 65)), oQ 4 (.mv (.t 66))])
  (.keep [4])) .ret)))))
def r_types_checker_call : List ARes := [.t 4]
theorem w_types_checker_call : FnW Tryz.prog F_types_checker_call c_types_checker_call r_types_checker_call 67 := ⟨Tryz.f135, (Tryz.f135).body.get rfl, by kernel_rfl, Tryz.func135, by kernel_rfl, by kernel_rfl, by kernel_rfl, by kernel_rfl⟩
def c_fathomref06_heads : ACode := (.seq 
 (.seqg (.reg [oQ 2 (.box (.t 0)), oQ 4 (.mv (.c (.int .i64 0)))])
  (.keep [1, 2])) (.seq (.seq 
 (.seqg (.reg [oQ 5 (.mv (.c (.int .i64 0)))])
  (.keep [1, 2, 5])) 
 (.block 0 
 (.gseq (.keep [1, 2, 5]) (.loop (.seq (.seq 
 (.seqg (.reg [oQ 6 (.mv (.t 5)), oQ 7 (.fa 0 (.t 2)), oQ 8 (.ld 1 false (.t 7)), oQ 9 (.len (.t 8)), oQ 10 (.bin .lss .num (.t 6) (.t 9))])
  (.keep [1, 2, 5, 10])) 
 (.cond (.t 10) .skip (.exit 0))) (.seq 
 (.block 1 (.seq 
 (.seqg (.reg [oQ 13 (.fa 0 (.t 2)), oQ 14 (.ld 1 false (.t 13)), oQ 15 (.mv (.t 5)), oQ 16 (.ix 11 (.t 14) (.t 15)), oQ 17 (.fa 0 (.t 16)), oQ 18 (.ld 1 false (.t 17)), oQ 19 (.mv (.t 1)), oQ 20 (.bin .eql .other (.t 18) (.t 19))])
  (.keep [1, 2, 5, 20])) 
 (.cond (.t 20) (.seq 
 (.seqg (.reg [oQ 21 (.mv (.t 5)), oQ 4 (.mv (.t 21))])
  (.keep [4])) .ret) .skip))) 
 (.seqg (.reg [oQ 11 (.mv (.t 5)), oQ 12 (.bin .add .num (.t 11) (.c (.int .i64 1))), oQ 5 (.mv (.t 12))])
  (.keep [1, 2, 5])))))))) (.seq 
 (.seqg (.reg [oQ 4 (.mv (.c (.int .i64 (-1))))])
  (.keep [4])) .ret)))
def r_fathomref06_heads : List ARes := [.t 4]
theorem w_fathomref06_heads : FnW Tryz.prog F_fathomref06_heads c_fathomref06_heads r_fathomref06_heads 22 := ⟨Tryz.f136, (Tryz.f136).body.get rfl, by kernel_rfl, Tryz.func136, by kernel_rfl, by kernel_rfl, by kernel_rfl, by kernel_rfl⟩
def c_fathomref06_Has : ACode := (.seq 
 (.seqg (.reg [oQ 4 (.mv (.c (.bool false)))])
  (.keep [0, 1])) (.seq (.seq 
 (.seqg (.reg [oQ 5 (.mv (.c (.int .i64 0)))])
  (.keep [0, 1, 5])) 
 (.block 0 
 (.gseq (.keep [0, 1, 5]) (.loop (.seq (.seq 
 (.seqg (.reg [oQ 6 (.mv (.t 5)), oQ 7 (.mv (.t 0)), oQ 8 (.len (.t 7)), oQ 9 (.bin .lss .num (.t 6) (.t 8))])
  (.keep [0, 1, 5, 9])) 
 (.cond (.t 9) .skip (.exit 0))) (.seq 
 (.block 1 (.seq 
 (.seqg (.reg [oQ 12 (.mv (.t 0)), oQ 13 (.mv (.t 5)), oQ 14 (.ix 1 (.t 12) (.t 13)), oQ 15 (.ld 1 false (.t 14)), oQ 16 (.mv (.t 1)), oQ 17 (.bin .eql .other (.t 15) (.t 16))])
  (.keep [0, 1, 5, 17])) 
 (.cond (.t 17) (.seq 
 (.seqg (.reg [oQ 4 (.mv (.c (.bool true)))])
  (.keep [4])) .ret) .skip))) 
 (.seqg (.reg [oQ 10 (.mv (.t 5)), oQ 11 (.bin .add .num (.t 10) (.c (.int .i64 1))), oQ 5 (.mv (.t 11))])
  (.keep [0, 1, 5])))))))) (.seq 
 (.seqg (.reg [oQ 4 (.mv (.c (.bool false)))])
  (.keep [4])) .ret)))
def r_fathomref06_Has : List ARes := [.t 4]
theorem w_fathomref06_Has : FnW Tryz.prog F_fathomref06_Has c_fathomref06_Has r_fathomref06_Has 18 := ⟨Tryz.f137, (Tryz.f137).body.get rfl, by kernel_rfl, Tryz.func137, by kernel_rfl, by kernel_rfl, by kernel_rfl, by kernel_rfl⟩
def c_fathomref06_seen : ACode := (.seq 
 (.seqg (.reg [oQ 2 (.box (.t 0)), oQ 4 (.mv (.c (.sl .full 8 [])))])
  (.keep [1, 2])) (.seq 
 (.seqg (.seqg (.reg [oQ 5 (.mv (.c (.sl .full 8 [])))])
  (.keep [1, 2, 5]))
  (.mint 5)) (.seq (.seq 
 (.seqg (.reg [oQ 9 (.fa 0 (.t 2)), oQ 10 (.ld 1 false (.t 9)), oQ 11 (.bin .eql .num (.t 10) (.c (.int .i64 6))), oQ 12 (.mv (.t 11)), oFQ 13 12 (.fa 0 (.t 2)), oFQ 14 12 (.ld 1 false (.t 13)), oFQ 15 12 (.bin .eql .num (.t 14) (.c (.int .i64 7))), oQ 16 (.pick (.t 12) (.c (.bool true)) (.t 15))])
  (.keep [1, 2, 5, 16])) 
 (.cond (.t 16) 
 (.seqg (.drw [oQ 17 (.mv (.t 5)), oQ 18 (.ld 7 true (.t 2)), oQ 19 (.fa 0 (.t 2)), oQ 20 (.ld 1 false (.t 19)), oQ 21 (.bin .eql .num (.t 20) (.c (.int .i64 6))), oQ 22 (.mv (.t 21)), oTQ 23 22 (.mv (.t 1)), oTQ 24 22 (.fa 1 (.t 2)), oTQ 25 22 (.ld 1 false (.t 24)), oTQ 26 22 (.call F_fathomref06_Has [(.t 23), (.t 25)]), oTQ 27 22 (.not (.t 26)), oQ 28 (.pick (.t 22) (.t 27) (.c (.bool false))), oQ 29 (.bld [.int .i64 0, .str ⟨#[]⟩, .str ⟨#[]⟩, .int .i64 0, .cpx 0 0, .sl .full 7 [], .int .i64 0, .bool false] [(0, 7, (.t 18)), (7, 1, (.t 28))]), oQ 30 (.bsl 8 [(.t 29)]), oE 31 (.app 8 104 (.t 17) (.t 30)), oQ 5 (.mv (.t 31))])
  (.keep [1, 2, 5])) .skip)) (.seq (.seq 
 (.seqg (.reg [oQ 6 (.mv (.c (.int .i64 0)))])
  (.keep [1, 2, 5, 6])) 
 (.block 0 
 (.gseq (.keep [1, 2, 5, 6]) (.loop (.seq (.seq 
 (.seqg (.reg [oQ 32 (.mv (.t 6)), oQ 33 (.fa 5 (.t 2)), oQ 34 (.ld 1 false (.t 33)), oQ 35 (.len (.t 34)), oQ 36 (.bin .lss .num (.t 32) (.t 35))])
  (.keep [1, 2, 5, 6, 36])) 
 (.cond (.t 36) .skip (.exit 0))) (.seq 
 (.block 1 (.seq 
 (.seqg (.reg [oQ 39 (.mv (.t 1)), oQ 40 (.ld 7 true (.t 2)), oQ 41 (.mv (.t 6)), oQ 42 (.call F_fathomref06_Bound [(.t 40), (.t 41)]), oQ 43 (.call F_fathomref06_with [(.t 39), (.t 42)]), oQ 7 (.mv (.t 43))])
  (.keep [1, 2, 5, 6, 7])) (.seq 
 (.seqg (.reg [oQ 44 (.fa 5 (.t 2)), oQ 45 (.ld 1 false (.t 44)), oQ 46 (.mv (.t 6)), oQ 47 (.ix 7 (.t 45) (.t 46)), oQ 48 (.ld 7 true (.t 47)), oQ 49 (.mv (.t 7)), oQ 50 (.call F_fathomref06_seen [(.t 48), (.t 49)]), oQ 8 (.mv (.t 50))])
  (.keep [1, 2, 5, 6, 8])) 
 (.seqg (.reg [oQ 51 (.mv (.t 5)), oQ 52 (.mv (.t 8)), oE 53 (.app 8 104 (.t 51) (.t 52)), oQ 5 (.mv (.t 53))])
  (.keep [1, 2, 5, 6]))))) 
 (.seqg (.reg [oQ 37 (.mv (.t 6)), oQ 38 (.bin .add .num (.t 37) (.c (.int .i64 1))), oQ 6 (.mv (.t 38))])
  (.keep [1, 2, 5, 6])))))))) (.seq 
 (.seqg (.reg [oQ 54 (.mv (.t 5)), oQ 4 (.mv (.t 54))])
  (.keep [4])) .ret)))))
def r_fathomref06_seen : List ARes := [.t 4]
theorem w_fathomref06_seen : FnW Tryz.prog F_fathomref06_seen c_fathomref06_seen r_fathomref06_seen 55 := ⟨Tryz.f138, (Tryz.f138).body.get rfl, by kernel_rfl, Tryz.func138, by kernel_rfl, by kernel_rfl, by kernel_rfl, by kernel_rfl⟩
def c_fathomref07_Head : ACode := (.seq 
 (.seqg (.reg [oQ 2 (.box (.t 0)), oE 4 (.alloc [.str ⟨#[]⟩, .sl .full 3 [], .int .i64 0, .int .i64 0, .str ⟨#[]⟩, .str ⟨#[]⟩, .int .i64 0, .cpx 0 0, .sl .full 7 [], .int .i64 0, .int .i64 0]), oQ 5 (.mv (.c (.bool false)))])
  (.keep [1, 2, 4])) (.seq (.seq 
 (.seqg (.reg [oQ 6 (.mv (.c (.int .i64 0)))])
  (.keep [1, 2, 4, 6])) 
 (.block 0 
 (.gseq (.keep [1, 2, 4, 6]) (.loop (.seq (.seq 
 (.seqg (.reg [oQ 7 (.mv (.t 6)), oQ 8 (.fa 0 (.t 2)), oQ 9 (.ld 1 false (.t 8)), oQ 10 (.len (.t 9)), oQ 11 (.bin .lss .num (.t 7) (.t 10))])
  (.keep [1, 2, 4, 6, 11])) 
 (.cond (.t 11) .skip (.exit 0))) (.seq 
 (.block 1 (.seq 
 (.seqg (.reg [oQ 14 (.fa 0 (.t 2)), oQ 15 (.ld 1 false (.t 14)), oQ 16 (.mv (.t 6)), oQ 17 (.ix 11 (.t 15) (.t 16)), oQ 18 (.fa 0 (.t 17)), oQ 19 (.ld 1 false (.t 18)), oQ 20 (.mv (.t 1)), oQ 21 (.bin .eql .other (.t 19) (.t 20))])
  (.keep [1, 2, 4, 6, 21])) 
 (.cond (.t 21) (.seq 
 (.seqg (.reg [oQ 22 (.fa 0 (.t 2)), oQ 23 (.ld 1 false (.t 22)), oQ 24 (.mv (.t 6)), oQ 25 (.ix 11 (.t 23) (.t 24)), oQ 26 (.ld 11 true (.t 25)), oN (.st 11 (.t 4) (.t 26)), oQ 5 (.mv (.c (.bool true)))])
  (.keep [4, 5])) .ret) .skip))) 
 (.seqg (.reg [oQ 12 (.mv (.t 6)), oQ 13 (.bin .add .num (.t 12) (.c (.int .i64 1))), oQ 6 (.mv (.t 13))])
  (.keep [1, 2, 4, 6])))))))) (.seq 
 (.seqg (.reg [oQ 27 (.bld [.str ⟨#[]⟩, .sl .full 3 [], .int .i64 0, .int .i64 0, .str ⟨#[]⟩, .str ⟨#[]⟩, .int .i64 0, .cpx 0 0, .sl .full 7 [], .int .i64 0, .int .i64 0] []), oN (.st 11 (.t 4) (.t 27)), oQ 5 (.mv (.c (.bool false)))])
  (.keep [4, 5])) .ret)))
def r_fathomref07_Head : List ARes := [.c 4 11 true, .t 5]
theorem w_fathomref07_Head : FnW Tryz.prog F_fathomref07_Head c_fathomref07_Head r_fathomref07_Head 28 := ⟨Tryz.f139, (Tryz.f139).body.get rfl, by kernel_rfl, Tryz.func139, by kernel_rfl, by kernel_rfl, by kernel_rfl, by kernel_rfl⟩
def c_fathomref07_with : ACode := (.seq 
 (.seqg (.reg [oQ 6 (.mv (.c (.sl .full 3 [])))])
  (.keep [0, 1, 2])) (.seq 
 (.seqg (.seqg (.reg [oQ 7 (.mv (.c (.sl .full 3 [])))])
  (.keep [0, 1, 2, 7]))
  (.mint 7)) (.seq 
 (.seqg (.reg [oQ 8 (.mv (.t 7)), oQ 9 (.mv (.t 0)), oE 10 (.app 3 32 (.t 8) (.t 9)), oQ 7 (.mv (.t 10))])
  (.keep [1, 2, 7])) (.seq 
 (.seqg (.reg [oQ 11 (.mv (.t 7)), oQ 12 (.mv (.t 1)), oQ 13 (.mv (.t 2)), oQ 14 (.bld [.str ⟨#[]⟩, .int .i64 0, .int .i64 0] [(0, 1, (.t 12)), (1, 1, (.t 13))]), oQ 15 (.bsl 3 [(.t 14)]), oE 16 (.app 3 32 (.t 11) (.t 15)), oQ 6 (.mv (.t 16))])
  (.keep [6])) .ret))))
def r_fathomref07_with : List ARes := [.t 6]
theorem w_fathomref07_with : FnW Tryz.prog F_fathomref07_with c_fathomref07_with r_fathomref07_with 17 := ⟨Tryz.f140, (Tryz.f140).body.get rfl, by kernel_rfl, Tryz.func140, by kernel_rfl, by kernel_rfl, by kernel_rfl, by kernel_rfl⟩
def c_fathomref01_digits : ACode := (.seq 
 (.seqg (.reg [oQ 2 (.mv (.c (.str ⟨#[]⟩)))])
  (.keep [0])) (.seq (.seq 
 (.seqg (.reg [oQ 4 (.mv (.t 0)), oQ 5 (.bin .lss .num (.t 4) (.c (.int .i64 0)))])
  (.keep [0, 5])) 
 (.cond (.t 5) (.seq 
 (.seqg (.reg [oQ 6 (.mv (.t 0)), oQ 7 (.neg (.t 6)), oQ 8 (.call F_fathomref01_digits [(.t 7)]), oQ 9 (.bin .add .other (.c (.str ⟨#[45]⟩)) (.t 8)), oQ 2 (.mv (.t 9))])
  (.keep [2])) .ret) .skip)) (.seq 
 (.seqg (.reg [oQ 10 (.mv (.t 0)), oQ 11 (.bin .rem .num (.t 10) (.c (.int .i64 10))), oQ 12 (.bin .add .num (.c (.int .i64 48)) (.t 11)), oQ 13 (.cvi .u8 (.t 12)), oQ 14 (.bsl 1 [(.t 13)]), oQ 15 (.b2s (.t 14)), oQ 3 (.mv (.t 15))])
  (.keep [0, 3])) (.seq (.seq 
 (.seqg (.reg [oQ 16 (.mv (.t 0)), oQ 17 (.bin .geq .num (.t 16) (.c (.int .i64 10)))])
  (.keep [0, 3, 17])) 
 (.cond (.t 17) 
 (.seqg (.reg [oQ 18 (.mv (.t 0)), oQ 19 (.bin .quo .num (.t 18) (.c (.int .i64 10))), oQ 20 (.call F_fathomref01_digits [(.t 19)]), oQ 21 (.mv (.t 3)), oQ 22 (.bin .add .other (.t 20) (.t 21)), oQ 3 (.mv (.t 22))])
  (.keep [3])) .skip)) (.seq 
 (.seqg (.reg [oQ 23 (.mv (.t 3)), oQ 2 (.mv (.t 23))])
  (.keep [2])) .ret)))))
def r_fathomref01_digits : List ARes := [.t 2]
theorem w_fathomref01_digits : FnW Tryz.prog F_fathomref01_digits c_fathomref01_digits r_fathomref01_digits 24 := ⟨Tryz.f141, (Tryz.f141).body.get rfl, by kernel_rfl, Tryz.func141, by kernel_rfl, by kernel_rfl, by kernel_rfl, by kernel_rfl⟩
def c_fathomref04_reader_comp : ACode := (.seq 
 (.seqg (.reg [oE 2 (.alloc [.int .i64 0, .str ⟨#[]⟩, .str ⟨#[]⟩, .int .i64 0, .cpx 0 0, .sl .full 7 [], .int .i64 0])])
  (.keep [0, 2])) (.seq 
 (.seqg (.reg [oQ 7 (.mv (.t 0)), oE 8 (.call (.c (.fn F_fathomref04_reader_sum [])) [(.t 7)]), oE 3 (.alloc [.int .i64 0, .str ⟨#[]⟩, .str ⟨#[]⟩, .int .i64 0, .cpx 0 0, .sl .full 7 [], .int .i64 0]), oN (.st 7 (.t 3) (.t 8))])
  (.keep [0, 2, 3])) (.seq 
 (.seqg (.reg [oQ 9 (.mv (.t 0)), oE 10 (.call (.c (.fn F_fathomref04_reader_next [])) [(.t 9)]), oE 4 (.alloc [.int .i64 0, .str ⟨#[]⟩, .cpx 0 0, .int .i64 0]), oN (.st 4 (.t 4) (.t 10))])
  (.keep [0, 2, 3, 4])) (.seq 
 (.seqg (.reg [oQ 5 (.mv (.c (.int .i64 12)))])
  (.keep [0, 2, 3, 4, 5])) (.seq (.seq 
 (.seqg (.reg [oQ 11 (.mv (.t 0)), oE 12 (.call (.c (.fn F_fathomref04_reader_is [])) [(.t 11), (.c (.str ⟨#[60]⟩))])])
  (.keep [0, 2, 3, 4, 5, 12])) 
 (.cond (.t 12) 
 (.seqg (.reg [oQ 5 (.mv (.c (.int .i64 13)))])
  (.keep [0, 2, 3, 4, 5])) .skip)) (.seq (.seq 
 (.seqg (.reg [oQ 13 (.mv (.t 0)), oE 14 (.call (.c (.fn F_fathomref04_reader_take [])) [(.t 13), (.c (.str ⟨#[61, 61]⟩))]), oQ 15 (.not (.t 14)), oQ 16 (.mv (.t 15)), oTQ 17 16 (.mv (.t 0)), oTE 18 16 (.call (.c (.fn F_fathomref04_reader_take [])) [(.t 17), (.c (.str ⟨#[60]⟩))]), oTQ 19 16 (.not (.t 18)), oQ 20 (.pick (.t 16) (.t 19) (.c (.bool false)))])
  (.keep [0, 2, 3, 4, 5, 20])) 
 (.cond (.t 20) (.seq 
 (.seqg (.reg [oQ 21 (.ld 7 true (.t 3)), oN (.st 7 (.t 2) (.t 21))])
  (.keep [2])) .ret) .skip)) (.seq 
 (.seqg (.reg [oQ 22 (.mv (.t 0)), oE 23 (.call (.c (.fn F_fathomref04_reader_sum [])) [(.t 22)]), oE 6 (.alloc [.int .i64 0, .str ⟨#[]⟩, .str ⟨#[]⟩, .int .i64 0, .cpx 0 0, .sl .full 7 [], .int .i64 0]), oN (.st 7 (.t 6) (.t 23))])
  (.keep [2, 3, 4, 5, 6])) (.seq 
 (.seqg (.reg [oQ 24 (.mv (.t 5)), oQ 25 (.ld 7 true (.t 3)), oQ 26 (.ld 7 true (.t 6)), oQ 27 (.ld 4 true (.t 4)), oQ 28 (.call F_fathomref04_two [(.t 24), (.t 25), (.t 26), (.t 27)]), oN (.st 7 (.t 2) (.t 28))])
  (.keep [2])) .ret))))))))
def r_fathomref04_reader_comp : List ARes := [.c 2 7 true]
theorem w_fathomref04_reader_comp : FnW Tryz.prog F_fathomref04_reader_comp c_fathomref04_reader_comp r_fathomref04_reader_comp 29 := ⟨Tryz.f142, (Tryz.f142).body.get rfl, by kernel_rfl, Tryz.func142, by kernel_rfl, by kernel_rfl, by kernel_rfl, by kernel_rfl⟩
def c_fathomref04_two : ACode := (.seq 
 (.seqg (.reg [oQ 5 (.box (.t 1)), oQ 6 (.box (.t 2)), oQ 7 (.box (.t 3)), oE 8 (.alloc [.int .i64 0, .str ⟨#[]⟩, .str ⟨#[]⟩, .int .i64 0, .cpx 0 0, .sl .full 7 [], .int .i64 0])])
  (.keep [0, 5, 6, 7, 8])) (.seq 
 (.seqg (.reg [oQ 9 (.mv (.t 0)), oQ 10 (.ld 7 true (.t 5)), oQ 11 (.ld 7 true (.t 6)), oQ 12 (.bsl 7 [(.t 10), (.t 11)]), oQ 13 (.fa 3 (.t 7)), oQ 14 (.ld 1 false (.t 13)), oQ 15 (.bld [.int .i64 0, .str ⟨#[]⟩, .str ⟨#[]⟩, .int .i64 0, .cpx 0 0, .sl .full 7 [], .int .i64 0] [(0, 1, (.t 9)), (5, 1, (.t 12)), (6, 1, (.t 14))]), oN (.st 7 (.t 8) (.t 15))])
  (.keep [8])) .ret))
def r_fathomref04_two : List ARes := [.c 8 7 true]
theorem w_fathomref04_two : FnW Tryz.prog F_fathomref04_two c_fathomref04_two r_fathomref04_two 16 := ⟨Tryz.f143, (Tryz.f143).body.get rfl, by kernel_rfl, Tryz.func143, by kernel_rfl, by kernel_rfl, by kernel_rfl, by kernel_rfl⟩
def c_fathomref06_with : ACode := (.seq 
 (.seqg (.reg [oQ 4 (.mv (.c (.sl .full 1 [])))])
  (.keep [0, 1])) (.seq 
 (.seqg (.seqg (.reg [oQ 5 (.mv (.c (.sl .full 1 [])))])
  (.keep [0, 1, 5]))
  (.mint 5)) (.seq 
 (.seqg (.reg [oQ 6 (.mv (.t 5)), oQ 7 (.mv (.t 0)), oE 8 (.app 1 16 (.t 6) (.t 7)), oQ 5 (.mv (.t 8))])
  (.keep [1, 5])) (.seq 
 (.seqg (.reg [oQ 9 (.mv (.t 5)), oQ 10 (.mv (.t 1)), oE 11 (.app 1 16 (.t 9) (.t 10)), oQ 4 (.mv (.t 11))])
  (.keep [4])) .ret))))
def r_fathomref06_with : List ARes := [.t 4]
theorem w_fathomref06_with : FnW Tryz.prog F_fathomref06_with c_fathomref06_with r_fathomref06_with 12 := ⟨Tryz.f144, (Tryz.f144).body.get rfl, by kernel_rfl, Tryz.func144, by kernel_rfl, by kernel_rfl, by kernel_rfl, by kernel_rfl⟩
def c_fathomref06_Bound : ACode := (.seq 
 (.seqg (.reg [oQ 2 (.box (.t 0)), oQ 4 (.mv (.c (.sl .full 1 [])))])
  (.keep [1, 2])) (.seq 
 (.block 0 (.seq (.seq 
 (.seqg (.reg [oQ 6 (.fa 0 (.t 2)), oQ 7 (.ld 1 false (.t 6)), oQ 8 (.bin .eql .num (.t 7) (.c (.int .i64 21))), oQ 5 (.mv (.t 8))])
  (.keep [1, 2, 5])) 
 (.cond (.t 5) .skip 
 (.seqg (.reg [oQ 9 (.fa 0 (.t 2)), oQ 10 (.ld 1 false (.t 9)), oQ 11 (.bin .eql .num (.t 10) (.c (.int .i64 22))), oQ 12 (.mv (.t 11)), oTQ 13 12 (.mv (.t 1)), oTQ 14 12 (.bin .eql .num (.t 13) (.c (.int .i64 1))), oQ 15 (.pick (.t 12) (.t 14) (.c (.bool false))), oQ 5 (.mv (.t 15))])
  (.keep [1, 2, 5])))) 
 (.cond (.t 5) (.seq 
 (.seqg (.reg [oQ 16 (.fa 1 (.t 2)), oQ 17 (.ld 1 false (.t 16)), oQ 18 (.bsl 1 [(.t 17)]), oQ 4 (.mv (.t 18))])
  (.keep [4])) .ret) (.seq 
 (.seqg (.reg [oQ 20 (.fa 0 (.t 2)), oQ 21 (.ld 1 false (.t 20)), oQ 22 (.bin .eql .num (.t 21) (.c (.int .i64 20))), oQ 23 (.mv (.t 22)), oTQ 24 23 (.mv (.t 1)), oTQ 25 23 (.bin .eql .num (.t 24) (.c (.int .i64 2))), oQ 26 (.pick (.t 23) (.t 25) (.c (.bool false))), oQ 19 (.mv (.t 26))])
  (.keep [2, 19])) 
 (.cond (.t 19) (.seq 
 (.seqg (.reg [oQ 27 (.fa 1 (.t 2)), oQ 28 (.ld 1 false (.t 27)), oQ 29 (.fa 2 (.t 2)), oQ 30 (.ld 1 false (.t 29)), oQ 31 (.bsl 1 [(.t 28), (.t 30)]), oQ 4 (.mv (.t 31))])
  (.keep [4])) .ret) .skip))))) (.seq 
 (.seqg (.reg [oQ 4 (.mv (.c (.sl .full 1 [])))])
  (.keep [4])) .ret)))
def r_fathomref06_Bound : List ARes := [.t 4]
theorem w_fathomref06_Bound : FnW Tryz.prog F_fathomref06_Bound c_fathomref06_Bound r_fathomref06_Bound 32 := ⟨Tryz.f145, (Tryz.f145).body.get rfl, by kernel_rfl, Tryz.func145, by kernel_rfl, by kernel_rfl, by kernel_rfl, by kernel_rfl⟩
def c_fathomref04_reader_sum : ACode := (.seq 
 (.seqg (.reg [oE 2 (.alloc [.int .i64 0, .str ⟨#[]⟩, .str ⟨#[]⟩, .int .i64 0, .cpx 0 0, .sl .full 7 [], .int .i64 0])])
  (.keep [0, 2])) (.seq 
 (.seqg (.reg [oQ 7 (.mv (.t 0)), oE 8 (.call (.c (.fn F_fathomref04_reader_term [])) [(.t 7)]), oE 3 (.alloc [.int .i64 0, .str ⟨#[]⟩, .str ⟨#[]⟩, .int .i64 0, .cpx 0 0, .sl .full 7 [], .int .i64 0]), oN (.st 7 (.t 3) (.t 8))])
  (.keep [0, 2, 3])) (.seq 
 (.block 0 
 (.gseq (.keep [0, 2, 3]) (.loop (.seq (.seq 
 (.seqg (.reg [oQ 9 (.mv (.t 0)), oE 10 (.call (.c (.fn F_fathomref04_reader_is [])) [(.t 9), (.c (.str ⟨#[43]⟩))]), oQ 11 (.mv (.t 10)), oFQ 12 11 (.mv (.t 0)), oFE 13 11 (.call (.c (.fn F_fathomref04_reader_is [])) [(.t 12), (.c (.str ⟨#[45]⟩))]), oQ 14 (.pick (.t 11) (.c (.bool true)) (.t 13))])
  (.keep [0, 2, 3, 14])) 
 (.cond (.t 14) .skip (.exit 0))) 
 (.block 1 (.seq 
 (.seqg (.reg [oQ 15 (.mv (.t 0)), oE 16 (.call (.c (.fn F_fathomref04_reader_next [])) [(.t 15)]), oE 4 (.alloc [.int .i64 0, .str ⟨#[]⟩, .cpx 0 0, .int .i64 0]), oN (.st 4 (.t 4) (.t 16))])
  (.keep [0, 2, 3, 4])) (.seq 
 (.seqg (.reg [oQ 17 (.mv (.t 0)), oQ 18 (.chk (.t 17)), oQ 19 (.fa 1 (.t 18)), oQ 20 (.ld 1 false (.t 19)), oQ 21 (.bin .add .num (.t 20) (.c (.int .i64 1))), oQ 22 (.chk (.t 17)), oQ 23 (.fa 1 (.t 22)), oN (.st 1 (.t 23) (.t 21))])
  (.keep [0, 2, 3, 4])) (.seq 
 (.seqg (.reg [oQ 24 (.mv (.t 0)), oE 25 (.call (.c (.fn F_fathomref04_reader_term [])) [(.t 24)]), oE 5 (.alloc [.int .i64 0, .str ⟨#[]⟩, .str ⟨#[]⟩, .int .i64 0, .cpx 0 0, .sl .full 7 [], .int .i64 0]), oN (.st 7 (.t 5) (.t 25))])
  (.keep [0, 2, 3, 4, 5])) (.seq 
 (.seqg (.reg [oQ 6 (.mv (.c (.int .i64 8)))])
  (.keep [0, 2, 3, 4, 5, 6])) (.seq (.seq 
 (.seqg (.reg [oQ 26 (.fa 1 (.t 4)), oQ 27 (.ld 1 false (.t 26)), oQ 28 (.bin .eql .other (.t 27) (.c (.str ⟨#[45]⟩)))])
  (.keep [0, 2, 3, 4, 5, 6, 28])) 
 (.cond (.t 28) 
 (.seqg (.reg [oQ 6 (.mv (.c (.int .i64 9)))])
  (.keep [0, 2, 3, 4, 5, 6])) .skip)) 
 (.seqg (.reg [oQ 29 (.mv (.t 6)), oQ 30 (.ld 7 true (.t 3)), oQ 31 (.ld 7 true (.t 5)), oQ 32 (.ld 4 true (.t 4)), oQ 33 (.call F_fathomref04_two [(.t 29), (.t 30), (.t 31), (.t 32)]), oN (.st 7 (.t 3) (.t 33))])
  (.keep [0, 2, 3])))))))))))) (.seq 
 (.seqg (.reg [oQ 34 (.ld 7 true (.t 3)), oN (.st 7 (.t 2) (.t 34))])
  (.keep [2])) .ret))))
def r_fathomref04_reader_sum : List ARes := [.c 2 7 true]
theorem w_fathomref04_reader_sum : FnW Tryz.prog F_fathomref04_reader_sum c_fathomref04_reader_sum r_fathomref04_reader_sum 35 := ⟨Tryz.f146, (Tryz.f146).body.get rfl, by kernel_rfl, Tryz.func146, by kernel_rfl, by kernel_rfl, by kernel_rfl, by kernel_rfl⟩
def c_fathomref04_reader_term : ACode := (.seq 
 (.seqg (.reg [oE 2 (.alloc [.int .i64 0, .str ⟨#[]⟩, .str ⟨#[]⟩, .int .i64 0, .cpx 0 0, .sl .full 7 [], .int .i64 0])])
  (.keep [0, 2])) (.seq 
 (.seqg (.reg [oQ 7 (.mv (.t 0)), oE 8 (.call (.c (.fn F_fathomref04_reader_unit [])) [(.t 7)]), oE 3 (.alloc [.int .i64 0, .str ⟨#[]⟩, .str ⟨#[]⟩, .int .i64 0, .cpx 0 0, .sl .full 7 [], .int .i64 0]), oN (.st 7 (.t 3) (.t 8))])
  (.keep [0, 2, 3])) (.seq 
 (.block 0 
 (.gseq (.keep [0, 2, 3]) (.loop (.seq (.seq 
 (.seqg (.reg [oQ 9 (.mv (.t 0)), oE 10 (.call (.c (.fn F_fathomref04_reader_is [])) [(.t 9), (.c (.str ⟨#[42]⟩))]), oQ 11 (.mv (.t 10)), oFQ 12 11 (.mv (.t 0)), oFE 13 11 (.call (.c (.fn F_fathomref04_reader_is [])) [(.t 12), (.c (.str ⟨#[47]⟩))]), oQ 14 (.pick (.t 11) (.c (.bool true)) (.t 13))])
  (.keep [0, 2, 3, 14])) 
 (.cond (.t 14) .skip (.exit 0))) 
 (.block 1 (.seq 
 (.seqg (.reg [oQ 15 (.mv (.t 0)), oE 16 (.call (.c (.fn F_fathomref04_reader_next [])) [(.t 15)]), oE 4 (.alloc [.int .i64 0, .str ⟨#[]⟩, .cpx 0 0, .int .i64 0]), oN (.st 4 (.t 4) (.t 16))])
  (.keep [0, 2, 3, 4])) (.seq 
 (.seqg (.reg [oQ 17 (.mv (.t 0)), oQ 18 (.chk (.t 17)), oQ 19 (.fa 1 (.t 18)), oQ 20 (.ld 1 false (.t 19)), oQ 21 (.bin .add .num (.t 20) (.c (.int .i64 1))), oQ 22 (.chk (.t 17)), oQ 23 (.fa 1 (.t 22)), oN (.st 1 (.t 23) (.t 21))])
  (.keep [0, 2, 3, 4])) (.seq 
 (.seqg (.reg [oQ 24 (.mv (.t 0)), oE 25 (.call (.c (.fn F_fathomref04_reader_unit [])) [(.t 24)]), oE 5 (.alloc [.int .i64 0, .str ⟨#[]⟩, .str ⟨#[]⟩, .int .i64 0, .cpx 0 0, .sl .full 7 [], .int .i64 0]), oN (.st 7 (.t 5) (.t 25))])
  (.keep [0, 2, 3, 4, 5])) (.seq 
 (.seqg (.reg [oQ 6 (.mv (.c (.int .i64 10)))])
  (.keep [0, 2, 3, 4, 5, 6])) (.seq (.seq 
 (.seqg (.reg [oQ 26 (.fa 1 (.t 4)), oQ 27 (.ld 1 false (.t 26)), oQ 28 (.bin .eql .other (.t 27) (.c (.str ⟨#[47]⟩)))])
  (.keep [0, 2, 3, 4, 5, 6, 28])) 
 (.cond (.t 28) 
 (.seqg (.reg [oQ 6 (.mv (.c (.int .i64 11)))])
  (.keep [0, 2, 3, 4, 5, 6])) .skip)) 
 (.seqg (.reg [oQ 29 (.mv (.t 6)), oQ 30 (.ld 7 true (.t 3)), oQ 31 (.ld 7 true (.t 5)), oQ 32 (.ld 4 true (.t 4)), oQ 33 (.call F_fathomref04_two [(.t 29), (.t 30), (.t 31), (.t 32)]), oN (.st 7 (.t 3) (.t 33))])
  (.keep [0, 2, 3])))))))))))) (.seq 
 (.seqg (.reg [oQ 34 (.ld 7 true (.t 3)), oN (.st 7 (.t 2) (.t 34))])
  (.keep [2])) .ret))))
def r_fathomref04_reader_term : List ARes := [.c 2 7 true]
theorem w_fathomref04_reader_term : FnW Tryz.prog F_fathomref04_reader_term c_fathomref04_reader_term r_fathomref04_reader_term 35 := ⟨Tryz.f147, (Tryz.f147).body.get rfl, by kernel_rfl, Tryz.func147, by kernel_rfl, by kernel_rfl, by kernel_rfl, by kernel_rfl⟩
def c_fathomref04_reader_unit : ACode := (.seq 
 (.seqg (.reg [oE 2 (.alloc [.int .i64 0, .str ⟨#[]⟩, .str ⟨#[]⟩, .int .i64 0, .cpx 0 0, .sl .full 7 [], .int .i64 0])])
  (.keep [0, 2])) (.seq 
 (.seqg (.reg [oQ 7 (.mv (.t 0)), oE 8 (.call (.c (.fn F_fathomref04_reader_next [])) [(.t 7)]), oE 3 (.alloc [.int .i64 0, .str ⟨#[]⟩, .cpx 0 0, .int .i64 0]), oN (.st 4 (.t 3) (.t 8))])
  (.keep [0, 2, 3])) (.seq (.seq 
 (.seqg (.reg [oQ 9 (.mv (.t 0)), oQ 10 (.chk (.t 9)), oQ 11 (.fa 2 (.t 10)), oQ 12 (.ld 1 false (.t 11)), oQ 13 (.bin .neq .num (.t 12) (.c (.int .i64 0)))])
  (.keep [0, 2, 3, 13])) 
 (.cond (.t 13) (.seq 
 (.seqg (.reg [oQ 14 (.bld [.int .i64 0, .str ⟨#[]⟩, .str ⟨#[]⟩, .int .i64 0, .cpx 0 0, .sl .full 7 [], .int .i64 0] []), oN (.st 7 (.t 2) (.t 14))])
  (.keep [2])) .ret) .skip)) (.seq 
 (.block 0 (.seq 
 (.seqg (.reg [oQ 16 (.fa 0 (.t 3)), oQ 17 (.ld 1 false (.t 16)), oQ 18 (.bin .eql .num (.t 17) (.c (.int .i64 2))), oQ 15 (.mv (.t 18))])
  (.keep [0, 2, 3, 15])) 
 (.cond (.t 15) (.seq 
 (.seqg (.reg [oQ 19 (.mv (.t 0)), oQ 20 (.chk (.t 19)), oQ 21 (.fa 1 (.t 20)), oQ 22 (.ld 1 false (.t 21)), oQ 23 (.bin .add .num (.t 22) (.c (.int .i64 1))), oQ 24 (.chk (.t 19)), oQ 25 (.fa 1 (.t 24)), oN (.st 1 (.t 25) (.t 23))])
  (.keep [2, 3])) (.seq 
 (.seqg (.reg [oQ 26 (.fa 2 (.t 3)), oQ 27 (.ld 1 false (.t 26)), oQ 28 (.fa 3 (.t 3)), oQ 29 (.ld 1 false (.t 28)), oQ 30 (.bld [.int .i64 0, .str ⟨#[]⟩, .str ⟨#[]⟩, .int .i64 0, .cpx 0 0, .sl .full 7 [], .int .i64 0] [(0, 1, (.c (.int .i64 1))), (4, 1, (.t 27)), (6, 1, (.t 29))]), oN (.st 7 (.t 2) (.t 30))])
  (.keep [2])) .ret)) (.seq 
 (.seqg (.reg [oQ 32 (.fa 0 (.t 3)), oQ 33 (.ld 1 false (.t 32)), oQ 34 (.bin .eql .num (.t 33) (.c (.int .i64 0))), oQ 31 (.mv (.t 34))])
  (.keep [0, 2, 3, 31])) 
 (.cond (.t 31) (.seq 
 (.seqg (.reg [oQ 35 (.mv (.t 0)), oQ 36 (.chk (.t 35)), oQ 37 (.fa 1 (.t 36)), oQ 38 (.ld 1 false (.t 37)), oQ 39 (.bin .add .num (.t 38) (.c (.int .i64 1))), oQ 40 (.chk (.t 35)), oQ 41 (.fa 1 (.t 40)), oN (.st 1 (.t 41) (.t 39))])
  (.keep [0, 2, 3])) (.seq 
 (.seqg (.reg [oQ 42 (.mv (.t 0)), oQ 43 (.ld 4 true (.t 3)), oE 44 (.call (.c (.fn F_fathomref04_reader_named [])) [(.t 42), (.t 43)]), oN (.st 7 (.t 2) (.t 44))])
  (.keep [2])) .ret)) (.seq 
 (.seqg (.reg [oQ 46 (.mv (.t 0)), oE 47 (.call (.c (.fn F_fathomref04_reader_take [])) [(.t 46), (.c (.str ⟨#[40]⟩))]), oQ 45 (.mv (.t 47))])
  (.keep [0, 2, 3, 45])) 
 (.cond (.t 45) (.seq 
 (.seqg (.reg [oQ 48 (.mv (.t 0)), oE 49 (.call (.c (.fn F_fathomref04_reader_expr [])) [(.t 48)]), oE 4 (.alloc [.int .i64 0, .str ⟨#[]⟩, .str ⟨#[]⟩, .int .i64 0, .cpx 0 0, .sl .full 7 [], .int .i64 0]), oN (.st 7 (.t 4) (.t 49))])
  (.keep [0, 2, 4])) (.seq 
 (.seqg (.reg [oQ 50 (.mv (.t 0)), oE 51 (.call (.c (.fn F_fathomref04_reader_want [])) [(.t 50), (.c (.str ⟨#[41]⟩))])])
  (.keep [2, 4])) (.seq 
 (.seqg (.reg [oQ 52 (.ld 7 true (.t 4)), oN (.st 7 (.t 2) (.t 52))])
  (.keep [2])) .ret))) (.seq 
 (.seqg (.reg [oQ 54 (.fa 0 (.t 3)), oQ 55 (.ld 1 false (.t 54)), oQ 56 (.bin .neq .num (.t 55) (.c (.int .i64 1))), oQ 57 (.mv (.t 56)), oFQ 58 57 (.fa 1 (.t 3)), oFQ 59 57 (.ld 1 false (.t 58)), oFQ 60 57 (.call F_fathomref04_word [(.t 59)]), oFQ 61 57 (.bin .eql .num (.t 60) (.c (.int .i64 0))), oQ 62 (.pick (.t 57) (.c (.bool true)) (.t 61)), oQ 53 (.mv (.t 62))])
  (.keep [0, 2, 3, 53])) 
 (.cond (.t 53) (.seq 
 (.seqg (.reg [oQ 63 (.mv (.t 0)), oE 64 (.call (.c (.fn F_fathomref04_reader_fail [])) [(.t 63), (.c (.int .i64 21))])])
  (.keep [2])) (.seq 
 (.seqg (.reg [oQ 65 (.bld [.int .i64 0, .str ⟨#[]⟩, .str ⟨#[]⟩, .int .i64 0, .cpx 0 0, .sl .full 7 [], .int .i64 0] []), oN (.st 7 (.t 2) (.t 65))])
  (.keep [2])) .ret)) .skip))))))))) (.seq 
 (.seqg (.reg [oQ 66 (.mv (.t 0)), oQ 67 (.chk (.t 66)), oQ 68 (.fa 1 (.t 67)), oQ 69 (.ld 1 false (.t 68)), oQ 70 (.bin .add .num (.t 69) (.c (.int .i64 1))), oQ 71 (.chk (.t 66)), oQ 72 (.fa 1 (.t 71)), oN (.st 1 (.t 72) (.t 70))])
  (.keep [0, 2, 3])) (.seq 
 (.gseq (.freezep 3) (.seqg (.drb [oQ 73 (.fa 1 (.t 3)), oQ 74 (.ld 1 false (.t 73)), oQ 75 (.call F_fathomref04_word [(.t 74)]), oQ 76 (.fa 3 (.t 3)), oQ 77 (.ld 1 false (.t 76)), oQ 78 (.bld [.int .i64 0, .str ⟨#[]⟩, .str ⟨#[]⟩, .int .i64 0, .cpx 0 0, .sl .full 7 [], .int .i64 0] [(0, 1, (.t 75)), (6, 1, (.t 77))]), oE 5 (.alloc [.int .i64 0, .str ⟨#[]⟩, .str ⟨#[]⟩, .int .i64 0, .cpx 0 0, .sl .full 7 [], .int .i64 0]), oN (.st 7 (.t 5) (.t 78))] [0, 1, 2, 3, 4, 5, 6, 7])
  (.keep [0, 2, 5]))) (.seq (.seq 
 (.seqg (.reg [oQ 79 (.fa 0 (.t 5)), oQ 80 (.ld 1 false (.t 79))])
  (.keep [0, 2, 5, 80])) 
 (.block 1 (.seq 
 (.seqg (.reg [oQ 82 (.bin .eql .num (.t 80) (.c (.int .i64 5))), oQ 81 (.mv (.t 82))])
  (.keep [0, 2, 5, 80, 81])) 
 (.cond (.t 81) 
 (.seqg (.reg [oQ 83 (.mv (.t 0)), oE 84 (.call (.c (.fn F_fathomref04_reader_typ [])) [(.t 83)]), oQ 85 (.fa 3 (.t 5)), oN (.st 1 (.t 85) (.t 84))])
  (.keep [2, 5])) (.seq (.seq 
 (.seqg (.reg [oQ 87 (.bin .eql .num (.t 80) (.c (.int .i64 14))), oQ 86 (.mv (.t 87))])
  (.keep [0, 2, 5, 80, 86])) 
 (.cond (.t 86) .skip (.seq 
 (.seqg (.reg [oQ 88 (.bin .eql .num (.t 80) (.c (.int .i64 15))), oQ 86 (.mv (.t 88))])
  (.keep [0, 2, 5, 80, 86])) 
 (.cond (.t 86) .skip (.seq 
 (.seqg (.reg [oQ 89 (.bin .eql .num (.t 80) (.c (.int .i64 16))), oQ 86 (.mv (.t 89))])
  (.keep [0, 2, 5, 80, 86])) 
 (.cond (.t 86) .skip 
 (.seqg (.reg [oQ 90 (.bin .eql .num (.t 80) (.c (.int .i64 17))), oQ 86 (.mv (.t 90))])
  (.keep [0, 2, 5, 86])))))))) 
 (.cond (.t 86) (.seq 
 (.seqg (.reg [oQ 91 (.mv (.t 0)), oE 92 (.call (.c (.fn F_fathomref04_reader_want [])) [(.t 91), (.c (.str ⟨#[40]⟩))])])
  (.keep [0, 2, 5])) (.seq 
 (.seqg (.reg [oQ 93 (.mv (.t 0)), oE 94 (.call (.c (.fn F_fathomref04_reader_expr [])) [(.t 93)]), oE 6 (.alloc [.int .i64 0, .str ⟨#[]⟩, .str ⟨#[]⟩, .int .i64 0, .cpx 0 0, .sl .full 7 [], .int .i64 0]), oN (.st 7 (.t 6) (.t 94))])
  (.keep [0, 2, 5, 6])) (.seq 
 (.seqg (.reg [oQ 95 (.mv (.t 0)), oE 96 (.call (.c (.fn F_fathomref04_reader_want [])) [(.t 95), (.c (.str ⟨#[41]⟩))])])
  (.keep [2, 5, 6])) 
 (.seqg (.reg [oQ 97 (.ld 7 true (.t 6)), oQ 98 (.bsl 7 [(.t 97)]), oQ 99 (.fa 5 (.t 5)), oN (.st 1 (.t 99) (.t 98))])
  (.keep [2, 5]))))) .skip)))))) (.seq 
 (.seqg (.reg [oQ 100 (.ld 7 true (.t 5)), oN (.st 7 (.t 2) (.t 100))])
  (.keep [2])) .ret))))))))
def r_fathomref04_reader_unit : List ARes := [.c 2 7 true]
theorem w_fathomref04_reader_unit : FnW Tryz.prog F_fathomref04_reader_unit c_fathomref04_reader_unit r_fathomref04_reader_unit 101 := ⟨Tryz.f148, (Tryz.f148).body.get rfl, by kernel_rfl, Tryz.func148, by kernel_rfl, by kernel_rfl, by kernel_rfl, by kernel_rfl⟩
def c_fathomref04_reader_named : ACode := (.seq 
 (.seqg (.reg [oQ 3 (.box (.t 1)), oE 4 (.alloc [.int .i64 0, .str ⟨#[]⟩, .str ⟨#[]⟩, .int .i64 0, .cpx 0 0, .sl .full 7 [], .int .i64 0])])
  (.keep [0, 3, 4])) (.seq (.seq 
 (.seqg (.reg [oQ 7 (.mv (.t 0)), oE 8 (.call (.c (.fn F_fathomref04_reader_take [])) [(.t 7), (.c (.str ⟨#[40]⟩))]), oQ 9 (.not (.t 8))])
  (.keep [0, 3, 4, 9])) 
 (.cond (.t 9) (.seq 
 (.seqg (.reg [oQ 10 (.fa 1 (.t 3)), oQ 11 (.ld 1 false (.t 10)), oQ 12 (.fa 3 (.t 3)), oQ 13 (.ld 1 false (.t 12)), oQ 14 (.bld [.int .i64 0, .str ⟨#[]⟩, .str ⟨#[]⟩, .int .i64 0, .cpx 0 0, .sl .full 7 [], .int .i64 0] [(0, 1, (.c (.int .i64 6))), (1, 1, (.t 11)), (6, 1, (.t 13))]), oN (.st 7 (.t 4) (.t 14))])
  (.keep [4])) .ret) .skip)) (.seq 
 (.seqg (.reg [oQ 15 (.fa 1 (.t 3)), oQ 16 (.ld 1 false (.t 15)), oQ 17 (.fa 3 (.t 3)), oQ 18 (.ld 1 false (.t 17)), oQ 19 (.bld [.int .i64 0, .str ⟨#[]⟩, .str ⟨#[]⟩, .int .i64 0, .cpx 0 0, .sl .full 7 [], .int .i64 0] [(0, 1, (.c (.int .i64 7))), (1, 1, (.t 16)), (6, 1, (.t 18))]), oE 5 (.alloc [.int .i64 0, .str ⟨#[]⟩, .str ⟨#[]⟩, .int .i64 0, .cpx 0 0, .sl .full 7 [], .int .i64 0]), oN (.st 7 (.t 5) (.t 19))])
  (.keep [0, 4, 5])) (.seq 
 (.block 0 
 (.gseq (.keep [0, 4, 5]) (.loop (.seq (.seq 
 (.seqg (.reg [oQ 20 (.mv (.t 0)), oQ 21 (.chk (.t 20)), oQ 22 (.fa 2 (.t 21)), oQ 23 (.ld 1 false (.t 22)), oQ 24 (.bin .eql .num (.t 23) (.c (.int .i64 0))), oQ 25 (.mv (.t 24)), oTQ 26 25 (.mv (.t 0)), oTE 27 25 (.call (.c (.fn F_fathomref04_reader_is [])) [(.t 26), (.c (.str ⟨#[41]⟩))]), oTQ 28 25 (.not (.t 27)), oQ 29 (.pick (.t 25) (.t 28) (.c (.bool false)))])
  (.keep [0, 4, 5, 29])) 
 (.cond (.t 29) .skip (.exit 0))) 
 (.block 1 (.seq (.seq 
 (.seqg (.reg [oQ 30 (.fa 5 (.t 5)), oQ 31 (.ld 1 false (.t 30)), oQ 32 (.len (.t 31)), oQ 33 (.bin .gtr .num (.t 32) (.c (.int .i64 0)))])
  (.keep [0, 4, 5, 33])) 
 (.cond (.t 33) 
 (.seqg (.reg [oQ 34 (.mv (.t 0)), oE 35 (.call (.c (.fn F_fathomref04_reader_want [])) [(.t 34), (.c (.str ⟨#[44]⟩))])])
  (.keep [0, 4, 5])) .skip)) (.seq 
 (.seqg (.reg [oQ 36 (.mv (.t 0)), oE 37 (.call (.c (.fn F_fathomref04_reader_expr [])) [(.t 36)]), oE 6 (.alloc [.int .i64 0, .str ⟨#[]⟩, .str ⟨#[]⟩, .int .i64 0, .cpx 0 0, .sl .full 7 [], .int .i64 0]), oN (.st 7 (.t 6) (.t 37))])
  (.keep [0, 4, 5, 6])) 
 (.seqg (.reg [oQ 38 (.fa 5 (.t 5)), oQ 39 (.ld 1 false (.t 38)), oQ 40 (.ld 7 true (.t 6)), oQ 41 (.bsl 7 [(.t 40)]), oE 42 (.app 7 96 (.t 39) (.t 41)), oQ 43 (.fa 5 (.t 5)), oN (.st 1 (.t 43) (.t 42))])
  (.keep [0, 4, 5]))))))))) (.seq 
 (.seqg (.reg [oQ 44 (.mv (.t 0)), oE 45 (.call (.c (.fn F_fathomref04_reader_want [])) [(.t 44), (.c (.str ⟨#[41]⟩))])])
  (.keep [4, 5])) (.seq 
 (.seqg (.reg [oQ 46 (.ld 7 true (.t 5)), oN (.st 7 (.t 4) (.t 46))])
  (.keep [4])) .ret))))))
def r_fathomref04_reader_named : List ARes := [.c 4 7 true]
theorem w_fathomref04_reader_named : FnW Tryz.prog F_fathomref04_reader_named c_fathomref04_reader_named r_fathomref04_reader_named 47 := ⟨Tryz.f149, (Tryz.f149).body.get rfl, by kernel_rfl, Tryz.func149, by kernel_rfl, by kernel_rfl, by kernel_rfl, by kernel_rfl⟩
def c_fathomref04_word : ACode := (.seq 
 (.seqg (.reg [oQ 2 (.mv (.c (.int .i64 0)))])
  (.keep [0])) (.seq (.seq 
 (.seqg (.reg [oQ 3 (.mv (.t 0))])
  (.keep [3])) 
 (.block 0 (.seq 
 (.seqg (.reg [oQ 5 (.bin .eql .other (.t 3) (.c (.str ⟨#[116, 114, 117, 101]⟩))), oQ 4 (.mv (.t 5))])
  (.keep [3, 4])) 
 (.cond (.t 4) (.seq 
 (.seqg (.reg [oQ 2 (.mv (.c (.int .i64 2)))])
  (.keep [2])) .ret) (.seq 
 (.seqg (.reg [oQ 7 (.bin .eql .other (.t 3) (.c (.str ⟨#[102, 97, 108, 115, 101]⟩))), oQ 6 (.mv (.t 7))])
  (.keep [3, 6])) 
 (.cond (.t 6) (.seq 
 (.seqg (.reg [oQ 2 (.mv (.c (.int .i64 3)))])
  (.keep [2])) .ret) (.seq 
 (.seqg (.reg [oQ 9 (.bin .eql .other (.t 3) (.c (.str ⟨#[110, 105, 108]⟩))), oQ 8 (.mv (.t 9))])
  (.keep [3, 8])) 
 (.cond (.t 8) (.seq 
 (.seqg (.reg [oQ 2 (.mv (.c (.int .i64 4)))])
  (.keep [2])) .ret) (.seq 
 (.seqg (.reg [oQ 11 (.bin .eql .other (.t 3) (.c (.str ⟨#[102, 97, 105, 108]⟩))), oQ 10 (.mv (.t 11))])
  (.keep [3, 10])) 
 (.cond (.t 10) (.seq 
 (.seqg (.reg [oQ 2 (.mv (.c (.int .i64 5)))])
  (.keep [2])) .ret) (.seq 
 (.seqg (.reg [oQ 13 (.bin .eql .other (.t 3) (.c (.str ⟨#[110, 111, 116]⟩))), oQ 12 (.mv (.t 13))])
  (.keep [3, 12])) 
 (.cond (.t 12) (.seq 
 (.seqg (.reg [oQ 2 (.mv (.c (.int .i64 14)))])
  (.keep [2])) .ret) (.seq 
 (.seqg (.reg [oQ 15 (.bin .eql .other (.t 3) (.c (.str ⟨#[114, 101]⟩))), oQ 14 (.mv (.t 15))])
  (.keep [3, 14])) 
 (.cond (.t 14) (.seq 
 (.seqg (.reg [oQ 2 (.mv (.c (.int .i64 15)))])
  (.keep [2])) .ret) (.seq 
 (.seqg (.reg [oQ 17 (.bin .eql .other (.t 3) (.c (.str ⟨#[105, 109]⟩))), oQ 16 (.mv (.t 17))])
  (.keep [3, 16])) 
 (.cond (.t 16) (.seq 
 (.seqg (.reg [oQ 2 (.mv (.c (.int .i64 16)))])
  (.keep [2])) .ret) (.seq 
 (.seqg (.reg [oQ 19 (.bin .eql .other (.t 3) (.c (.str ⟨#[99, 111, 110, 106]⟩))), oQ 18 (.mv (.t 19))])
  (.keep [18])) 
 (.cond (.t 18) (.seq 
 (.seqg (.reg [oQ 2 (.mv (.c (.int .i64 17)))])
  (.keep [2])) .ret) .skip)))))))))))))))))) (.seq 
 (.seqg (.reg [oQ 2 (.mv (.c (.int .i64 0)))])
  (.keep [2])) .ret)))
def r_fathomref04_word : List ARes := [.t 2]
theorem w_fathomref04_word : FnW Tryz.prog F_fathomref04_word c_fathomref04_word r_fathomref04_word 20 := ⟨Tryz.f150, (Tryz.f150).body.get rfl, by kernel_rfl, Tryz.func150, by kernel_rfl, by kernel_rfl, by kernel_rfl, by kernel_rfl⟩
end Go.Proofs.Fathom
